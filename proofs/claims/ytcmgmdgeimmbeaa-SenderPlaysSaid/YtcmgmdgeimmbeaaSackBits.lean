/- The walk of package sack: Behind. -/
import Derived.Test.YtcmgmdgeimmbeaaSackTell
namespace Go.Proofs.Ytcmgmdgeimmbeaa
open Go.RowKit
set_option linter.unusedVariables false
set_option linter.unusedSimpArgs false
def u8row (L : List Nat) : Array Value := (L.map fun n : Nat => Value.int .u8 (n : Int)).toArray
theorem u8row_get (L : List Nat) (j : Nat) (x : Nat) (h : L[j]? = some x) : (u8row L)[j]? = some (.int .u8 (x : Int)) := by
  unfold u8row; rw [List.getElem?_toArray, List.getElem?_map, h]; rfl
theorem u8row_set (L : List Nat) (j : Nat) (x : Nat) : (u8row L).setIfInBounds j (.int .u8 (x : Int)) = u8row (L.set j x) := by
  unfold u8row
  apply Array.ext_getElem?
  intro k
  rw [Array.getElem?_setIfInBounds, List.getElem?_toArray, List.getElem?_toArray, List.getElem?_map, List.getElem?_map, List.getElem?_set]
  by_cases e : j = k
  · subst e
    by_cases h : j < L.length
    · simp [h]
    · simp [h]
  · simp [e]
theorem hasB_behind (B : List Bool) (j : Nat) : hasB B ((baseB B : Nat) + 1 + (j : Int)) = behindF B j := by
  have e : ((baseB B : Nat) + 1 + (j : Int)) = ((baseB B + 1 + j : Nat) : Int) := by omega
  rw [e, hasB_nat]; rfl
theorem u8_or_pow (x r : Nat) (hx : x < 256) (hr : r < 8) : bits .or .u8 (x : Int) (2 ^ r % 256) = ((x ||| 2 ^ r : Nat) : Int) := by
  have h2 : 2 ^ r < 256 := Nat.lt_of_lt_of_le (Nat.pow_lt_pow_right (by omega) hr) (by decide)
  have h3 : ((2 : Int) ^ r % 256) = ((2 ^ r : Nat) : Int) := by
    rw [show (2 : Int) ^ r = ((2 ^ r : Nat) : Int) by simp]
    generalize 2 ^ r = P at h2 ⊢
    omega
  rw [h3]
  generalize 2 ^ r = P at h2 ⊢
  rw [u8_or _ _ (by omega) (by omega) (by omega) (by omega)]
  rfl
theorem info_u8 : (Try.prog.info? 5).map (fun i => (i.zero, i.size, i.bytes)) = some (some (.int .u8 0), 1, 1) := by kernel_rfl
theorem upTo_le (k : Int) : upTo k ≤ 256 := by unfold upTo; omega
end Go.Proofs.Ytcmgmdgeimmbeaa
