/- The walks of package sack: Has at whatever place, Set, New. -/
import Derived.Test.YtpgcdfdfbcmodaaSackWalk
import Derived.StillTailTactics
namespace Go.Proofs.Ytpgcdfdfbcmodaa
open Go.RowKit
set_option linter.unusedVariables false
set_option linter.unusedSimpArgs false
set_option maxRecDepth 100000 in
set_option maxHeartbeats 2000000 in
theorem Has_calls (w : World) (g : Nat) (B : List Bool) (i : Int) (h : Mp B g w) :
   Calls Try.prog 43 #[.pointer (some ⟨g, 0, none⟩), .int .i64 i] w fun e w' => e = .returned (.bool (hasB B i)) ∧ w = w' := by
  by_cases h0 : i < 0
  · rw [hasB_neg B i h0]
    go_enter Try.func43, Try.ntmps43
    go_wp2
    go_ret
    exact ⟨rfl, rfl⟩
  · obtain ⟨i, rfl⟩ := Int.eq_ofNat_of_zero_le (show 0 ≤ i by omega)
    rw [hasB_nat]
    by_cases hi : i < B.length
    · exact Has_in w g B i h hi
    · rw [getD_ge (by omega)]
      have hlen := fun w h => Len_calls w g B h
      have H := Lib.hid h; clear h
      have HL := Lib.hid hlen; clear hlen
      go_enter Try.func43, Try.ntmps43
      go_wp2_with fail
      with_reducible refine (HL.out _ H.out).mono ?_
      rintro e w1 ⟨rfl, rfl⟩
      go_wp2
      go_ret
      exact ⟨rfl, rfl⟩
set_option maxRecDepth 100000 in
set_option maxHeartbeats 2000000 in
theorem Has_nil (w : World) (i : Int) :
   Calls Try.prog 43 #[.pointer none, .int .i64 i] w fun e w' => e = .returned (.bool false) ∧ w = w' := by
  by_cases h0 : i < 0
  · go_enter Try.func43, Try.ntmps43
    go_wp2
    go_ret
    exact ⟨rfl, rfl⟩
  · have h1 : 0 ≤ i := by omega
    go_enter Try.func43, Try.ntmps43
    go_wp2_with fail
    refine (Len_nil _).mono ?_
    rintro e w1 ⟨rfl, rfl⟩
    go_wp2
    go_ret
    exact ⟨rfl, rfl⟩
theorem row_setCell (w : World) (g i : Nat) (cs : Array Value) (t : TypeId) (fr : Nat × Nat) (v : Value) (hg : w.heap[g]? = some (.cells cs t fr)) :
    (w.setCell ⟨g, i, none⟩ v).heap[g]? = some (.cells (cs.setIfInBounds i v) t fr) := by
  simp only [World.setCell, Array.getElem?_modify, if_true, hg]
  rfl
/-- Nothing has turned but one block. -/
structure Upd (g : Nat) (w w' : World) : Prop where
  os : w'.os = w.os
  tape : w'.tape = w.tape
  output : w'.output = w.output
  size : w'.heap.size = w.heap.size
  other : ∀ k, k ≠ g → w'.heap[k]? = w.heap[k]?
theorem Upd.refl (g : Nat) (w : World) : Upd g w w := ⟨rfl, rfl, rfl, rfl, fun _ _ => rfl⟩
theorem Upd.trans {g : Nat} {a b c : World} (h : Upd g a b) (k : Upd g b c) : Upd g a c := ⟨k.os.trans h.os, k.tape.trans h.tape, k.output.trans h.output, k.size.trans h.size, fun i hi => (k.other i hi).trans (h.other i hi)⟩
theorem Upd.below {g B : Nat} {w w' : World} (h : Upd g w w') (hB : B ≤ g) : Below B w w' := ⟨h.os, h.tape, h.output, Nat.le_of_eq h.size.symm, fun k hk => h.other k (by omega)⟩
theorem Upd.mp {B : List Bool} {g k : Nat} {w w' : World} (h : Upd g w w') (hk : k ≠ g) (m : Mp B k w) : Mp B k w' := ⟨(h.other k hk).trans m.row, m.one, m.le⟩
/-- With one more there. -/
def setB (B : List Bool) (i : Int) : List Bool := if 0 ≤ i then B.set i.toNat true else B
def newI (B : List Bool) (i : Int) : Bool := decide (0 ≤ i) && decide (i < B.length) && !hasB B i
theorem mapRow_set (B : List Bool) (i : Nat) (h : i < B.length) (hl : B.length ≤ 256) : (mapRow B).setIfInBounds (1 + i / 64) (.int .u64 ((wd B (i / 64) ||| 2 ^ (i % 64) : Nat) : Int)) = mapRow (B.set i true) := by
  have h0 := wd_set B i 0 h
  have h1 := wd_set B i 1 h
  have h2 := wd_set B i 2 h
  have h3 := wd_set B i 3 h
  unfold mapRow
  rw [List.length_set]
  have hq : i / 64 = 0 ∨ i / 64 = 1 ∨ i / 64 = 2 ∨ i / 64 = 3 := by omega
  rcases hq with hq | hq | hq | hq <;> rw [hq] at h0 h1 h2 h3 ⊢ <;> rw [h0, h1, h2, h3] <;> simp
set_option maxRecDepth 100000 in
set_option maxHeartbeats 2000000 in
theorem Set_new (w : World) (g : Nat) (B : List Bool) (i : Nat) (h : Mp B g w) (hi : i < B.length) (hb : B.getD i false = false) :
   Calls Try.prog 38 #[.pointer (some ⟨g, 0, none⟩), .int .i64 i] w fun e w' => e = .returned (.bool true) ∧ Mp (B.set i true) g w' ∧ Upd g w w' := by
  have hle := h.le
  have hc := h.word (i / 64) (by omega)
  have hxl := wd_lt B (i / 64)
  have hrow := mapRow_set B i hi hle
  have hlen := fun w h => Len_calls w g B h
  have hhas := fun w h => Has_calls w g B i h
  rw [hasB_nat, hb] at hhas
  have hset := row_setCell w.drew g (1 + i / 64) _ _ _ (.int .u64 ((wd B (i / 64) ||| 2 ^ (i % 64) : Nat) : Int)) h.row
  rw [hrow] at hset
  have H := Lib.hid h; clear h
  have HL := Lib.hid hlen; clear hlen
  have HH := Lib.hid hhas; clear hhas
  have HR := Lib.hid hrow; clear hrow
  have HS := Lib.hid hset; clear hset
  clear hb
  generalize wd B (i / 64) = x at *
  have hq : IntKind.i64.wrap ((i : Int) / 64) = ((i / 64 : Nat) : Int) := by
    rw [show (i : Int) / 64 = ((i / 64 : Nat) : Int) by simp]; exact IntWalk.i64_in _ (by omega)
  have hr : Int.tmod (i : Int) 64 = ((i % 64 : Nat) : Int) := rfl
  have hq4 : i / 64 < 4 := by omega
  have hr64 : i % 64 < 64 := by omega
  generalize i / 64 = q at *
  generalize i % 64 = r at *
  have hqc : (q : Int) < 4 := by omega
  go_enter Try.func38, Try.ntmps38
  go_wp2_with fail
  with_reducible refine (HL.out _ H.out).mono ?_
  rintro e w1 ⟨rfl, rfl⟩
  go_wp2_with fail
  with_reducible refine (HH.out _ H.out).mono ?_
  rintro e w1 ⟨rfl, rfl⟩
  go_wp2_with fail
  have hfz : w.frozen? ⟨g, 1 + q, none⟩ = false := by simp [World.frozen?, H.out.row]
  go_still_tail 14, (by kernel_rfl)
  go_wp2
  go_ret
  have ho : bits .or .u64 (x : Int) (IntKind.u64.wrap (2 ^ r)) = ((x ||| 2 ^ r : Nat) : Int) := by
    have h2 : 2 ^ r < 18446744073709551616 := Nat.lt_of_lt_of_le (Nat.pow_lt_pow_right (by omega) hr64) (by decide)
    have h3 : IntKind.u64.wrap ((2 : Int) ^ r) = ((2 ^ r : Nat) : Int) := by
      rw [IntKind.wrap_u64, show (2 : Int) ^ r = ((2 ^ r : Nat) : Int) by simp]
      generalize 2 ^ r = P at h2 ⊢
      omega
    rw [h3]
    exact u64_or_nat x (2 ^ r) hxl h2
  rw [ho]
  exact ⟨rfl, ⟨HS.out, by rw [List.length_set]; omega, by rw [List.length_set]; omega⟩, rfl, rfl, rfl, by simp [World.setCell], fun k hk => Below.heap_setCell w _ _ k hk⟩
set_option maxRecDepth 100000 in
set_option maxHeartbeats 2000000 in
theorem Set_old (w : World) (g : Nat) (B : List Bool) (i : Int) (h : Mp B g w) (hn : newI B i = false) :
   Calls Try.prog 38 #[.pointer (some ⟨g, 0, none⟩), .int .i64 i] w fun e w' => e = .returned (.bool false) ∧ w = w' := by
  by_cases h0 : i < 0
  · go_enter Try.func38, Try.ntmps38
    go_wp2
    go_ret
    exact ⟨rfl, rfl⟩
  · have hlen := fun w h => Len_calls w g B h
    have H := Lib.hid h; clear h
    have HL := Lib.hid hlen; clear hlen
    by_cases h1 : (B.length : Int) ≤ i
    · go_enter Try.func38, Try.ntmps38
      go_wp2_with fail
      with_reducible refine (HL.out _ H.out).mono ?_
      rintro e w1 ⟨rfl, rfl⟩
      go_wp2
      go_ret
      exact ⟨rfl, rfl⟩
    · have hhas := fun w h => Has_calls w g B i h
      have hb : hasB B i = true := by
        unfold newI at hn
        rw [decide_eq_true (by omega), decide_eq_true (by omega)] at hn
        simpa using hn
      rw [hb] at hhas
      have HH := Lib.hid hhas; clear hhas hb hn
      go_enter Try.func38, Try.ntmps38
      go_wp2_with fail
      with_reducible refine (HL.out _ H.out).mono ?_
      rintro e w1 ⟨rfl, rfl⟩
      go_wp2_with fail
      with_reducible refine (HH.out _ H.out).mono ?_
      rintro e w1 ⟨rfl, rfl⟩
      go_wp2
      go_ret
      exact ⟨rfl, rfl⟩
theorem setB_old (B : List Bool) (i : Int) (h : newI B i = false) : setB B i = B := by
  unfold setB
  by_cases h0 : 0 ≤ i
  · rw [if_pos h0]
    obtain ⟨i, rfl⟩ := Int.eq_ofNat_of_zero_le h0
    unfold newI at h
    rw [hasB_nat, decide_eq_true h0] at h
    show B.set i true = B
    by_cases h1 : i < B.length
    · rw [decide_eq_true (by omega)] at h
      have hb : B.getD i false = true := by simpa using h
      apply list_ext_getD _ _ (by simp)
      intro k _
      rw [getD_set _ _ _ _ h1]
      split
      · rename_i e; subst e; exact hb.symm
      · rfl
    · exact List.set_eq_of_length_le (by omega)
  · rw [if_neg h0]
theorem Set_calls (w : World) (g : Nat) (B : List Bool) (i : Int) (h : Mp B g w) :
   Calls Try.prog 38 #[.pointer (some ⟨g, 0, none⟩), .int .i64 i] w fun e w' => e = .returned (.bool (newI B i)) ∧ Mp (setB B i) g w' ∧ Upd g w w' := by
  cases hn : newI B i with
  | false =>
    refine (Set_old w g B i h hn).mono ?_
    rintro e w' ⟨rfl, rfl⟩
    rw [setB_old B i hn]
    exact ⟨rfl, h, Upd.refl _ _⟩
  | true =>
    unfold newI at hn
    simp only [Bool.and_eq_true, decide_eq_true_eq, Bool.not_eq_true'] at hn
    obtain ⟨⟨h0, h1⟩, h2⟩ := hn
    obtain ⟨i, rfl⟩ := Int.eq_ofNat_of_zero_le h0
    rw [hasB_nat] at h2
    unfold setB
    rw [if_pos h0]
    exact Set_new w g B i h (by omega) h2
set_option maxRecDepth 100000 in
set_option maxHeartbeats 2000000 in
theorem Set_nil (w : World) (i : Int) :
   Calls Try.prog 38 #[.pointer none, .int .i64 i] w fun e w' => e = .returned (.bool false) ∧ w = w' := by
  by_cases h0 : i < 0
  · go_enter Try.func38, Try.ntmps38
    go_wp2
    go_ret
    exact ⟨rfl, rfl⟩
  · have h1 : 0 ≤ i := by omega
    go_enter Try.func38, Try.ntmps38
    go_wp2_with fail
    refine (Len_nil _).mono ?_
    rintro e w1 ⟨rfl, rfl⟩
    go_wp2
    go_ret
    exact ⟨rfl, rfl⟩
theorem wd_none (n j : Nat) : wd (List.replicate n false) j = 0 := by
  apply Nat.eq_of_testBit_eq
  intro k
  rw [wd_bit]
  have : (List.replicate n false).getD (64 * j + k) false = false := by
    rw [List.getD_eq_getElem?_getD, List.getElem?_replicate]; split <;> rfl
  rw [this]; simp
set_option maxRecDepth 100000 in
set_option maxHeartbeats 2000000 in
theorem New_calls (w : World) (n : Nat) (h1 : 1 ≤ n) (h2 : n ≤ 256) :
   Calls Try.prog 49 #[.int .i64 n] w fun e w' => e = .returned (.tuple #[.pointer (some ⟨w.heap.size, 0, none⟩), .int .i64 0]) ∧ Mp (List.replicate n false) w.heap.size w' ∧ Below w.heap.size w w' ∧ w'.heap.size = w.heap.size + 1 := by
  have hm : Mp (List.replicate n false) w.heap.size (w.alloc (.cells #[.int .i64 n, .int .u64 0, .int .u64 0, .int .u64 0, .int .u64 0] 97)) := by
    refine ⟨?_, by rw [List.length_replicate]; exact h1, by rw [List.length_replicate]; exact h2⟩
    rw [heap_alloc_new]
    unfold mapRow
    simp only [wd_none, List.length_replicate]
    rfl
  have hb := (Below.refl w.heap.size w).alloc (Nat.le_refl _) (.cells #[.int .i64 n, .int .u64 0, .int .u64 0, .int .u64 0, .int .u64 0] 97)
  have hs : (w.alloc (.cells #[.int .i64 n, .int .u64 0, .int .u64 0, .int .u64 0, .int .u64 0] 97)).heap.size = w.heap.size + 1 := by simp
  have HM := Lib.hid hm; clear hm
  have HB := Lib.hid hb; clear hb
  have HS := Lib.hid hs; clear hs
  go_enter Try.func49, Try.ntmps49
  go_wp2
  go_ret2
  exact ⟨rfl, HM.out, HB.out, HS.out⟩
set_option maxRecDepth 100000 in
set_option maxHeartbeats 2000000 in
theorem New_bad (w : World) (n : Int) (h : n < 1 ∨ 256 < n) :
   Calls Try.prog 49 #[.int .i64 n] w fun e w' => e = .returned (.tuple #[.pointer none, .int .i64 1]) ∧ w = w' := by
  rcases h with h | h
  · go_enter Try.func49, Try.ntmps49
    go_wp2
    go_ret2
    exact ⟨rfl, rfl⟩
  · have h1 : ¬ n < 1 := by omega
    go_enter Try.func49, Try.ntmps49
    go_wp2
    go_ret2
    exact ⟨rfl, rfl⟩
end Go.Proofs.Ytpgcdfdfbcmodaa
