/- The walk of package sack: Merge; and what they answer of none. -/
import Derived.Test.YtpgcdfdfbcmodaaSackBits
namespace Go.Proofs.Ytpgcdfdfbcmodaa
open Go.RowKit
set_option linter.unusedVariables false
set_option linter.unusedSimpArgs false
theorem withB_told (B : List Bool) (t : Nat → Bool) (j : Nat) (h : j < B.length) (ht : t j = true) : withB B t (j + 1) = (withB B t j).set j true := by
  rw [withB_step B t j h, ht]
  cases hb : B.getD j false with
  | false => rw [if_pos (by decide)]
  | true =>
    rw [if_neg (by decide)]
    apply list_ext_getD _ _ (by simp)
    intro k hk
    rw [getD_set _ _ _ _ (by rw [withB_length]; exact h)]
    split
    · rename_i e; subst e; rw [withB_at, hb]
    · rfl
theorem withB_untold (B : List Bool) (t : Nat → Bool) (j : Nat) (h : j < B.length) (ht : t j = false) : withB B t (j + 1) = withB B t j := by
  rw [withB_step B t j h, ht, if_neg (by simp)]
theorem newB_le (B : List Bool) (t : Nat → Bool) : ∀ j, newB B t j ≤ j
  | 0 => Nat.le_refl _
  | j + 1 => by have := newB_le B t j; have := toNat_lt2 (t j && !B.getD j false); simp only [newB]; omega
theorem newI_with (B : List Bool) (t : Nat → Bool) (j : Nat) (h : j < B.length) : newI (withB B t j) (j : Int) = !B.getD j false := by
  unfold newI
  rw [hasB_nat, withB_at, withB_length, decide_eq_true (by omega), decide_eq_true (by omega)]; rfl
theorem setB_nat (B : List Bool) (j : Nat) : setB B (j : Int) = B.set j true := by unfold setB; rw [if_pos (by omega)]; rfl
theorem bit_and (x r : Nat) (hx : x < 256) : (bits .and .u8 ((x : Int) / 2 ^ r) 1 == 1) = x.testBit r := by
  have h1 := u8_and_nat (x / 2 ^ r) 1 (Nat.lt_of_le_of_lt (Nat.div_le_self _ _) hx) (by omega)
  have h2 : x / 2 ^ r &&& 1 = x / 2 ^ r % 2 := Nat.and_one_is_mod _
  have h3 : ((x / 2 ^ r : Nat) : Int) = (x : Int) / 2 ^ r := by simp
  rw [h2, bit_div, h3, show ((1 : Nat) : Int) = 1 from rfl] at h1
  rw [h1]
  cases x.testBit r <;> rfl
theorem bitS_in (s : ByteArray) (k : Nat) (h : k / 8 < s.size) : bitS s k = (s[k / 8].toNat).testBit (k % 8) := by
  unfold bitS
  have e : s.data.toList.getD (k / 8) 0 = s[k / 8] := by
    rw [List.getD_eq_getElem?_getD, List.getElem?_eq_getElem (show k / 8 < s.data.toList.length from h)]; rfl
  rw [e]
theorem toldB_below (base : Int) (s : ByteArray) (j : Nat) (h : (j : Int) < base) : toldB base s j = true := by unfold toldB; simp [h]
theorem toldB_same (base : Int) (s : ByteArray) (j : Nat) (h : (j : Int) = base) : toldB base s j = false := by unfold toldB; simp [h]
theorem toldB_above (base : Int) (s : ByteArray) (j d : Nat) (h : (j : Int) - base - 1 = d) : toldB base s j = bitS s d := by
  unfold toldB
  rw [h, decide_eq_false (show ¬ (j : Int) < base by omega), decide_eq_true (show base < (j : Int) by omega), decide_eq_true (by omega)]
  simp
set_option maxRecDepth 100000 in
set_option maxHeartbeats 2000000 in
theorem Count_nil (w : World) :
   Calls Try.prog 28 #[.pointer none] w fun e w' => e = .returned (.int .i64 0) ∧ w = w' := by
  go_enter Try.func28, Try.ntmps28
  go_wp2
  go_ret
  exact ⟨rfl, rfl⟩
set_option maxRecDepth 100000 in
set_option maxHeartbeats 2000000 in
theorem Behind_nil (w : World) (k : Int) :
   Calls Try.prog 47 #[.pointer none, .int .i64 k] w fun e w' => e = .returned (.string ⟨#[]⟩) ∧ w = w' := by
  go_enter Try.func47, Try.ntmps47
  go_wp2
  go_ret
  exact ⟨rfl, rfl⟩
end Go.Proofs.Ytpgcdfdfbcmodaa
