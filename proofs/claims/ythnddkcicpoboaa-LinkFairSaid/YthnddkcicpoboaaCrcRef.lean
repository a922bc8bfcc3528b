/- The walks of crc's reference: step, Row, Sum, Seal, Open: what each Go function answers, in any memory. -/
import Derived.Test.YthnddkcicpoboaaCrcWalk
namespace Go.Proofs.Ythnddkcicpoboaa
open Go.RowKit
def stepR (x b : Nat) : Nat := T (x ^^^ b)
theorem stepR_eq (x b : Nat) (hb : b < 2) : stepR x b = if x % 2 ≠ b then (x / 2) ^^^ 3988292384 else x / 2 := by
  have h1 : (x ^^^ b) % 2 = (x % 2 + b % 2) % 2 := xor_mod2 x b
  have h2 : (x ^^^ b) / 2 = x / 2 := by rw [xor_div2, Nat.div_eq_of_lt hb]; simp
  unfold stepR T
  rw [h1, h2]
  by_cases h : x % 2 = b
  · rw [if_neg (by omega), if_neg (by omega)]
  · rw [if_pos (by omega), if_pos (by omega)]
theorem stepR_lt (x b : Nat) (hx : x < 4294967296) (hb : b < 2) : stepR x b < 4294967296 := T_lt _ (Nat.xor_lt_two_pow (n := 32) hx (by omega))
theorem xor_poly (x : Nat) (hx : x < 4294967296) : bits .xor .u32 ((x : Int) / 2) 3988292384 = ((x / 2 ^^^ 3988292384 : Nat) : Int) := by
  rw [u32_xor _ _ (by omega) (by omega) (by omega) (by omega)]
  have : ((x : Int) / 2).toNat = x / 2 := by omega
  simp [this]
def stepN (x c : Nat) : Nat → Nat
  | 0 => x
  | k + 1 => stepR (stepN x c k) (c / 2 ^ k % 2)
theorem stepN_lt (x c : Nat) (hx : x < 4294967296) (k : Nat) : stepN x c k < 4294967296 := by
  induction k with
  | zero => exact hx
  | succ k ih => exact stepR_lt _ _ ih (by omega)
theorem stepN_eq (x c k : Nat) : stepN x c k = Tn k (x ^^^ c % 2 ^ k) := by
  induction k with
  | zero => simp [stepN, Tn, Nat.mod_one]
  | succ k ih =>
    have e : c % 2 ^ (k + 1) = (c / 2 ^ k % 2) * 2 ^ k ^^^ c % 2 ^ k := by
      rw [xor_join k _ _ (Nat.mod_lt _ (Nat.two_pow_pos k)), Nat.pow_succ, Nat.mod_mul, Nat.mul_comm (2 ^ k)]; omega
    have s : Tn k ((c / 2 ^ k % 2) * 2 ^ k) = c / 2 ^ k % 2 := Tn_shift k _
    simp only [stepN, stepR, ih]
    rw [e, show x ^^^ ((c / 2 ^ k % 2) * 2 ^ k ^^^ c % 2 ^ k) = (x ^^^ c % 2 ^ k) ^^^ (c / 2 ^ k % 2) * 2 ^ k by ac_rfl]
    simp only [Tn]
    rw [Tn_xor k _ ((c / 2 ^ k % 2) * 2 ^ k), s]
theorem stepN_8 (x : Nat) (c : UInt8) : stepN x c.toNat 8 = upd x c := by
  have := c.toNat_lt
  rw [stepN_eq, upd_eq, Nat.mod_eq_of_lt (by omega)]
theorem cast_bit (c j : Nat) : ((c : Int) / 2 ^ j % 2).toNat = c / 2 ^ j % 2 := by
  have : (c : Int) / 2 ^ j % 2 = ((c / 2 ^ j % 2 : Nat) : Int) := by simp
  rw [this, Int.toNat_natCast]
end Go.Proofs.Ythnddkcicpoboaa
