/- The walks of varint.Reader: Int, Text; and of all methods of none. -/
import Derived.Test.YtpgcdfdfbcmodaaVarUint
namespace Go.Proofs.Ytpgcdfdfbcmodaa
open Go.RowKit
set_option linter.unusedVariables false
set_option linter.unusedSimpArgs false
def unz (z : Nat) : Int := if z % 2 = 1 then -((z / 2 : Nat) : Int) - 1 else ((z / 2 : Nat) : Int)
theorem unz_zig (n : Int) : unz (zig n) = n := by unfold unz zig; split <;> split <;> omega
theorem i64_xor_0 (x : Nat) (hx : x < 9223372036854775808) : bits .xor .i64 (x : Int) 0 = (x : Int) := by
  show IntKind.i64.wrap ((BitVec.ofInt 64 (x : Int) ^^^ BitVec.ofInt 64 0).toNat : Int) = _
  rw [BitVec.toNat_xor, BitVec.ofInt_natCast, BitVec.toNat_ofNat, show (BitVec.ofInt 64 0).toNat = 0 from by decide, Nat.xor_zero, Nat.mod_eq_of_lt (by omega)]
  exact IntWalk.i64_in _ (by omega)
theorem i64_xor_m1 (x : Nat) (hx : x < 9223372036854775808) : bits .xor .i64 (x : Int) (-1) = -(x : Int) - 1 := by
  show IntKind.i64.wrap ((BitVec.ofInt 64 (x : Int) ^^^ BitVec.ofInt 64 (-1)).toNat : Int) = _
  rw [BitVec.toNat_xor, BitVec.ofInt_natCast, BitVec.toNat_ofNat, show (BitVec.ofInt 64 (-1)).toNat = 2 ^ 64 - 1 from by decide, Nat.mod_eq_of_lt (by omega), xor_all x (by omega)]
  rw [IntKind.wrap_i64]
  omega
theorem unz_bits (z : Nat) (hz : z < 18446744073709551616) : bits .xor .i64 ((z : Int) / 2) (wrap64 (-wrap64 (bits .and .u64 (z : Int) 1))) = unz z := by
  have h1 := u64_and_nat z 1 hz (by omega)
  rw [Nat.and_one_is_mod, show ((1 : Nat) : Int) = 1 from rfl] at h1
  rw [h1, show (z : Int) / 2 = ((z / 2 : Nat) : Int) by simp]
  unfold unz
  rcases Nat.mod_two_eq_zero_or_one z with h | h
  · rw [h, if_neg (by decide), show wrap64 (-wrap64 ((0 : Nat) : Int)) = 0 from by unfold wrap64; decide, i64_xor_0 _ (by omega)]
  · rw [h, if_pos rfl, show wrap64 (-wrap64 ((1 : Nat) : Int)) = -1 from by unfold wrap64; decide, i64_xor_m1 _ (by omega)]
def textR (l : List UInt8) (e : Nat) (most : Int) : List UInt8 × List UInt8 × Nat :=
  if (uintR l e).2.2 ≠ 0 then ([], (uintR l e).2) else if most < 0 ∨ most < ((uintR l e).1 : Int) then ([], (uintR l e).2.1, 7) else rawR (uintR l e).2.1 0 ((uintR l e).1 : Int)
set_option maxHeartbeats 2000000 in
set_option maxRecDepth 100000 in
theorem Text_calls (w : World) (g e : Nat) (l : List UInt8) (most : Int) (h : Rd g l e w) (he : e < 1000) (hm : most < 9223372036854775808) :
    Calls Try.prog 37 #[.pointer (some ⟨g, 0, none⟩), .int .i64 most] w fun x w' => x = .returned (.string (bstr (textR l e most).1)) ∧ Rd g (textR l e most).2.1 (textR l e most).2.2 w' ∧ UpV g w w' := by
  have hu := Uint_calls w g e l h he
  have hz := (uintR_lt l e he).2
  have he2 := (uintR_lt l e he).1
  unfold textR
  generalize uintR l e = F at *
  obtain ⟨z, l', e'⟩ := F
  simp only at *
  have HU := Lib.hid hu; clear hu h
  by_cases h0 : e' = 0
  · subst h0
    rw [if_neg (by decide)]
    by_cases hneg : most < 0
    · rw [if_pos (Or.inl hneg)]
      go_enter Try.func37, Try.ntmps37
      go_wp2_with fail
      refine HU.out.mono ?_
      rintro x w1 ⟨rfl, h1, h2⟩
      have c1 := h1.c1
      have hf := fail_calls w1 g 7 l' h1
      have HF := Lib.hid hf; clear hf h1
      go_wp2_with fail
      refine HF.out.mono ?_
      rintro x w2 ⟨rfl, h3, h4⟩
      go_wp2
      go_ret
      exact ⟨rfl, h3, h2.trans h4⟩
    · have hmw : IntKind.u64.wrap most = most := by rw [IntKind.wrap_u64]; omega
      by_cases hbig : most < (z : Int)
      · rw [if_pos (Or.inr hbig)]
        go_enter Try.func37, Try.ntmps37
        go_wp2_with fail
        refine HU.out.mono ?_
        rintro x w1 ⟨rfl, h1, h2⟩
        have c1 := h1.c1
        have hf := fail_calls w1 g 7 l' h1
        have HF := Lib.hid hf; clear hf h1
        go_wp2_with fail
        refine HF.out.mono ?_
        rintro x w2 ⟨rfl, h3, h4⟩
        go_wp2
        go_ret
        exact ⟨rfl, h3, h2.trans h4⟩
      · rw [if_neg (fun h => h.elim hneg hbig)]
        go_enter Try.func37, Try.ntmps37
        go_wp2_with fail
        refine HU.out.mono ?_
        rintro x w1 ⟨rfl, h1, h2⟩
        have c1 := h1.c1
        have hr := Raw_calls w1 g 0 l' (z : Int) h1 (by omega)
        have HR := Lib.hid hr; clear hr h1
        have hzw : wrap64 (z : Int) = (z : Int) := by unfold wrap64; omega
        have Hzi := Lib.hid hz; clear hz hm
        go_wp2_with fail
        refine HR.out.mono ?_
        rintro x w2 ⟨rfl, h3, h4⟩
        go_wp2
        go_ret
        exact ⟨rfl, h3, h2.trans h4⟩
  · rw [if_pos h0]
    have hne : ((e' : Int) != 0) = true := by simp; omega
    go_enter Try.func37, Try.ntmps37
    go_wp2_with fail
    refine HU.out.mono ?_
    rintro x w1 ⟨rfl, h1, h2⟩
    have c1 := h1.c1
    have H1 := Lib.hid h1; clear h1
    go_wp2
    go_ret
    exact ⟨rfl, H1.out, h2⟩
end Go.Proofs.Ytpgcdfdfbcmodaa
