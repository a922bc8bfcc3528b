/- The walks of the crc's laws Bursts, More, Flips: each answers true. -/
import Derived.Test.YtbgamoifmlofpaaCrcPlain
import Derived.Lib.QuietBelow
import Derived.OpenShut
namespace Go.Proofs.Ytbgamoifmlofpaa
open Go.RowKit
set_option linter.unusedVariables false
theorem or_one (b : Nat) (h : b < 4294967296) : bits .or .u32 (b : Int) 1 = ((b ||| 1 : Nat) : Int) ∧ b ||| 1 < 4294967296 ∧ (b ||| 1) % 2 = 1 := by
  refine ⟨?_, Nat.or_lt_two_pow (n := 32) h (by omega), ?_⟩
  · rw [u32_or _ _ (by omega) (by omega) (by omega) (by omega)]; simp
  · simp
theorem u64_wrap_nat (a : Int) : ∃ U : Nat, IntKind.u64.wrap a = U := by
  rw [IntKind.wrap_u64]; exact ⟨(a % 18446744073709551616).toNat, by omega⟩
theorem mod_place (U n : Nat) (h0 : 0 < n) (h1 : n ≤ 3004) : ∃ p : Nat, wrap64 ((U : Int) % (8 * (n : Int))) = p ∧ p < 8 * n := by
  refine ⟨U % (8 * n), ?_, Nat.mod_lt _ (by omega)⟩
  have e : (U : Int) % (8 * (n : Int)) = ((U % (8 * n) : Nat) : Int) := by simp
  have hl := Nat.mod_lt U (show 8 * n > 0 by omega)
  rw [e]
  unfold wrap64; omega
set_option maxRecDepth 100000 in
set_option maxHeartbeats 2000000 in
theorem CrcBursts_walk (a0 : ByteArray) (a1 a2 : Int) (w0 : a0.size ≤ 140737488351232) (w1 : (Lit.int .i64 a1).wf = true) (w2 : (Lit.int .u32 a2).wf = true) (w : World) :
    Calls Try.prog 4 #[.string a0, .int .i64 a1, .int .u32 a2] w fun e w' => e = .returned (.bool true) ∧ Below w.heap.size w w' := by
  obtain ⟨b0, b1⟩ := bounds_u32 w2
  obtain ⟨b, rfl⟩ := Int.eq_ofNat_of_zero_le b0
  obtain ⟨c0, c1⟩ := bounds_i64 w1
  by_cases hbig : 3000 < a0.size
  · go_enter Try.func4, Try.ntmps4
    go_wp2_with fail
    refine (awake_calls _).mono ?_
    rintro e w1 ⟨rfl, hb1⟩
    go_wp2_with fail
    refine (awake_calls _).mono ?_
    rintro e w2 ⟨rfl, hb2⟩
    go_wp2
    go_ret
    exact ⟨rfl, bn hb1 hb2⟩
  · have hsz := sealB_size a0
    have hsz1 : (sealB a0).size ≤ 3004 := by omega
    have hsz2 : 4 ≤ (sealB a0).size := by omega
    obtain ⟨ho1, ho2, ho3⟩ := or_one b (by omega)
    obtain ⟨U, hU⟩ : ∃ U : Nat, IntKind.u64.wrap a1 = U := u64_wrap_nat a1
    obtain ⟨p, hp, hp8⟩ := mod_place U (sealB a0).size (by omega) hsz1
    have Hsz := Lib.hid hsz; clear hsz
    have Ho3 := Lib.hid ho3; clear ho3
    go_enter Try.func4, Try.ntmps4
    go_wp2_with fail
    refine (awake_calls _).mono ?_
    rintro e w1 ⟨rfl, hb1⟩
    go_wp2_with fail
    refine (Seal_calls _ a0 (by omega)).mono ?_
    rintro e w2 ⟨rfl, hb2⟩
    obtain ⟨hop, hne⟩ := flip_burst a0 p (b ||| 1) ho2 Ho3.out (by have := Hsz.out; omega)
    generalize hF : (⟨(flipL (sealB a0).data.toList (p : Int) (b ||| 1)).toArray⟩ : ByteArray) = F at hop hne
    have HF := Lib.hid hF; clear hF
    have hFs : F.size = a0.size + 4 := by
      rw [← HF.out, ← Hsz.out]
      show (flipL (sealB a0).data.toList (p : Int) (b ||| 1)).toArray.size = _
      rw [List.size_toArray, flipL_length]; rfl
    have HFs := Lib.hid hFs; clear hFs
    have Hop := Lib.hid hop; clear hop
    have hq : (F.toList == (sealB a0).toList) = false := by rw [str_eq]; exact decide_eq_false hne
    clear hne
    go_wp2_with fail
    with_reducible refine (Flip_calls _ (sealB a0) p (b ||| 1) ho2 (by omega) (by omega) (by omega)).mono ?_
    rintro e w3 ⟨rfl, hb3⟩
    rw [HF.out]
    go_wp2_with fail
    refine (Open_calls _ F (by have := HFs.out; omega)).mono ?_
    rintro e w4 ⟨rfl, hb4⟩
    rw [Hop.out]
    go_wp2
    go_ret
    exact ⟨rfl, bn (bn (bn hb1 hb2) hb3) hb4⟩

set_option maxRecDepth 100000 in
set_option maxHeartbeats 2000000 in
theorem CrcMore_walk (a0 a1 a2 : ByteArray) (w0 : a0.size ≤ 140737488351232) (w1 : a1.size ≤ 140737488351232) (w2 : a2.size ≤ 140737488351232) (w : World) :
    Calls Try.prog 5 #[.string a0, .string a1, .string a2] w fun e w' => e = .returned (.bool true) ∧ Below w.heap.size w w' := by
  by_cases hbig : 3000 < (a0.size : Int) + a1.size + a2.size
  · go_enter Try.func5, Try.ntmps5
    go_wp2_with fail
    refine (awake_calls _).mono ?_
    rintro e w1 ⟨rfl, hb1⟩
    go_wp2_with fail
    refine (awake_calls _).mono ?_
    rintro e w2 ⟨rfl, hb2⟩
    go_wp2
    go_ret
    exact ⟨rfl, bn hb1 hb2⟩
  · have s01 : (a0 ++ a1).size = a0.size + a1.size := ByteArray.size_append
    have hl1 : a0.size + a1.size ≤ 9223372036854775807 := by omega
    have hl2 : (a0 ++ a1).size + a2.size ≤ 9223372036854775807 := by omega
    have hl3 : (a0 ++ a1 ++ a2).size ≤ maxLen := by
      have := @ByteArray.size_append (a0 ++ a1) a2
      unfold maxLen; omega
    have S01 := Lib.hid s01; clear s01
    have hl4 := Lib.hid hl3; clear hl3
    have d1 : (a0 ++ a1 ++ a2).data.toList = a0.data.toList ++ a1.data.toList ++ a2.data.toList := by simp [ByteArray.data_append]
    have D1 := Lib.hid d1; clear d1
    go_enter Try.func5, Try.ntmps5
    go_wp2_with fail
    refine (awake_calls _).mono ?_
    rintro e w1 ⟨rfl, hb1⟩
    go_wp2_with fail
    with_reducible refine (Sum_calls _ a0 (by unfold maxLen; omega)).mono ?_
    rintro e w2 ⟨rfl, hb2⟩
    go_wp2_with fail
    with_reducible refine (More_calls _ _ a1 (sum_lt _) (by unfold maxLen; omega)).mono ?_
    rintro e w3 ⟨rfl, hb3⟩
    rw [more_sum]
    go_wp2_with fail
    with_reducible refine (More_calls _ _ a2 (sum_lt _) (by unfold maxLen; omega)).mono ?_
    rintro e w4 ⟨rfl, hb4⟩
    rw [more_sum]
    go_wp2_with fail
    with_reducible refine (Sum_calls _ (a0 ++ a1 ++ a2) hl4.out).mono ?_
    rintro e w5 ⟨rfl, hb5⟩
    rw [D1.out]
    go_wp2_with fail
    refine (More_calls _ 0 a0 (by omega) (by unfold maxLen; omega)).mono ?_
    rintro e w6 ⟨rfl, hb6⟩
    rw [more_zero]
    go_wp2_with fail
    with_reducible refine (Sum_calls _ a0 (by unfold maxLen; omega)).mono ?_
    rintro e w7 ⟨rfl, hb7⟩
    go_wp2_with fail
    with_reducible refine (Sum_calls _ a0 (by unfold maxLen; omega)).mono ?_
    rintro e w8 ⟨rfl, hb8⟩
    go_wp2_with fail
    with_reducible refine (More_calls _ _ ⟨#[]⟩ (sum_lt _) (by decide)).mono ?_
    rintro e w9 ⟨rfl, hb9⟩
    rw [more_sum, show a0.data.toList ++ (⟨#[]⟩ : ByteArray).data.toList = a0.data.toList from List.append_nil _]
    go_wp2_with fail
    with_reducible refine (Sum_calls _ a0 (by unfold maxLen; omega)).mono ?_
    rintro e w10 ⟨rfl, hb10⟩
    go_wp2
    go_ret
    exact ⟨rfl, bn (bn (bn (bn (bn (bn (bn (bn (bn hb1 hb2) hb3) hb4) hb5) hb6) hb7) hb8) hb9) hb10⟩

theorem flip_data (s : ByteArray) (at_ : Int) (b : Nat) : (⟨(flipL s.data.toList at_ b).toArray⟩ : ByteArray).data.toList = flipL s.data.toList at_ b := rfl
set_option maxRecDepth 100000 in
set_option maxHeartbeats 2000000 in
theorem CrcFlips_walk (a0 : ByteArray) (a1 a2 : Int) (w0 : a0.size ≤ 140737488351232) (w1 : (Lit.int .i64 a1).wf = true) (w2 : (Lit.int .u32 a2).wf = true) (w : World) :
    Calls Try.prog 6 #[.string a0, .int .i64 a1, .int .u32 a2] w fun e w' => e = .returned (.bool true) ∧ Below w.heap.size w w' := by
  obtain ⟨b0, b1⟩ := bounds_u32 w2
  obtain ⟨b, rfl⟩ := Int.eq_ofNat_of_zero_le b0
  obtain ⟨c0, c1⟩ := bounds_i64 w1
  by_cases hbig : 300 < a0.size
  · go_enter Try.func6, Try.ntmps6
    go_wp2_with fail
    refine (awake_calls _).mono ?_
    rintro e w1 ⟨rfl, hb1⟩
    go_wp2_with fail
    refine (awake_calls _).mono ?_
    rintro e w2 ⟨rfl, hb2⟩
    go_wp2
    go_ret
    exact ⟨rfl, bn hb1 hb2⟩
  · obtain ⟨F, hF⟩ : ∃ F : ByteArray, (⟨(flipL a0.data.toList a1 b).toArray⟩ : ByteArray) = F := ⟨_, rfl⟩
    have hFs : F.size = a0.size := by
      rw [← hF]
      show (flipL a0.data.toList a1 b).toArray.size = _
      rw [List.size_toArray, flipL_length]; rfl
    have hFF : (⟨(flipL F.data.toList a1 b).toArray⟩ : ByteArray) = a0 := by
      rw [← hF, flip_data, flipL_flipL]
    have HF := Lib.hid hF; clear hF
    have HFF := Lib.hid hFF; clear hFF
    have HFs := Lib.hid hFs; clear hFs
    go_enter Try.func6, Try.ntmps6
    go_wp2_with fail
    refine (awake_calls _).mono ?_
    rintro e w1 ⟨rfl, hb1⟩
    go_wp2_with fail
    with_reducible refine (Flip_calls _ a0 a1 b (by omega) (by omega) (by omega) (by omega)).mono ?_
    rintro e w2 ⟨rfl, hb2⟩
    rw [HF.out]
    go_wp2_with fail
    with_reducible refine (RFlip_calls _ a0 a1 b (by omega) (by omega) (by omega) (by omega)).mono ?_
    rintro e w3 ⟨rfl, hb3⟩
    rw [HF.out]
    go_wp2_with fail
    with_reducible refine (Flip_calls _ F a1 b (by omega) (by have := HFs.out; omega) (by omega) (by omega)).mono ?_
    rintro e w4 ⟨rfl, hb4⟩
    rw [HFF.out]
    have hfs := HFs.out
    go_wp2
    go_ret
    exact ⟨rfl, bn (bn (bn hb1 hb2) hb3) hb4⟩
end Go.Proofs.Ytbgamoifmlofpaa
