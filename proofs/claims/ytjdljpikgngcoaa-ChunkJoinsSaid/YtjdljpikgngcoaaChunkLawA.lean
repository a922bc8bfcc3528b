/- The laws ChunkSizes and ChunkCuts, walked. -/
import Derived.Test.YtjdljpikgngcoaaChunkAwake
import Derived.OpenShut
namespace Go.Proofs.Ytjdljpikgngcoaa
open Go.RowKit Go.ChangeShapes Go.WideShapes
set_option linter.unusedVariables false
set_option linter.unusedSimpArgs false
theorem chs_len (s : ByteArray) (k n : Nat) : ((chs s k n).map (·.data.toList)).flatten.length ≤ s.size := by
  rw [chs_join, List.length_take]; exact Nat.min_le_right _ _
theorem cut_cases (n : Nat) (m : Int) : (szI m = 0 ∧ szE m = 1) ∨ (szE m = 0 ∧ (szI m == 0) = false ∧ cntI n m = -1 ∧ ∃ k : Nat, szI m = k ∧ 45 ≤ k ∧ k ≤ 1000 ∧ 256 * k < n) ∨ ∃ k : Nat, szI m = k ∧ 45 ≤ k ∧ k ≤ 1000 ∧ szE m = 0 ∧ n ≤ 256 * k := by
  by_cases h : m < 64 ∨ 65535 < m
  · exact Or.inl ⟨szI_zero m h, szE_one m h⟩
  · have a := szI_pos m h
    have b := (szI_le m).2
    obtain ⟨k, hk⟩ := Int.eq_ofNat_of_zero_le (show 0 ≤ szI m by omega)
    rw [hk] at a b
    by_cases c : n ≤ 256 * k
    · exact Or.inr (Or.inr ⟨k, hk, by omega, by omega, szE_zero m h, c⟩)
    · refine Or.inr (Or.inl ⟨szE_zero m h, by rw [hk]; simp; omega, ?_, k, hk, by omega, by omega, by omega⟩)
      unfold cntI; rw [hk, if_pos (by omega)]
set_option maxRecDepth 100000 in
set_option maxHeartbeats 1000000 in
theorem ChunkSizes_walk (a0 a1 : Int) (w0 : (Lit.int .i64 a0).wf = true) (w1 : (Lit.int .i64 a1).wf = true) (w : World) :
    Calls Try.prog 4 #[.int .i64 a0, .int .i64 a1] w fun e w' => e = .returned (.bool true) ∧ Below w.heap.size w w' := by
  obtain ⟨b0, b1⟩ := bounds_i64 w0
  obtain ⟨c0, c1⟩ := bounds_i64 w1
  clear w0 w1
  have key : (szI a1 = 0 ∧ szE a1 = 1) ∨ (szE a1 = 0 ∧ 0 < szI a1) := by
    by_cases h : a1 < 64 ∨ 65535 < a1
    · exact Or.inl ⟨szI_zero a1 h, szE_one a1 h⟩
    · exact Or.inr ⟨szE_zero a1 h, by have := szI_pos a1 h; omega⟩
  have hself : (szI a1 == szI a1) = true := by simp
  have hself2 : (cntI a0 a1 == cntI a0 a1) = true := by simp
  rcases key with ⟨k0, k1⟩ | ⟨k1, k0⟩
  · have K0 := Lib.hid k0
    have K1 := Lib.hid k1
    clear k0 k1
    go_enter Try.func4, Try.ntmps4
    go_wp2_with fail
    with_reducible refine (Size_calls _ a1 c0 c1).mono ?_
    rintro e w1 ⟨rfl, rfl⟩
    rw [K0.out, K1.out]
    go_wp2_with fail
    with_reducible refine (RSize_calls _ a1 c0 c1).mono ?_
    rintro e w1 ⟨rfl, rfl⟩
    rw [K0.out]
    go_wp2_with fail
    refine (awake_calls _).mono ?_
    rintro e w1 ⟨rfl, hb1⟩
    go_wp2_with fail
    with_reducible refine (Count_calls _ a0 a1 c0 c1 b0 b1).mono ?_
    rintro e w2 ⟨rfl, rfl⟩
    go_wp2_with fail
    with_reducible refine (RCount_calls _ a0 a1 c0 c1 b0 b1).mono ?_
    rintro e w2 ⟨rfl, rfl⟩
    go_wp2
    go_ret
    exact ⟨rfl, hb1⟩
  · have K1 := Lib.hid k1
    clear k1
    go_enter Try.func4, Try.ntmps4
    go_wp2_with fail
    with_reducible refine (Size_calls _ a1 c0 c1).mono ?_
    rintro e w1 ⟨rfl, rfl⟩
    rw [K1.out]
    go_wp2_with fail
    with_reducible refine (RSize_calls _ a1 c0 c1).mono ?_
    rintro e w1 ⟨rfl, rfl⟩
    go_wp2_with fail
    refine (awake_calls _).mono ?_
    rintro e w1 ⟨rfl, hb1⟩
    go_wp2_with fail
    with_reducible refine (Count_calls _ a0 a1 c0 c1 b0 b1).mono ?_
    rintro e w2 ⟨rfl, rfl⟩
    go_wp2_with fail
    with_reducible refine (RCount_calls _ a0 a1 c0 c1 b0 b1).mono ?_
    rintro e w2 ⟨rfl, rfl⟩
    go_wp2
    go_ret
    exact ⟨rfl, hb1⟩
set_option maxRecDepth 100000 in
set_option maxHeartbeats 2000000 in
theorem ChunkCuts_walk (a0 : ByteArray) (a1 : Int) (w0 : a0.size ≤ 140737488351232) (w1 : (Lit.int .i64 a1).wf = true) (w : World) :
    Calls Try.prog 3 #[.string a0, .int .i64 a1] w fun e w' => e = .returned (.bool true) ∧ Below w.heap.size w w' := by
  obtain ⟨c0, c1⟩ := bounds_i64 w1
  clear w1
  by_cases hbig : 5000 < a0.size
  · go_enter Try.func3, Try.ntmps3
    go_wp2_with fail
    refine (awake_calls _).mono ?_
    rintro e w1 ⟨rfl, hb1⟩
    go_wp2_with fail
    refine (awake_calls _).mono ?_
    rintro e w2 ⟨rfl, hb2⟩
    go_wp2
    go_ret
    exact ⟨rfl, bn hb1 hb2⟩
  · rcases cut_cases a0.size a1 with ⟨k0, k1⟩ | ⟨k1, k0, kc, -⟩ | ⟨k, hk, k45, k1000, hE, hn⟩
    · go_enter Try.func3, Try.ntmps3
      go_wp2_with fail
      refine (awake_calls _).mono ?_
      rintro e w1 ⟨rfl, hb1⟩
      go_wp2_with fail
      with_reducible refine (Cut_arg _ a0 a1 c0 c1 k1).mono ?_
      rintro e w2 ⟨rfl, rfl⟩
      go_wp2_with fail
      with_reducible refine (RCut_arg _ a0 a1 c0 c1 k0).mono ?_
      rintro e w2 ⟨rfl, rfl⟩
      go_wp2_with fail
      refine (Same_nil _).mono ?_
      rintro e w2 ⟨rfl, hb2⟩
      go_wp2
      go_ret
      exact ⟨rfl, bn hb1 hb2⟩
    · go_enter Try.func3, Try.ntmps3
      go_wp2_with fail
      refine (awake_calls _).mono ?_
      rintro e w1 ⟨rfl, hb1⟩
      go_wp2_with fail
      with_reducible refine (Cut_big _ a0 a1 c0 c1 (by omega) k1 kc).mono ?_
      rintro e w2 ⟨rfl, rfl⟩
      go_wp2_with fail
      with_reducible refine (RCut_big _ a0 a1 c0 c1 (by omega) k0 kc).mono ?_
      rintro e w2 ⟨rfl, rfl⟩
      go_wp2_with fail
      refine (Same_nil _).mono ?_
      rintro e w2 ⟨rfl, hb2⟩
      go_wp2
      go_ret
      exact ⟨rfl, bn hb1 hb2⟩
    · have HE := Lib.hid hE; clear hE
      have HK := Lib.hid hk; clear hk
      have kpos : 0 < k := by omega
      have hcl := cntN_le a0.size k kpos hn
      have hall := chs_all a0 k (cntN a0.size k) (cntN_mul _ _ kpos)
      have hflat : ((chs a0 k (cntN a0.size k)).map (·.data.toList)).flatten.length ≤ 140737488355328 := by
        have := chs_len a0 k (cntN a0.size k); omega
      have Hall := Lib.hid hall; clear hall
      have Hflat := Lib.hid hflat; clear hflat
      have hcn := cntI_N a0.size a1 k HK.out kpos hn
      have Hcn := Lib.hid hcn; clear hcn
      have hsr := str_refl a0
      have hln := Lib.hid (chs_length a0 k (cntN a0.size k))
      have hle : (chs a0 k (cntN a0.size k)).length ≤ 256 := by rw [chs_length]; exact hcl
      go_enter Try.func3, Try.ntmps3
      go_wp2_with fail
      refine (awake_calls _).mono ?_
      rintro e w1 ⟨rfl, hb1⟩
      go_wp2_with fail
      refine (Cut_ok _ a0 a1 k c0 c1 HK.out kpos HE.out hn k1000).mono ?_
      rintro e w2 ⟨v2, rfl, hb2, T2⟩
      go_wp2_with fail
      refine (RCut_ok _ a0 a1 k c0 c1 HK.out kpos hn k1000).mono ?_
      rintro e w3 ⟨v3, rfl, hb3, T3⟩
      generalize chs a0 k (cntN a0.size k) = xs at *
      have T2' := T2.mono hb3
      have T2'' := Lib.hid T2'
      obtain ⟨g2, cap2, rfl, a1', a2', a3', a4'⟩ := T2'
      obtain ⟨g3, cap3, rfl, b1', b2', b3', b4'⟩ := T3
      clear T2
      have A4 := Lib.hid a4'; clear a4'
      have B4 := Lib.hid b4'; clear b4'
      go_wp2_with fail
      with_reducible refine (Same_true _ xs (by omega) g2 cap2 g3 cap3 A4.out B4.out).mono ?_
      rintro e w4 ⟨rfl, hb4⟩
      have T4 := Lib.hid (T2''.out.mono hb4)
      go_wp2_with fail
      refine (Join_calls _ _ _ _ T4.out (by omega) Hflat.out).mono ?_
      rintro e w5 ⟨rfl, hb5⟩
      rw [Hall.out]
      go_wp2_with fail
      with_reducible refine (Count_calls _ a0.size a1 c0 c1 (by omega) (by omega)).mono ?_
      rintro e w6 ⟨rfl, rfl⟩
      rw [Hcn.out]
      have hlq : ((xs.length : Int) == ((cntN a0.size k : Nat) : Int)) = true := by simp [hln.out]
      go_wp2
      go_ret
      exact ⟨rfl, bn (bn (bn (bn hb1 hb2) hb3) hb4) hb5⟩
end Go.Proofs.Ytjdljpikgngcoaa
