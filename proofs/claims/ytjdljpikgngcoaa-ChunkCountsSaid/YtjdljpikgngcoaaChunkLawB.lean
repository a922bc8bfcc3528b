/- The laws ChunkCounts and ChunkEach, walked. -/
import Derived.Test.YtjdljpikgngcoaaChunkLawA
namespace Go.Proofs.Ytjdljpikgngcoaa
open Go.RowKit Go.ChangeShapes Go.WideShapes
set_option linter.unusedVariables false
set_option linter.unusedSimpArgs false
theorem u64_wrap_nat (a : Int) : ∃ U : Nat, IntKind.u64.wrap a = U := by
  rw [IntKind.wrap_u64]; exact ⟨(a % 18446744073709551616).toNat, by omega⟩
theorem cntI_bad (n m : Int) (h : szI m = 0) : cntI n m = -1 := by unfold cntI; rw [if_pos (Or.inl h)]
theorem cntI_big (n : Nat) (m : Int) (k : Nat) (hk : szI m = k) (h : 256 * k < n) : cntI n m = -1 := by
  unfold cntI; rw [hk, if_pos (by omega)]
theorem cntN_succ (n k : Nat) (hk : 0 < k) : cntN (n + 1) k = cntN n k ∨ cntN (n + 1) k = cntN n k + 1 := by
  unfold cntN
  rw [if_neg (by omega), show n + 1 - 1 = n by omega]
  by_cases h : n = 0
  · subst h; simp
  · rw [if_neg h]
    have : (n - 1 + 1) / k = (n - 1) / k + if k ∣ n - 1 + 1 then 1 else 0 := Nat.succ_div
    rw [show n - 1 + 1 = n by omega] at this
    rw [this]; split <;> omega
/-- What the counts' law tells of one size and the next. -/
theorem counts (N : Nat) (m : Int) (k : Nat) (hk : szI m = k) (h45 : 45 ≤ k) (hk2 : k ≤ 1000) (h : N ≤ 256 * k) :
    ∃ (A : Nat) (B : Int), cntI N m = A ∧ cntI ((N : Int) + 1) m = B ∧ 1 ≤ A ∧ A ≤ 256 ∧ (B = A ∨ B = A + 1 ∨ (B = -1 ∧ N = 256 * k)) ∧ (N = 0 ∨ ((A - 1 : Nat) : Int) * k < N) ∧ (N : Int) ≤ (A : Int) * k := by
  refine ⟨cntN N k, cntI ((N : Int) + 1) m, cntI_N N m k hk (by omega) h, rfl, cntN_pos _ _, cntN_le _ _ (by omega) h, ?_, ?_, ?_⟩
  · by_cases c : N = 256 * k
    · exact Or.inr (Or.inr ⟨cntI_big (N + 1) m k hk (by omega), c⟩)
    · have e : cntI ((N : Int) + 1) m = cntN (N + 1) k := cntI_N (N + 1) m k hk (by omega) (by omega)
      rw [e]
      rcases cntN_succ N k (by omega) with h | h
      · exact Or.inl (by rw [h])
      · exact Or.inr (Or.inl (by rw [h]; simp))
  · by_cases c : N = 0
    · exact Or.inl c
    · refine Or.inr ?_
      have hp := cntN_pos N k
      by_cases d : cntN N k = 1
      · rw [d]; simp; omega
      · have := cntN_pred N k (by omega) (cntN N k - 2) (by omega)
        rw [show cntN N k - 2 + 1 = cntN N k - 1 by omega] at this
        exact_mod_cast this
  · exact_mod_cast cntN_mul N k (by omega)
set_option maxRecDepth 100000 in
set_option maxHeartbeats 4000000 in
theorem ChunkCounts_walk (a0 a1 : Int) (w0 : (Lit.int .i64 a0).wf = true) (w1 : (Lit.int .i64 a1).wf = true) (w : World) :
    Calls Try.prog 7 #[.int .i64 a0, .int .i64 a1] w fun e w' => e = .returned (.bool true) ∧ Below w.heap.size w w' := by
  obtain ⟨b0, b1⟩ := bounds_i64 w0
  obtain ⟨c0, c1⟩ := bounds_i64 w1
  clear w0 w1
  obtain ⟨U, hU⟩ := u64_wrap_nat a0
  have hm : (U : Int) % 300000 = ((U % 300000 : Nat) : Int) := by simp
  have hl := Nat.mod_lt U (show 300000 > 0 by omega)
  generalize U % 300000 = N at hm hl
  have hw : wrap64 (N : Int) = N := by unfold wrap64; omega
  rcases cut_cases N a1 with ⟨k0, k1⟩ | ⟨k1, -, kc, k, hk, k45, k1000, hn⟩ | ⟨k, hk, k45, k1000, hE, hn⟩
  · have hc := Lib.hid (cntI_bad N a1 k0)
    have K0 := Lib.hid k0
    have K1 := Lib.hid k1
    clear k0 k1
    go_enter Try.func7, Try.ntmps7
    go_wp2_with fail
    with_reducible refine (Size_calls _ a1 c0 c1).mono ?_
    rintro e w1 ⟨rfl, rfl⟩
    rw [K0.out, K1.out]
    go_wp2_with fail
    refine (awake_calls _).mono ?_
    rintro e w1 ⟨rfl, hb1⟩
    go_wp2_with fail
    refine (awake_calls _).mono ?_
    rintro e w2 ⟨rfl, hb2⟩
    go_wp2_with fail
    with_reducible refine (Count_calls _ N a1 c0 c1 (by omega) (by omega)).mono ?_
    rintro e w3 ⟨rfl, rfl⟩
    rw [hc.out]
    go_wp2
    go_ret
    exact ⟨rfl, bn hb1 hb2⟩
  · have hc := Lib.hid kc
    have hc2 := Lib.hid (cntI_big (N + 1) a1 k hk (by omega))
    have K0 := Lib.hid hk
    have K1 := Lib.hid k1
    clear hk k1 kc
    go_enter Try.func7, Try.ntmps7
    go_wp2_with fail
    with_reducible refine (Size_calls _ a1 c0 c1).mono ?_
    rintro e w1 ⟨rfl, rfl⟩
    rw [K0.out, K1.out]
    go_wp2_with fail
    refine (awake_calls _).mono ?_
    rintro e w1 ⟨rfl, hb1⟩
    go_wp2_with fail
    with_reducible refine (Count_calls _ N a1 c0 c1 (by omega) (by omega)).mono ?_
    rintro e w2 ⟨rfl, rfl⟩
    rw [hc.out]
    go_wp2_with fail
    with_reducible refine (Count_calls _ ((N : Int) + 1) a1 c0 c1 (by omega) (by omega)).mono ?_
    rintro e w2 ⟨rfl, rfl⟩
    rw [show cntI ((N : Int) + 1) a1 = -1 from hc2.out]
    go_wp2
    go_ret
    exact ⟨rfl, hb1⟩
  · obtain ⟨A, B, hA, hB, hA1, hA2, hAB, hlo, hhi⟩ := counts N a1 k hk k45 k1000 hn
    have HA := Lib.hid hA
    have HB := Lib.hid hB
    have K0 := Lib.hid hk
    have K1 := Lib.hid hE
    clear hA hB hk hE
    have hA3 : (((A - 1 : Nat) : Int)) = (A : Int) - 1 := by omega
    rw [hA3] at hlo
    clear hA3
    have p1 : (A : Int) * k ≤ 256 * 1000 := Int.mul_le_mul (by omega) (by omega) (by omega) (by omega)
    have p2 : 0 ≤ ((A : Int) - 1) * k := Int.mul_nonneg (by omega) (by omega)
    have p3 : ((A : Int) - 1) * k ≤ 256 * 1000 := Int.mul_le_mul (by omega) (by omega) (by omega) (by omega)
    have dec : ((B == (A : Int)) = true ∨ ((B == (A : Int)) = false ∧ (B == (A : Int) + 1) = true) ∨ ((B == (A : Int)) = false ∧ (B == (A : Int) + 1) = false ∧ B < 0 ∧ ((N : Int) == 256 * (k : Int)) = true)) := by
      rcases hAB with h | h | ⟨h, h2⟩
      · exact Or.inl (by simp [h])
      · exact Or.inr (Or.inl ⟨by simp; omega, by simp [h]⟩)
      · exact Or.inr (Or.inr ⟨by simp; omega, by simp; omega, by omega, by simp; omega⟩)
    have dec2 : ((N : Int) == 0) = true ∨ (((N : Int) == 0) = false ∧ ((A : Int) - 1) * k < N) := by
      by_cases h : N = 0
      · exact Or.inl (by simp [h])
      · rcases hlo with h' | h'
        · exact absurd h' h
        · exact Or.inr ⟨by simp [h], h'⟩
    have hBr : -1 ≤ B ∧ B ≤ 257 := by omega
    obtain ⟨hBr1, hBr2⟩ := hBr
    clear hAB hlo
    go_enter Try.func7, Try.ntmps7
    go_wp2_with fail
    with_reducible refine (Size_calls _ a1 c0 c1).mono ?_
    rintro e w1 ⟨rfl, rfl⟩
    rw [K0.out, K1.out]
    go_wp2_with fail
    refine (awake_calls _).mono ?_
    rintro e w1 ⟨rfl, hb1⟩
    go_wp2_with fail
    with_reducible refine (Count_calls _ N a1 c0 c1 (by omega) (by omega)).mono ?_
    rintro e w2 ⟨rfl, rfl⟩
    rw [HA.out]
    go_wp2_with fail
    with_reducible refine (Count_calls _ ((N : Int) + 1) a1 c0 c1 (by omega) (by omega)).mono ?_
    rintro e w2 ⟨rfl, rfl⟩
    rw [HB.out]
    rcases dec with d | ⟨d, d2⟩ | ⟨d, d2, d3, d4⟩ <;> rcases dec2 with f | ⟨f, f2⟩ <;>
    · go_wp2
      go_ret
      exact ⟨rfl, hb1⟩
end Go.Proofs.Ytjdljpikgngcoaa
