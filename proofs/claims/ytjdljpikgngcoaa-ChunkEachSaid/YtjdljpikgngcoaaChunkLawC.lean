/- The law ChunkEach, walked. -/
import Derived.Test.YtjdljpikgngcoaaChunkLawB
namespace Go.Proofs.Ytjdljpikgngcoaa
open Go.RowKit Go.ChangeShapes Go.WideShapes
set_option linter.unusedVariables false
set_option linter.unusedSimpArgs false
theorem chs_item (s : ByteArray) (k i : Nat) (hk : 0 < k) (h : i < cntN s.size k) :
    (i + 1 < cntN s.size k → (s.extract (i * k) (min s.size (i * k + k))).size = k) ∧ (s.extract (i * k) (min s.size (i * k + k))).size ≤ k ∧ ((s.extract (i * k) (min s.size (i * k + k))).size = 0 → cntN s.size k = 1) := by
  have e : (s.extract (i * k) (min s.size (i * k + k))).size = min s.size (i * k + k) - i * k := by
    rw [ByteArray.size_extract]; omega
  rw [e]
  have m1 : (i + 1) * k = i * k + k := by rw [Nat.add_mul, Nat.one_mul]
  refine ⟨fun h2 => ?_, by omega, fun h3 => ?_⟩
  · have := cntN_pred s.size k hk i h2
    omega
  · cases i with
    | zero => have : s.size = 0 := by omega
              rw [this]; rfl
    | succ j =>
      have := cntN_pred s.size k hk j h
      omega
theorem cntN_more (n k k2 : Nat) (h0 : 0 < k) (h : k ≤ k2) : cntN n k2 ≤ cntN n k := by
  unfold cntN
  split
  · exact Nat.le_refl _
  · exact Nat.add_le_add_right (Nat.div_le_div_left h h0) 1
set_option maxRecDepth 100000 in
set_option maxHeartbeats 4000000 in
theorem ChunkEach_walk (a0 : ByteArray) (a1 : Int) (w0 : a0.size ≤ 140737488351232) (w1 : (Lit.int .i64 a1).wf = true) (w : World) :
    Calls Try.prog 5 #[.string a0, .int .i64 a1] w fun e w' => e = .returned (.bool true) ∧ Below w.heap.size w w' := by
  obtain ⟨c0, c1⟩ := bounds_i64 w1
  clear w1
  by_cases hbig : 5000 < a0.size
  · go_enter Try.func5, Try.ntmps5
    go_wp2_with fail
    refine (awake_calls _).mono ?_
    rintro e w1 ⟨rfl, hb1⟩
    go_wp2_with fail
    refine (awake_calls _).mono ?_
    rintro e w2 ⟨rfl, hb2⟩
    go_wp2
    go_ret
    exact ⟨rfl, bn hb1 hb2⟩
  · rcases cut_cases a0.size a1 with ⟨k0, k1⟩ | ⟨k1, k0, kc, k, hk, k45, k1000, hn⟩ | ⟨k, hk, k45, k1000, hE, hn⟩
    · go_enter Try.func5, Try.ntmps5
      go_wp2_with fail
      refine (awake_calls _).mono ?_
      rintro e w1 ⟨rfl, hb1⟩
      go_wp2_with fail
      with_reducible refine (Cut_arg _ a0 a1 c0 c1 k1).mono ?_
      rintro e w2 ⟨rfl, rfl⟩
      go_wp2
      go_ret
      exact ⟨rfl, hb1⟩
    · omega
    · have kpos : 0 < k := by omega
      have hcl := cntN_le a0.size k kpos hn
      have hcp := cntN_pos a0.size k
      have hitem := fun i h => chs_item a0 k i kpos h
      have hlen := chs_length a0 k (cntN a0.size k)
      have hbounds : 64 ≤ a1 ∧ a1 ≤ 65535 := by
        by_cases h : a1 < 64 ∨ 65535 < a1
        · have := szI_zero a1 h; omega
        · omega
      obtain ⟨d0, d1⟩ := hbounds
      obtain ⟨m2, hm2⟩ : ∃ m2, min (a1 + 1) 65535 = m2 := ⟨_, rfl⟩
      have hm2b : 64 ≤ m2 ∧ m2 ≤ 65535 := by omega
      have hk2 : ∃ k2 : Nat, szI m2 = k2 ∧ k ≤ k2 ∧ k2 ≤ 1000 := by
        have h1 := (szI_le m2).2
        have h2 : szI a1 ≤ szI m2 := by
          by_cases h : a1 < 65535
          · rw [show m2 = a1 + 1 by omega]; exact szI_mono a1 (by omega) h
          · rw [show m2 = a1 by omega]; exact Int.le_refl _
        obtain ⟨k2, hk2⟩ := Int.eq_ofNat_of_zero_le (szI_le m2).1
        exact ⟨k2, hk2, by omega, by omega⟩
      obtain ⟨k2, hk2, hk2a, hk2b⟩ := hk2
      have hE2 := Lib.hid (szE_zero m2 (by omega))
      have hle := cntN_more a0.size k k2 kpos hk2a
      have hcp2 := cntN_pos a0.size k2
      have HE := Lib.hid hE; clear hE
      have HK := Lib.hid hk; clear hk
      have HK2 := Lib.hid hk2; clear hk2
      have Hitem := Lib.hid hitem; clear hitem
      have Hlen := Lib.hid hlen; clear hlen
      go_enter Try.func5, Try.ntmps5
      go_wp2_with fail
      refine (awake_calls _).mono ?_
      rintro e w1 ⟨rfl, hb1⟩
      go_wp2_with fail
      refine (Cut_ok _ a0 a1 k c0 c1 HK.out kpos HE.out hn k1000).mono ?_
      rintro e w2 ⟨v2, rfl, hb2, g, cap, rfl, f1, f2, f3, f4⟩
      rw [Hlen.out] at *
      have F4 := Lib.hid f4; clear f4
      go_wp2_with fail
      with_reducible refine (Size_calls _ a1 c0 c1).mono ?_
      rintro e w3 ⟨rfl, rfl⟩
      rw [HK.out, HE.out]
      generalize hN : cntN a0.size k = N at hcl hcp Hitem hle f3 ⊢
      have HN := Lib.hid hN; clear hN
      go_wp2
      go_loopw [39] (fun i wr => ∃ (j : Nat), j ≤ N ∧ i = .int .i64 j ∧ wr = w2) (fun i _ => N - (intOf i).toNat)
      case atStart => exact ⟨0, by omega, rfl, rfl⟩
      case round =>
        obtain ⟨j, hj, rfl, rfl⟩ := hrel
        by_cases hlt : j < N
        · have hcell := F4.out j _ (chs_get a0 k _ j (by rw [HN.out]; exact hlt))
          have hitem := Hitem.out j hlt
          generalize a0.extract (j * k) (min a0.size (j * k + k)) = x at hcell hitem
          obtain ⟨i1, i2, i3⟩ := hitem
          by_cases hl : j + 1 < N
          · have z := i1 hl
            have hz : ((x.size : Int) == (k : Int)) = true := by simp [z]
            have hz0 : ((k : Int) == 0) = false := by simp; omega
            clear i1 i3
            go_wp2
            exact ⟨⟨j + 1, by omega, rfl, trivial⟩, by simp only [intOf]; omega⟩
          · by_cases h0 : x.size = 0
            · have z := i3 h0
              have hz0 : ((x.size : Int) == 0) = true := by simp [h0]
              clear i1 i3
              go_wp2
              exact ⟨⟨_, _, _, _, ⟨j + 1, by omega, rfl⟩, rfl, rfl, rfl, rfl⟩, by simp only [intOf]; omega⟩
            · have hz0 : ((x.size : Int) == 0) = false := by simp [h0]
              clear i1 i3
              go_wp2
              exact ⟨⟨j + 1, by omega, rfl, trivial⟩, by simp only [intOf]; omega⟩
        · obtain rfl : j = N := by omega
          go_wp2_with fail
          refine (Cut_ok _ a0 m2 k2 (by omega) (by omega) HK2.out (by omega) hE2.out (by omega) hk2b).mono ?_
          rintro e w3 ⟨v3, rfl, hb3, g3, cap3, rfl, -⟩
          rw [chs_length]
          go_wp2
          go_ret
          exact ⟨rfl, bn (bn hb1 hb2) hb3⟩
end Go.Proofs.Ytjdljpikgngcoaa
