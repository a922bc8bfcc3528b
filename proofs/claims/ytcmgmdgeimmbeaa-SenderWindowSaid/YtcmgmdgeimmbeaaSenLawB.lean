/- The walk of the law SenderWhole: it answers true. -/
import Derived.Test.YtcmgmdgeimmbeaaSenRounds
namespace Go.Proofs.Ytcmgmdgeimmbeaa
open Go.RowKit
set_option linter.unusedVariables false
set_option linter.unusedSimpArgs false
/-- A frame's cells, one by one. -/
theorem fr_cells {S : Sn} {w : World} {gl j i : Nat} (h : ∀ q, q < 6 → w.cell? ⟨gl, j * 6 + q, none⟩ = (frC S i)[q]?) :
    w.cell? ⟨gl, j * 6, none⟩ = some (.int .i64 1) ∧ w.cell? ⟨gl, j * 6 + 1, none⟩ = some (.int .i64 S.ses) ∧ w.cell? ⟨gl, j * 6 + 2, none⟩ = some (.int .i64 S.ep) ∧ w.cell? ⟨gl, j * 6 + 3, none⟩ = some (.int .i64 (i : Int)) ∧ w.cell? ⟨gl, j * 6 + 4, none⟩ = some (.int .i64 (S.B.length : Nat)) ∧ w.cell? ⟨gl, j * 6 + 5, none⟩ = some (.string (S.C.getD i ⟨#[]⟩)) :=
  ⟨h 0 (by decide), h 1 (by decide), h 2 (by decide), h 3 (by decide), h 4 (by decide), h 5 (by decide)⟩
set_option maxRecDepth 100000 in
set_option maxHeartbeats 16000000 in
theorem SenderWhole_walk (v0 : Value) (C : List ByteArray) (w : World)
    (w0 : ∃ ad cap, v0 = .slice ad C.length cap ∧ C.length ≤ maxLen ∧ (C ≠ [] → ∃ g o, ad = some ⟨g, o, none⟩ ∧ ∀ (j : Nat) x, C[j]? = some x → w.cell? ⟨g, o + j, none⟩ = some (.string x))) :
    Calls Try.prog 4 #[v0] w fun e w' => e = .returned (.bool true) ∧ Below w.heap.size w w' := by
  obtain ⟨ad0, cap0, rfl, hn0, hx⟩ := w0
  have hstr : Strs C ad0 w := fun j c hj => by
    obtain ⟨g, o, rfl, h⟩ := hx (by intro e; subst e; simp at hj)
    exact ⟨_, rfl, rfl, h j c hj⟩
  clear hx
  cases hmay : mayB 1 2 C with
  | false =>
    have hm := fun w h => May_calls w 1 2 C ad0 cap0 h (by unfold maxLen at hn0; omega)
    rw [hmay] at hm
    have HM := Lib.hid hm; have HS := Lib.hid hstr
    clear hm hstr hmay
    go_enter Try.func4, Try.ntmps4
    go_wp2_with fail
    refine (awake_calls _).mono ?_
    rintro e w1 ⟨rfl, hb1⟩
    go_wp2_with fail
    refine (HM.out _ (HS.out.below hb1)).mono ?_
    rintro e w2 ⟨rfl, rfl⟩
    go_wp2_with fail
    refine (awake_calls _).mono ?_
    rintro e w2 ⟨rfl, hb2⟩
    go_wp2
    go_ret
    exact ⟨rfl, bn hb1 hb2⟩
  | true =>
  obtain ⟨-, -, -, -, hn1, hn2, hc1000⟩ := mayB_true hmay
  have hm := fun w h => May_calls w 1 2 C ad0 cap0 h (by omega)
  rw [hmay] at hm
  have hnew := fun w ad cap h => SNew_good w 1 2 C ad cap h (by decide) (by decide) (by decide) (by decide) hn1 hn2 hc1000
  have HM := Lib.hid hm; have HS := Lib.hid hstr; have HNEW := Lib.hid hnew; have HC1000 := Lib.hid hc1000
  clear hm hstr hmay hnew hc1000
  go_enter Try.func4, Try.ntmps4
  go_wp2_with fail
  refine (awake_calls _).mono ?_
  rintro e w1 ⟨rfl, hb1⟩
  go_wp2_with fail
  refine (HM.out _ (HS.out.below hb1)).mono ?_
  rintro e w2 ⟨rfl, rfl⟩
  have HS1 := Lib.hid (HS.out.below hb1)
  go_wp2_with (with_reducible refine wpList_mark (o := ⟨some 21, _, _, _, _, _⟩) ?_)
  refine Marked.intro ?_
  refine wpList_copy rfl _ _ (by rfl) C ad0 cap0 (by rfl) (by rfl) HS1.out hn1 (by omega) ?_
  intro gc0 cap1 w2 hs2 hb2
  have hc2 := bn hb1 hb2
  have HS2 := Lib.hid hs2
  clear hb1 hb2 hs2
  go_wp2_with fail
  refine (HNEW.out _ _ _ HS2.out).mono ?_
  rintro e w3 ⟨a, rfl, hs3, hb3, hk3⟩
  have hc3 := bn hc2 hb3
  have HK : Hid (∀ k ∈ a.all, w.heap.size ≤ k) := Lib.hid fun k hk => Nat.le_trans hc2.size (hk3 k hk)
  have HS3 := Lib.hid hs3
  clear hc2 hb3 hs3 hk3 HNEW HS2 HS1 HM
  have hwh := whole_start C
  have HWH := Lib.hid hwh; clear hwh
  obtain ⟨K, hK⟩ : ∃ K : Nat, ((C.length : Int) + 7) / 8 = (K : Int) := ⟨(C.length + 7) / 8, by omega⟩
  have hKK : K = (C.length + 7) / 8 := by omega
  have HKK := Lib.hid hKK; clear hKK
  obtain ⟨N, hN⟩ : ∃ N, C.length = N := ⟨_, rfl⟩
  rw [hN] at hn1 hn2 hK HKK ⊢
  have HN := Lib.hid hN; clear hN
  have hK256 : K ≤ 40 := by omega
  clear hK
  go_wp2
  go_loopw [5, 29] (fun s5 s29 wr => ∃ (r n : Nat) (S : Sn), s29 = .int .i64 r ∧ s5 = .int .i64 n ∧ r ≤ K ∧ Hid (n = min (8 * r) N) ∧ Hid (SnAt S a wr) ∧ Hid (Whole C S n r) ∧ Below w.heap.size w wr) (fun _ s29 _ => K - (intOf s29).toNat)
  case atStart => exact ⟨0, 0, _, rfl, rfl, by omega, Lib.hid (by omega), HS3, HWH, hc3⟩
  case round =>
    obtain ⟨wo, rfl⟩ : ∃ wo : World, wo = wr := ⟨_, rfl⟩
    obtain ⟨r, n, S, rfl, rfl, hr, hn, hs, hwh, hc⟩ := hrel
    clear HS3 HWH hc3
    have hnN : n ≤ N := by have := hn.out; omega
    by_cases hlt : r < K
    · have hnlt : n < N := by have := hn.out; have := HKK.out; omega
      obtain ⟨htk, hfull⟩ := whole_tick hwh.out (by rw [HN.out]; exact hnlt)
      have hack := whole_ack hwh.out (by rw [HN.out]; exact hnN)
      obtain ⟨hack1, hack2⟩ := hack
      have htc := Tick_calls wo S a hs.out (by rw [hwh.out.now]; omega)
      rw [htk] at htc
      rw [HN.out] at htc hack1 hack2
      have HTC := Lib.hid htc; have HA1 := Lib.hid hack1; have HA2 := Lib.hid hack2
      clear htc hack1 hack2 htk hfull
      obtain ⟨n', hn'⟩ : ∃ n', min (n + 8) N = n' := ⟨_, rfl⟩
      rw [hn'] at HTC HA1 HA2
      have hn'b : n ≤ n' ∧ n' ≤ N ∧ n' = min (8 * (r + 1)) N := by have := hn.out; omega
      obtain ⟨hb1, hb2, hb3⟩ := hn'b
      have HB3 := Lib.hid hb3; clear hb3 hn'
      have hri : (r : Int) < ((N : Int) + 7) / 8 := by have := HKK.out; omega
      go_wp2_with fail
      refine HTC.out.mono ?_
      rintro e w4 ⟨v, rfl, hs4, ⟨ad, cap, rfl, hfr⟩, hc4⟩
      rw [List.length_range'] at *
      have hc5 := hc.trans (hc4.below HK.out hc.size)
      have HFR := Lib.hid hfr; have HS4 := Lib.hid hs4
      clear hfr hs4 hc4 HTC hc
      generalize S.step.sentL S.step.due = S' at *
      go_wp2
      go_loopw [5, 40] (fun s5 s40 wr2 => ∃ (j m : Nat), s40 = .int .i64 j ∧ s5 = .int .i64 m ∧ Hid (m = n + j) ∧ j ≤ n' - n ∧ Below w4.heap.size w4 wr2) (fun _ s40 _ => (n' - n) - (intOf s40).toNat)
      case atStart => exact ⟨0, n, rfl, rfl, Lib.hid rfl, by omega, Below.refl _ _⟩
      case round =>
        obtain ⟨j, m, rfl, rfl, hm, hj, hb⟩ := hrel
        by_cases hlj : j < n' - n
        · have hjl : (List.range' n (n' - n))[j]? = some (n + j) := by rw [List.getElem?_range' hlj, Nat.one_mul]
          obtain ⟨gl, rfl, hg1, hg2, hq⟩ := HFR.out (by intro e; rw [e] at hjl; simp at hjl)
          have hce := fr_cells (fun q hq2 => (hb.cell (p := ⟨gl, j * 6 + q, none⟩) hg2).trans (hq j (n + j) q hjl hq2))
          obtain ⟨q0, q1, q2, q3, q4, q5⟩ := hce
          rw [← hm.out] at q3 q5
          clear hq hjl HFR
          have hba := hb.trans (((Below.refl wr.heap.size wr).alloc (Nat.le_refl _) (.cells #[.int .i64 1, .int .i64 S.ses, .int .i64 S.ep, .int .i64 (m : Int), .int .i64 (S.B.length : Nat), .string (S.C.getD m ⟨#[]⟩)] 31)).mono hb.size)
          have hnb : (m : Int) ≤ 300 := by have := hm.out; omega
          have hjb : (j : Int) < ((n' - n : Nat) : Int) := by omega
          have HBA := Lib.hid hba; clear hba hb
          generalize S.C.getD m ⟨#[]⟩ = ci at *
          generalize S.B.length = sb at *
          generalize S.ses = ss at *
          generalize S.ep = se at *
          go_wp2
          exact ⟨⟨j + 1, m + 1, by go_num, by go_num, Lib.hid (by have := hm.out; omega), by omega, HBA.out⟩, by simp only [intOf]; omega⟩
        · have hjb : ¬ (j : Int) < ((n' - n : Nat) : Int) := by omega
          have hs5 := HS4.out.below hb (Nat.le_refl _)
          have hc6 := hc5.trans (hb.mono hc5.size)
          have hack := Ack_calls wr S' a 2 1 2 (n' : Int) (N : Int) ⟨#[]⟩ hs5 (by decide)
          rw [HA1.out] at hack
          have hmn : m = n' := by have := hm.out; omega
          subst hmn
          have HACK := Lib.hid hack
          clear hack hs5 hb hc5 hj hlj HFR HA1
          go_wp2_with fail
          refine HACK.out.mono ?_
          rintro e w6 ⟨rfl, hs6, hc7⟩
          have hc8 := hc6.trans (hc7.below HK.out hc6.size)
          have HS6 := Lib.hid hs6
          clear hs6 hc7 hc6 HACK
          go_wp2
          exact ⟨⟨r + 1, m, _, by go_num, rfl, by omega, Lib.hid (by have := HB3.out; omega), HS6, HA2, hc8⟩, by simp only [intOf]; omega⟩
    · have hri : ¬ (r : Int) < ((N : Int) + 7) / 8 := by have := HKK.out; omega
      have hnn : n = N := by have := hn.out; have := HKK.out; omega
      subst hnn
      have hfull : S.full = true := by
        unfold Sn.full
        rw [hwh.out.base (by rw [HN.out]; exact Nat.le_refl _), hwh.out.bl, HN.out]; simp
      have hT : S.T.getD 0 0 = 1 := by rw [hwh.out.t 0 (by rw [HN.out]; omega), if_pos (by omega)]
      have hbl : S.B.length = n := by rw [hwh.out.bl, HN.out]
      have hd := Done_calls wo S a hs.out
      rw [hfull] at hd
      have HD := Lib.hid hd; have HT := Lib.hid hT; have HBL := Lib.hid hbl
      clear hd hT hbl hfull
      go_wp2_with fail
      refine HD.out.mono ?_
      rintro e w5 ⟨rfl, hb5⟩
      have hc5 := hc.trans (hb5.mono hc.size)
      have hs5 := hs.out.below hb5 (Nat.le_refl _)
      have htr := Tries_calls w5 S a 0 hs5 (by rw [HBL.out]; omega)
      rw [HT.out] at htr
      have HTR := Lib.hid htr
      clear htr hs5 hb5
      go_wp2_with fail
      refine HTR.out.mono ?_
      rintro e w6 ⟨rfl, rfl⟩
      go_wp2
      go_ret
      exact ⟨rfl, hc5⟩
end Go.Proofs.Ytcmgmdgeimmbeaa
