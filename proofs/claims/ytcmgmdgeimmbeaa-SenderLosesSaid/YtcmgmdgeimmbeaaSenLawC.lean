/- The walk of the law SenderLoses: it answers true. -/
import Derived.Test.YtcmgmdgeimmbeaaSenLose
namespace Go.Proofs.Ytcmgmdgeimmbeaa
open Go.RowKit
set_option linter.unusedVariables false
set_option linter.unusedSimpArgs false
/-- What is known behind so many ticks. -/
def LoseSt (N i : Nat) (S : Sn) : Prop := (i ≤ 32 ∧ Lose N i S) ∨ (32 < i ∧ S.lost = true ∧ S.full = false ∧ S.B.length = N ∧ S.T.getD 0 0 = 8 ∧ S.now = 33)
theorem LoseSt.step {N i : Nat} {S : Sn} (h : LoseSt N i S) (hN : 1 ≤ N) : S.tick.2.1 = (if i < 32 then 0 else 16) ∧ LoseSt N (i + 1) S.tick.2.2 ∧ S.now < 900000 := by
  rcases h with ⟨hi, h⟩ | ⟨hi, h1, h2, h3, h4, h5⟩
  · by_cases hlt : i < 32
    · obtain ⟨t1, t2⟩ := h.tick hN hlt
      rw [t1, if_pos hlt]
      exact ⟨rfl, Or.inl ⟨by omega, t2⟩, by rw [h.now]; omega⟩
    · obtain rfl : i = 32 := by omega
      rw [h.gone hN, if_neg hlt]
      refine ⟨rfl, Or.inr ⟨by omega, rfl, ?_, h.bl, ?_, ?_⟩, by rw [h.now]; omega⟩
      · exact h.full hN
      · exact h.t 0 (by omega)
      · show S.now + 1 = 33; rw [h.now]
  · rw [tick_gone h2 h1, if_neg (by omega)]
    exact ⟨rfl, Or.inr ⟨by omega, h1, h2, h3, h4, h5⟩, by omega⟩
set_option maxRecDepth 100000 in
set_option maxHeartbeats 16000000 in
theorem SenderLoses_walk (v0 : Value) (C : List ByteArray) (w : World)
    (w0 : ∃ ad cap, v0 = .slice ad C.length cap ∧ C.length ≤ maxLen ∧ (C ≠ [] → ∃ g o, ad = some ⟨g, o, none⟩ ∧ ∀ (j : Nat) x, C[j]? = some x → w.cell? ⟨g, o + j, none⟩ = some (.string x))) :
    Calls Try.prog 6 #[v0] w fun e w' => e = .returned (.bool true) ∧ Below w.heap.size w w' := by
  obtain ⟨ad0, cap0, rfl, hn0, hx⟩ := w0
  have hstr : Strs C ad0 w := fun j c hj => by
    obtain ⟨g, o, rfl, h⟩ := hx (by intro e; subst e; simp at hj)
    exact ⟨_, rfl, rfl, h j c hj⟩
  clear hx
  cases hmay : mayB 0 0 C with
  | false =>
    have hm := fun w h => May_calls w 0 0 C ad0 cap0 h (by unfold maxLen at hn0; omega)
    rw [hmay] at hm
    have HM := Lib.hid hm; have HS := Lib.hid hstr
    clear hm hstr hmay
    go_enter Try.func6, Try.ntmps6
    go_wp2_with fail
    refine (awake_calls _).mono ?_
    rintro e w1 ⟨rfl, hb1⟩
    go_wp2_with fail
    refine (HM.out _ (HS.out.below hb1)).mono ?_
    rintro e w2 ⟨rfl, rfl⟩
    go_wp2_with fail
    refine (awake_calls _).mono ?_
    rintro e w2 ⟨rfl, hb2⟩
    go_wp2
    go_ret
    exact ⟨rfl, bn hb1 hb2⟩
  | true =>
  obtain ⟨-, -, -, -, hn1, hn2, hc1000⟩ := mayB_true hmay
  have hm := fun w h => May_calls w 0 0 C ad0 cap0 h (by omega)
  rw [hmay] at hm
  have hnew := fun w ad cap h => SNew_good w 0 0 C ad cap h (by decide) (by decide) (by decide) (by decide) hn1 hn2 hc1000
  have HM := Lib.hid hm; have HS := Lib.hid hstr; have HNEW := Lib.hid hnew; have HC1000 := Lib.hid hc1000
  clear hm hstr hmay hnew hc1000
  go_enter Try.func6, Try.ntmps6
  go_wp2_with fail
  refine (awake_calls _).mono ?_
  rintro e w1 ⟨rfl, hb1⟩
  go_wp2_with fail
  refine (HM.out _ (HS.out.below hb1)).mono ?_
  rintro e w2 ⟨rfl, rfl⟩
  have HS1 := Lib.hid (HS.out.below hb1)
  go_wp2_with (with_reducible refine wpList_mark (o := ⟨some 19, _, _, _, _, _⟩) ?_)
  refine Marked.intro ?_
  refine wpList_copy rfl _ _ (by rfl) C ad0 cap0 (by rfl) (by rfl) HS1.out hn1 (by omega) ?_
  intro gc0 cap1 w2 hs2 hb2
  have hc2 := bn hb1 hb2
  have HS2 := Lib.hid hs2
  clear hb1 hb2 hs2
  go_wp2_with fail
  refine (HNEW.out _ _ _ HS2.out).mono ?_
  rintro e w3 ⟨a, rfl, hs3, hb3, hk3⟩
  have hc3 := bn hc2 hb3
  have HK : Hid (∀ k ∈ a.all, w.heap.size ≤ k) := Lib.hid fun k hk => Nat.le_trans hc2.size (hk3 k hk)
  have HS3 := Lib.hid hs3
  clear hc2 hb3 hs3 hk3 HNEW HS2 HS1 HM
  have hst : LoseSt C.length 0 (Sn.start 0 0 C) := Or.inl ⟨by omega, lose_start 0 0 C⟩
  have HST := Lib.hid hst; clear hst
  generalize C.length = N at *
  go_wp2
  go_loopw [23] (fun s23 wr => ∃ (i : Nat) (S : Sn), s23 = .int .i64 i ∧ i ≤ 40 ∧ Hid (SnAt S a wr) ∧ Hid (LoseSt N i S) ∧ Below w.heap.size w wr) (fun s23 _ => 40 - (intOf s23).toNat)
  case atStart => exact ⟨0, _, rfl, by omega, HS3, HST, hc3⟩
  case round =>
    clear HS3 HST hc3
    obtain ⟨wo, rfl⟩ : ∃ wo : World, wo = wr := ⟨_, rfl⟩
    obtain ⟨i, S, rfl, hi, hs, hst, hc⟩ := hrel
    by_cases hlt : i < 40
    · obtain ⟨h1, h2, h3⟩ := hst.out.step hn1
      have htc := Tick_calls wo S a hs.out h3
      have HTC := Lib.hid htc; have H2 := Lib.hid h2; have HE := Lib.hid h1
      clear htc h1 h2 h3 hst hs
      generalize S.tick = R at *
      obtain ⟨l, er, S'⟩ := R
      by_cases h32 : i < 32
      · have he := HE.out
        rw [if_pos h32] at he
        simp only at he
        subst he
        have hz : decide ((i : Int) < 32) = true := by simp; omega
        have hz2 : decide ((32 : Int) ≤ (i : Int)) = false := by simp; omega
        go_wp2_with fail
        refine HTC.out.mono ?_
        rintro e w4 ⟨v, rfl, hs4, -, hc4⟩
        have hc5 := hc.trans (hc4.below HK.out hc.size)
        have HS4 := Lib.hid hs4
        clear hs4 hc4 HTC hc
        go_wp2
        exact ⟨⟨i + 1, S', by go_num, by omega, HS4, H2, hc5⟩, by simp only [intOf]; omega⟩
      · have he := HE.out
        rw [if_neg h32] at he
        simp only at he
        subst he
        have hz : decide ((i : Int) < 32) = false := by simp; omega
        have hz2 : decide ((32 : Int) ≤ (i : Int)) = true := by simp; omega
        go_wp2_with fail
        refine HTC.out.mono ?_
        rintro e w4 ⟨v, rfl, hs4, -, hc4⟩
        have hc5 := hc.trans (hc4.below HK.out hc.size)
        have HS4 := Lib.hid hs4
        clear hs4 hc4 HTC hc
        go_wp2
        exact ⟨⟨i + 1, S', by go_num, by omega, HS4, H2, hc5⟩, by simp only [intOf]; omega⟩
    · obtain rfl : i = 40 := by omega
      rcases hst.out with ⟨h, -⟩ | ⟨-, h1, h2, h3, h4, -⟩
      · omega
      have her := Err_calls wo S a hs.out
      rw [show S.err = 16 by unfold Sn.err; rw [if_pos h1]] at her
      have HER := Lib.hid her
      have HL := Lib.hid h3; have HF := Lib.hid h2; have HT := Lib.hid h4
      clear her h1 h2 h3 h4 hst
      go_wp2_with fail
      refine HER.out.mono ?_
      rintro e w5 ⟨rfl, hb5⟩
      have hc5 := hc.trans (hb5.mono hc.size)
      have hs5 := hs.out.below hb5 (Nat.le_refl _)
      have hd := Done_calls w5 S a hs5
      rw [HF.out] at hd
      have HD := Lib.hid hd; have HS5 := Lib.hid hs5
      clear hd hs5 hb5
      go_wp2_with fail
      refine HD.out.mono ?_
      rintro e w6 ⟨rfl, hb6⟩
      have hc6 := hc5.trans (hb6.mono hc5.size)
      have hs6 := HS5.out.below hb6 (Nat.le_refl _)
      have htr := Tries_calls w6 S a 0 hs6 (by rw [HL.out]; omega)
      rw [HT.out] at htr
      have HTR := Lib.hid htr
      clear htr hs6 hb6
      go_wp2_with fail
      refine HTR.out.mono ?_
      rintro e w7 ⟨rfl, rfl⟩
      go_wp2
      go_ret
      exact ⟨rfl, hc6⟩
end Go.Proofs.Ytcmgmdgeimmbeaa
