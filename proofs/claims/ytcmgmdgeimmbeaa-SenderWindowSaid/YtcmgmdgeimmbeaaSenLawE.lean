/- The walk of the law SenderWindow: it answers true. -/
import Derived.Test.YtcmgmdgeimmbeaaSenSent
import Derived.Test.YtcmgmdgeimmbeaaSenLawD
namespace Go.Proofs.Ytcmgmdgeimmbeaa
open Go.RowKit
set_option linter.unusedVariables false
set_option linter.unusedSimpArgs false
theorem Ack_any (w : World) (S : Sn) (a : Sa) (k s e i t : Int) (d : ByteArray) (h : SnAt S a w) (hd : d.size ≤ 140737488351232) :
    Calls Try.prog 13 #[.pointer (some ⟨a.g, 0, none⟩), .agg #[.int .i64 k, .int .i64 s, .int .i64 e, .int .i64 i, .int .i64 t, .string d]] w fun x w' => ∃ (er : Nat) (S' : Sn), x = .returned (.int .i64 (er : Int)) ∧ SnAt S' a w' ∧ Chg a.all w w' ∧ S'.B.length = S.B.length ∧ S'.now = S.now ∧ S'.C = S.C := by
  refine (Ack_calls w S a k s e i t d h hd).mono ?_
  rintro x w' ⟨hx, hs, hc⟩
  obtain ⟨a1, a2, -, -, a5, -⟩ := ack_facts S k s e i t d
  exact ⟨_, _, hx, hs, hc, a1, a2, a5⟩
set_option maxRecDepth 100000 in
set_option maxHeartbeats 16000000 in
theorem SenderWindow_walk (v0 : Value) (C : List ByteArray) (v1 : Value) (xs : List Nat) (w : World)
    (w0 : ∃ ad cap, v0 = .slice ad C.length cap ∧ C.length ≤ maxLen ∧ (C ≠ [] → ∃ g o, ad = some ⟨g, o, none⟩ ∧ ∀ (j : Nat) x, C[j]? = some x → w.cell? ⟨g, o + j, none⟩ = some (.string x)))
    (w1 : ∃ ad cap, v1 = .slice ad xs.length cap ∧ (∀ (j : Nat) x, xs[j]? = some x → x < 256) ∧ xs.length ≤ 140737488351232 ∧ (xs ≠ [] → ∃ g o, ad = some ⟨g, o, none⟩ ∧ ∀ (j : Nat) x, xs[j]? = some x → w.cell? ⟨g, o + j, none⟩ = some (.int .u8 (x : Int)))) :
    Calls Try.prog 5 #[v0, v1] w fun e w' => e = .returned (.bool true) ∧ Below w.heap.size w w' := by
  obtain ⟨adx, capx, rfl, hx256, -, hxs⟩ := w1
  have HXS := Lib.hid hxs; have HX256 := Lib.hid hx256; clear hxs hx256
  obtain ⟨ad0, cap0, rfl, hn0, hx⟩ := w0
  have hstr : Strs C ad0 w := fun j c hj => by
    obtain ⟨g, o, rfl, h⟩ := hx (by intro e; subst e; simp at hj)
    exact ⟨_, rfl, rfl, h j c hj⟩
  clear hx
  cases hmay : mayB 0 0 C with
  | false =>
    have hm := fun w h => May_calls w 0 0 C ad0 cap0 h (by unfold maxLen at hn0; omega)
    rw [hmay] at hm
    have HM := Lib.hid hm; have HS := Lib.hid hstr
    clear hm hstr hmay
    go_enter Try.func5, Try.ntmps5
    go_wp2_with fail
    refine (awake_calls _).mono ?_
    rintro e w1 ⟨rfl, hb1⟩
    go_wp2_with fail
    refine (HM.out _ (HS.out.below hb1)).mono ?_
    rintro e w2 ⟨rfl, rfl⟩
    go_wp2_with fail
    refine (awake_calls _).mono ?_
    rintro e w2 ⟨rfl, hb2⟩
    go_wp2
    go_ret
    exact ⟨rfl, bn hb1 hb2⟩
  | true =>
  obtain ⟨-, -, -, -, hn1, hn2, hc1000⟩ := mayB_true hmay
  have hm := fun w h => May_calls w 0 0 C ad0 cap0 h (by omega)
  rw [hmay] at hm
  have hnew := fun w ad cap h => SNew_good w 0 0 C ad cap h (by decide) (by decide) (by decide) (by decide) hn1 hn2 hc1000
  have HM := Lib.hid hm; have HS := Lib.hid hstr; have HNEW := Lib.hid hnew; have HC1000 := Lib.hid hc1000
  clear hm hstr hmay hnew hc1000
  by_cases hbig : 200 < (xs.length : Int)
  · go_enter Try.func5, Try.ntmps5
    go_wp2_with fail
    refine (awake_calls _).mono ?_
    rintro e w1 ⟨rfl, hb1⟩
    go_wp2_with fail
    refine (HM.out _ (HS.out.below hb1)).mono ?_
    rintro e w2 ⟨rfl, rfl⟩
    go_wp2_with fail
    refine (awake_calls _).mono ?_
    rintro e w2 ⟨rfl, hb2⟩
    go_wp2
    go_ret
    exact ⟨rfl, bn hb1 hb2⟩
  have hnx : xs.length ≤ 200 := by omega
  have hd1 : decide (200 < (xs.length : Int)) = false := by simpa using hbig
  go_enter Try.func5, Try.ntmps5
  go_wp2_with fail
  refine (awake_calls _).mono ?_
  rintro e w1 ⟨rfl, hb1⟩
  go_wp2_with fail
  refine (HM.out _ (HS.out.below hb1)).mono ?_
  rintro e w2 ⟨rfl, rfl⟩
  have HS1 := Lib.hid (HS.out.below hb1)
  go_wp2_with (with_reducible refine wpList_mark (o := ⟨some 31, _, _, _, _, _⟩) ?_)
  refine Marked.intro ?_
  refine wpList_copy rfl _ _ (by rfl) C ad0 cap0 (by rfl) (by rfl) HS1.out hn1 (by omega) ?_
  intro gc0 cap1 w2 hs2 hb2
  have hc2 := bn hb1 hb2
  have HS2 := Lib.hid hs2
  clear hb1 hb2 hs2
  go_wp2_with fail
  refine (HNEW.out _ _ _ HS2.out).mono ?_
  rintro e w3 ⟨a, rfl, hs3, hb3, hk3⟩
  have hc3 := bn hc2 hb3
  have HK : Hid (∀ k ∈ a.all, w.heap.size ≤ k) := Lib.hid fun k hk => Nat.le_trans hc2.size (hk3 k hk)
  have HS3 := Lib.hid hs3
  clear hc2 hb3 hs3 hk3 HNEW HS2 HS1 HM
  have hstB : (Sn.start 0 0 C).B.length = C.length := by simp [Sn.start]
  have HSTB := Lib.hid hstB; clear hstB
  have hstC : (Sn.start 0 0 C).C = C := rfl
  have HSTC := Lib.hid hstC; clear hstC
  have hcd : ∀ ii, ii < C.length → C[ii]? = some (C.getD ii ⟨#[]⟩) := fun ii hi => by rw [List.getD_eq_getElem?_getD, List.getElem?_eq_getElem hi]; rfl
  have HCD := Lib.hid hcd; clear hcd
  obtain ⟨N, hN⟩ : ∃ N, C.length = N := ⟨_, rfl⟩
  rw [hN] at hn1 hn2 HSTB HCD ⊢
  clear hN hn0
  go_wp2
  go_loopw [39] (fun s39 wr => ∃ (j : Nat) (S : Sn), s39 = .int .i64 j ∧ j ≤ xs.length ∧ Hid (SnAt S a wr) ∧ S.now ≤ j ∧ Hid (S.B.length = N) ∧ Hid (S.C = C) ∧ Below w.heap.size w wr) (fun s39 _ => xs.length - (intOf s39).toNat)
  case atStart => exact ⟨0, _, rfl, by omega, HS3, Nat.le_refl _, HSTB, HSTC, hc3⟩
  case round =>
    clear HS3 HSTB HSTC hc3
    obtain ⟨wo, rfl⟩ : ∃ wo : World, wo = wr := ⟨_, rfl⟩
    obtain ⟨j, S, rfl, hj, hs, hnow, hbl, hsc, hc⟩ := hrel
    by_cases hlt : j < xs.length
    · have hx := List.getElem?_eq_getElem hlt
      obtain ⟨gx, ox, rfl, hcl⟩ := HXS.out (by intro e; subst e; simp at hlt)
      have hq := hcl j _ hx
      have hx2 := HX256.out j _ hx
      generalize xs[j] = x at *
      have r0 := (hc.cell (World.block_lt_of_cell? w _ hq)).trans hq
      clear hq hcl HXS hx
      go_wp2_with fail
      clear r0
      refine (There_calls wo S a hs.out).mono ?_
      rintro e x1 ⟨rfl, hm1, hb1, -⟩
      have hc1 := hc.trans (hb1.mono hc.size)
      have hs1 := hs.out.below hb1 (Nat.le_refl _)
      generalize wo.heap.size = g0 at *
      have HS1 := Lib.hid hs1; have HM1 := Lib.hid hm1
      clear hs1 hm1 hb1 hc hs
      go_wp2_with fail
      refine (Base_calls x1 g0 S.B HM1.out).mono ?_
      rintro e y ⟨rfl, rfl⟩
      go_wp2_with fail
      refine (There_calls x1 S a HS1.out).mono ?_
      rintro e x2 ⟨rfl, hm2, hb2, -⟩
      have hc2 := hc1.trans (hb2.mono hc1.size)
      have hs2 := HS1.out.below hb2 (Nat.le_refl _)
      have hgn : x1.heap.size ∉ a.all := fun h => by have := HS1.out.lt _ h; omega
      generalize x1.heap.size = g1 at *
      have HS2 := Lib.hid hs2; have HM2 := Lib.hid hm2
      clear hs2 hm2 hb2 hc1 HS1 HM1
      have htc := Tick_calls x2 S a HS2.out (by omega)
      obtain ⟨b1, b2, b3, b4, -, -, b7⟩ := tick_facts S
      have hl300 : S.tick.1.length ≤ 300 := by have := tick_len S; have := hbl.out; omega
      have hsent := tick_sent S HS2.out.wf
      have h15 := tick_full15 S
      have h16 := tick_lost16 S
      have HTC := Lib.hid htc; have B1 := Lib.hid b1; have B2 := Lib.hid b2; have B4 := Lib.hid b4; have HSE := Lib.hid hsent; have H15 := Lib.hid h15; have H16 := Lib.hid h16
      clear htc b1 b2 b4 hsent h15 h16
      have hbN : baseB S.B ≤ 256 := by have := baseB_le S.B; have := hbl.out; omega
      generalize S.tick = R at *
      obtain ⟨l, er, S3⟩ := R
      simp only at *
      generalize hbs : baseB S.B = bs at *
      have HBS := Lib.hid hbs; clear hbs
      go_wp2_with fail
      refine HTC.out.mono ?_
      rintro e x4 ⟨v, rfl, hs4, ⟨ad, cap, rfl, hfr⟩, hg4⟩
      simp only at hs4 hfr
      have hm4 := HM2.out.chg hg4 hgn
      have hc4 := hc2.trans (hg4.below HK.out hc2.size)
      have HS4 := Lib.hid hs4; have HM4 := Lib.hid hm4; have HFR := Lib.hid hfr
      clear hs4 hm4 hfr hg4 hc2 HTC HM2 HS2
      rcases b7 with rfl | rfl | rfl
      · -- it sends
        obtain ⟨t8, hbN2, tb⟩ := HSE.out rfl
        have T8 := Lib.hid t8; have TB := Lib.hid tb
        clear t8 tb HSE H15 H16
        go_wp2
        go_loopw [77] (fun s77 wr2 => ∃ m : Nat, s77 = .int .i64 m ∧ m ≤ l.length ∧ Below x4.heap.size x4 wr2) (fun s77 _ => l.length - (intOf s77).toNat)
        case atStart => exact ⟨0, rfl, by omega, Below.refl _ _⟩
        case round =>
          obtain ⟨m, rfl, hm, hb⟩ := hrel
          by_cases hlm : m < l.length
          · have hjl := List.getElem?_eq_getElem hlm
            obtain ⟨gl, rfl, hg1, hg2', hq⟩ := HFR.out (by intro e; subst e; simp at hlm)
            have hce := fr_cells (fun q hq2 => (hb.cell (p := ⟨gl, m * 6 + q, none⟩) hg2').trans (hq m _ q hjl hq2))
            have hnh := B1.out _ (List.getElem_mem hlm)
            have ht8 := T8.out _ (List.getElem_mem hlm)
            generalize l[m] = ii at *
            obtain ⟨i1, i2, i3, i4⟩ := hnh
            rw [hbl.out] at i1
            rw [hbl.out, hsc.out] at hce
            obtain ⟨q0, q1, q2, q3, q4, q5⟩ := hce
            have hcx := HCD.out ii i1
            generalize C.getD ii ⟨#[]⟩ = cc at *
            obtain ⟨⟨ab, ao, asp⟩, rfl, hsp, hcc⟩ := HS.out ii cc hcx
            simp only at hsp hcc
            subst hsp
            have hba := (Below.refl wr.heap.size wr).alloc (Nat.le_refl _) (.cells #[.int .i64 1, .int .i64 S.ses, .int .i64 S.ep, .int .i64 (ii : Int), .int .i64 (N : Nat), .string cc] 31)
            have hR := heap_alloc_new wr (.cells #[.int .i64 1, .int .i64 S.ses, .int .i64 S.ep, .int .i64 (ii : Int), .int .i64 (N : Nat), .string cc] 31)
            have hb2 := hb.trans (hba.mono hb.size)
            have hcb := hc4.trans (hb2.mono hc4.size)
            have hmm := (HM4.out.below hb).below hba
            have hss := HS4.out.below hb2 (Nat.le_refl _)
            have hh : ∀ n, Calls Try.prog 14 #[.pointer (some ⟨g1, 0, none⟩), .int .i64 (ii : Int)] ((wr.alloc (.cells #[.int .i64 1, .int .i64 S.ses, .int .i64 S.ep, .int .i64 (ii : Int), .int .i64 (N : Nat), .string cc] 31)).drewN n) fun e w' => e = .returned (.bool false) ∧ w' = (wr.alloc (.cells #[.int .i64 1, .int .i64 S.ses, .int .i64 S.ep, .int .i64 (ii : Int), .int .i64 (N : Nat), .string cc] 31)).drewN n := fun n => by
              have := Has_calls ((wr.alloc (.cells #[.int .i64 1, .int .i64 S.ses, .int .i64 S.ep, .int .i64 (ii : Int), .int .i64 (N : Nat), .string cc] 31)).drewN n) g1 S.B ii ⟨hmm.row, hmm.one, hmm.le⟩
              rw [hasB_nat, i4] at this
              exact this.mono fun _ _ h => ⟨h.1, h.2.symm⟩
            have ht : ∀ n, Calls Try.prog 17 #[.pointer (some ⟨a.g, 0, none⟩), .int .i64 (ii : Int)] ((wr.alloc (.cells #[.int .i64 1, .int .i64 S.ses, .int .i64 S.ep, .int .i64 (ii : Int), .int .i64 (N : Nat), .string cc] 31)).drewN n) fun e w' => e = .returned (.int .i64 (S3.T.getD ii 0 : Nat)) ∧ w' = (wr.alloc (.cells #[.int .i64 1, .int .i64 S.ses, .int .i64 S.ep, .int .i64 (ii : Int), .int .i64 (N : Nat), .string cc] 31)).drewN n := fun n =>
              (Tries_calls _ S3 a ii (hss.drewN n) (by rw [B2.out, hbl.out]; exact i1)).mono fun _ _ h => ⟨h.1, h.2.symm⟩
            generalize S3.T.getD ii 0 = tt at *
            have p3 : (wr.alloc (.cells #[.int .i64 1, .int .i64 S.ses, .int .i64 S.ep, .int .i64 (ii : Int), .int .i64 (N : Nat), .string cc] 31)).cell? ⟨wr.heap.size, 3, none⟩ = some (.int .i64 (ii : Int)) := by rw [cell_of_row _ _ 3 _ _ _ hR]; rfl
            have p4 : (wr.alloc (.cells #[.int .i64 1, .int .i64 S.ses, .int .i64 S.ep, .int .i64 (ii : Int), .int .i64 (N : Nat), .string cc] 31)).cell? ⟨wr.heap.size, 4, none⟩ = some (.int .i64 (N : Nat)) := by rw [cell_of_row _ _ 4 _ _ _ hR]; rfl
            have p5 : (wr.alloc (.cells #[.int .i64 1, .int .i64 S.ses, .int .i64 S.ep, .int .i64 (ii : Int), .int .i64 (N : Nat), .string cc] 31)).cell? ⟨wr.heap.size, 5, none⟩ = some (.string cc) := by rw [cell_of_row _ _ 5 _ _ _ hR]; rfl
            have pc := (hcb.cell (p := ⟨ab, ao + ii, none⟩) (World.block_lt_of_cell? w _ hcc)).trans hcc
            have HH := Lib.hid hh; have HT := Lib.hid ht; have HB2 := Lib.hid hb2
            clear hq hjl HFR hba hmm hh ht hb hss hcb hcc hcx hR i4 hb2
            have d1 : decide ((ii : Int) < (bs : Int)) = false := by simp; omega
            have d2 : decide ((bs : Int) + 8 ≤ (ii : Int)) = false := by simp; omega
            have d3 : (cc.toList != cc.toList) = false := by simp
            have d4 : ((N : Int) != (N : Int)) = false := by simp
            have d5 : decide ((8 : Int) < (tt : Int)) = false := by simp; omega
            have d6 : (ii : Int) < (N : Int) := by omega
            have d7 : (0 : Int) ≤ (ii : Int) := by omega
            have hml : (m : Int) < (l.length : Int) := by omega
            have d9 : IntKind.i64.wrap ((bs : Int) + 8) = (bs : Int) + 8 := IntWalk.i64_in _ (by omega)
            go_wp2_with fail
            clear q0 q1 q2 q3 q4 q5
            generalize wr.alloc (.cells #[.int .i64 1, .int .i64 S.ses, .int .i64 S.ep, .int .i64 (ii : Int), .int .i64 (N : Nat), .string cc] 31) = y at *
            go_quiet ((first | (go_at_call 14; exact Calls.quiet_of_same (HH.out _)) | (go_at_call 17; exact Calls.quiet_of_same (HT.out _))))
            have HB3 : Hid (Below x4.heap.size x4 (y.drewN nq)) := Lib.hid (HB2.out.trans below_drewN_of)
            clear HB2 p3 p4 p5 pc
            go_wp2
            exact ⟨⟨m + 1, by go_num, by omega, HB3.out⟩, by simp only [intOf]; omega⟩
          · have hml : ¬ (m : Int) < (l.length : Int) := by omega
            have HS5 := Lib.hid (HS4.out.below hb (Nat.le_refl _))
            have hc5 := hc4.trans (hb.mono hc4.size)
            have htr := Tries_calls wr S3 a bs HS5.out (by rw [B2.out]; exact hbN2)
            obtain ⟨tt, htt⟩ : ∃ tt, S3.T.getD bs 0 = tt := ⟨_, rfl⟩
            have htn := TB.out
            rw [htt] at htr htn
            have HTR := Lib.hid htr
            clear htr htt hb HFR TB T8
            have dn : ((tt : Int) == 0) = false := by rw [beq_eq_false_iff_ne]; omega
            have HB5 : Hid (S3.B.length = N) := Lib.hid (by rw [B2.out]; exact hbl.out)
            have HC5 : Hid (S3.C = C) := Lib.hid (B4.out.trans hsc.out)
            by_cases h3 : x % 3 = 0
            · have e3 : ((x : Int) % 3 == 0) = true := by rw [beq_iff_eq]; omega
              clear h3
              go_wp2_with fail
              refine HTR.out.mono ?_
              rintro e y ⟨rfl, rfl⟩
              go_wp2_with fail
              all_goals
                refine (Ack_any wr S3 a 2 0 0 _ _ ⟨#[]⟩ HS5.out (by decide)).mono ?_
                rintro e x6 ⟨er, S6, rfl, hs6, hg6, a1, a2, a3⟩
                have hc6 := hc5.trans (hg6.below HK.out hc5.size)
                have HS6 := Lib.hid hs6
                have HB6 : Hid (S6.B.length = N) := Lib.hid (a1.trans HB5.out)
                have HC6 : Hid (S6.C = C) := Lib.hid (a3.trans HC5.out)
                have hn6 : S6.now ≤ j + 1 := by rw [a2]; omega
                clear hs6 hg6 a1 a2 a3
                go_wp2
                exact ⟨⟨j + 1, S6, by go_num, by omega, HS6, hn6, HB6, HC6, hc6⟩, by simp only [intOf]; omega⟩
            · have e3 : ((x : Int) % 3 == 0) = false := by rw [beq_eq_false_iff_ne]; omega
              clear h3
              go_wp2_with fail
              refine HTR.out.mono ?_
              rintro e y ⟨rfl, rfl⟩
              go_wp2
              exact ⟨⟨j + 1, S3, by go_num, by omega, HS5, by omega, HB5, HC5, hc5⟩, by simp only [intOf]; omega⟩
      · -- all are there
        obtain ⟨hl0, hf⟩ := H15.out rfl
        have hd := Done_calls x4 S3 a HS4.out
        rw [hf] at hd
        have HD := Lib.hid hd
        rw [hl0]
        clear hd hf H15 H16 HSE hl0
        go_wp2_with fail
        refine HD.out.mono ?_
        rintro e x5 ⟨rfl, hb5⟩
        have hc5 := hc4.trans (hb5.mono hc4.size)
        clear hb5
        go_wp2
        go_ret
        exact ⟨rfl, hc5⟩
      · -- it gave up
        obtain ⟨hl0, hf⟩ := H16.out rfl
        have hd := Err_calls x4 S3 a HS4.out
        rw [show S3.err = 16 by unfold Sn.err; rw [if_pos hf]] at hd
        have HD := Lib.hid hd
        rw [hl0]
        clear hd hf H15 H16 HSE hl0
        go_wp2_with fail
        refine HD.out.mono ?_
        rintro e x5 ⟨rfl, hb5⟩
        have hc5 := hc4.trans (hb5.mono hc4.size)
        clear hb5
        go_wp2
        go_ret
        exact ⟨rfl, hc5⟩
    · have hlt2 : ¬ (j : Int) < (xs.length : Int) := by omega
      go_wp2
      go_ret
      exact ⟨rfl, hc⟩
end Go.Proofs.Ytcmgmdgeimmbeaa
