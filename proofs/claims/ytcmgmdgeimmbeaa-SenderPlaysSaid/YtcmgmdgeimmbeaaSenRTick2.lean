/- The walk of the reference's sender's Tick, time going on. -/
import Derived.Test.YtcmgmdgeimmbeaaSenRTick
import Derived.Deep.CutRange
namespace Go.Proofs.Ytcmgmdgeimmbeaa
open Go.RowKit Go.Sort
set_option linter.unusedVariables false
set_option linter.unusedSimpArgs false
attribute [local go_sem] Lib.two Lib.twoUpon_value Lib.twoUpon_skip Lib.twoUpon_enter
theorem own_after {w w' : World} {B : Nat} {e : TypeId} {sz : Nat} {v : Value} {n : Nat} {xs : List Value} (h : w.ownsRow B e sz v n xs) (hb : Below w.heap.size w w') : w'.ownsRow B e sz v n xs := ownsRow_carry h fun k hk => hb.block k (h.lt k hk).2
theorem own_list {w : World} {B : Nat} {e : TypeId} {v : Value} {l : List Nat} (h : w.ownsRow B e 1 v l.length (intsV l)) : ∃ ad cap, v = .slice ad l.length cap ∧ ∀ (j x : Nat), l[j]? = some x → ∃ gl, ad = some ⟨gl, 0, none⟩ ∧ B ≤ gl ∧ gl < w.heap.size ∧ w.cell? ⟨gl, j, none⟩ = some (.int .i64 (x : Int)) := by
  rcases h.2 with ⟨rfl, h0⟩ | ⟨g, cap, cur, rfl, h1, h2, h3, h4, h5, h6⟩
  · exact ⟨none, 0, by rw [h0], fun j x hj => by rw [List.length_eq_zero_iff.1 h0] at hj; simp at hj⟩
  · refine ⟨_, cap, rfl, fun j x hj => ⟨g, rfl, h1, (Array.getElem?_eq_some_iff.1 h2).1, ?_⟩⟩
    have := h.cells (g := g) rfl j (.int .i64 (x : Int)) (by unfold intsV; rw [List.getElem?_map, hj]; rfl)
    rw [Addr.add_lit, Nat.zero_add] at this
    exact this
set_option maxHeartbeats 16000000 in
set_option maxRecDepth 100000 in
theorem RTick_open (w : World) (S : Sn) (r : Rs) (h : RfAt S r w) (hs : S.now < 900000) (h8 : ∀ i, S.T.getD i 0 ≤ 8) (hsp : ∀ a, r.ad = some a → a.spot = none) (hf : S.full = false) (hl : S.lost = false) : Calls Try.prog 22 #[.pointer (some ⟨r.g, 0, none⟩)] w (RTickPost S r w S.tick) := by
  obtain ⟨-, -, c2, c3, -, -, c6, c7⟩ := h.cells
  rw [hl] at c7
  have hle := h.le
  have hone := h.one
  have hb := RBase_calls w S.B r.gi r.cap h.irow (by omega)
  have hbn := of_decide_eq_false (show decide (baseB S.B = S.B.length) = false from hf)
  have hbl := baseB_le S.B
  have f6 : w.frozen? ⟨r.g, 6, none⟩ = false := by simp [World.frozen?, h.row]
  obtain ⟨ab, ao, had⟩ : ∃ ab ao, r.ad = some ⟨ab, ao, none⟩ := by
    obtain ⟨a, ha, -, -⟩ := h.strs 0 _ (List.getElem?_eq_getElem (by rw [h.wf.lc]; omega))
    obtain ⟨b, o, s⟩ := a
    obtain rfl : s = none := hsp _ ha
    exact ⟨b, o, ha⟩
  have hst := duT_step S.step
  have hd0 := duT_base S.step
  have hde := duT_end S.step
  have hdl := duT_len S.step
  have hmf : ∀ j, missF S.step.B (baseB S.step.B : Nat) ((baseB S.step.B : Nat) + 8) j = (decide (((baseB S.B : Nat) : Int) ≤ (j : Int)) && decide ((j : Int) < ((baseB S.B : Nat) : Int) + 8) && !S.B.getD j false) := fun j => rfl
  have hho : ∀ j, S.step.hold j = (decide (0 < S.T.getD j 0) && decide (S.now + 1 < S.A.getD j 0 + 4)) := fun j => rfl
  have hRt : S.step.due.any S.step.tried = true → S.tick = ([], 16, { S.step with lost := true }) := fun h => by
    unfold Sn.tick; rw [if_neg (by rw [hf]; simp), if_neg (by rw [hl]; simp), if_pos h]
  have hRf : S.step.due.any S.step.tried = false → S.tick = (S.step.due, 0, S.step.sentL S.step.due) := fun h => by
    unfold Sn.tick; rw [if_neg (by rw [hf]; simp), if_neg (by rw [hl]; simp), if_neg (by rw [h]; simp)]
  have h1 := h.set_now
  rw [show ((S.now + 1 : Nat) : Int) = (S.now : Int) + 1 by simp] at h1
  have hc1 : Chg r.all w (w.setCell ⟨r.g, 6, none⟩ (.int .i64 ((S.now : Int) + 1))) := Chg.of_upd (upd_set r.g 6 w _) (by simp [Rs.all])
  have hz1 : (w.setCell ⟨r.g, 6, none⟩ (.int .i64 ((S.now : Int) + 1))).heap.size = w.heap.size := by simp [World.setCell]
  have HB := Lib.hid hb; have H1 := Lib.hid h1; have HC1 := Lib.hid hc1; have HZ1 := Lib.hid hz1
  have HST := Lib.hid hst; have HD0 := Lib.hid hd0; have HDE := Lib.hid hde; have HDL := Lib.hid hdl; have HMF := Lib.hid hmf; have HHO := Lib.hid hho; have HRT := Lib.hid hRt; have HRF := Lib.hid hRf; have HAD := Lib.hid had; have HLT := Lib.hid h.lt; have HCLT := Lib.hid h.clt; have HH8 := Lib.hid h8
  have HDUE : Hid (∀ i ∈ S.step.due, i < S.step.B.length) := Lib.hid (Sn.due_lt S.step)
  have HNOD : Hid (S.step.due.Nodup) := Lib.hid (Sn.due_nodup S.step)
  have HWA := Lib.hid h.wf.ale
  clear hb h1 hc1 hz1 hst hd0 hde hdl hmf hho hRt hRf had h h8 hsp hf hl
  rw [show baseB S.step.B = baseB S.B from rfl] at HD0 HDE HST HMF
  rw [show S.step.B.length = S.B.length from rfl] at HDE
  generalize baseB S.B = b at *
  have hnb : ((b : Int) == (S.B.length : Int)) = false := by simp; omega
  have hbn' : b < S.B.length := by omega
  clear hbn
  go_enter Try.func22, Try.ntmps22
  go_wp2_with fail
  refine HB.out.mono ?_
  rintro e w1 ⟨rfl, rfl⟩
  go_wp2_with fail
  clear c2 c3 c6 c7 f6 hnb HB
  generalize w.setCell ⟨r.g, 6, none⟩ (.int .i64 ((S.now : Int) + 1)) = w2 at *
  go_loopw [5, 6] (fun v i wr => ∃ j : Nat, b ≤ j ∧ j ≤ S.B.length ∧ j ≤ b + 8 ∧ i = .int .i64 j ∧ Hid (wr.ownsRow w.heap.size 3 1 v (duT S.step j).length (intsV (duT S.step j))) ∧ Hid (Below w2.heap.size w2 wr)) (fun _ i _ => S.B.length - (intOf i).toNat)
  case atStart => exact ⟨b, by omega, by omega, by omega, rfl, Lib.hid (by rw [HD0.out]; exact World.ownsRow_nil _ _ _ _), Lib.hid (Below.refl _ _)⟩
  case round =>
    obtain ⟨wo, rfl⟩ : ∃ wo : World, wo = wr := ⟨_, rfl⟩
    obtain ⟨j, hbj, hjn, hj8, rfl, hown, hbw⟩ := hrel
    have HR := Lib.hid (H1.out.below hbw.out (Nat.le_refl _))
    obtain ⟨-, -, c2, -⟩ := HR.out.cells
    rw [show S.step.B.length = S.B.length from rfl] at c2
    by_cases hin : j < b + 8 ∧ j < S.B.length
    · obtain ⟨ht8, htn⟩ := hin
      have e1 : decide ((j : Int) < (b : Int) + 8) = true := decide_eq_true (by omega)
      have e1' : (j : Int) < (b : Int) + 8 := by omega
      · have e2 : decide ((j : Int) < (S.B.length : Int)) = true := decide_eq_true (by omega)
        have e2' : (j : Int) < (S.B.length : Int) := by omega
        have k3 := cell_regrown (HR.out.cells.2.2.2.1)
        have k4 := cell_regrown (HR.out.cells.2.2.2.2.1)
        have k5 := cell_regrown (HR.out.cells.2.2.2.2.2.1)
        have k6 := cell_regrown (HR.out.cells.2.2.2.2.2.2.1)
        have ki := cell_regrown (HR.out.icell j htn)
        have kt := cell_regrown (HR.out.tcell j htn)
        have ka := cell_regrown (HR.out.acell j htn)
        have hst := HST.out j
        have hmf := HMF.out j
        have hho := HHO.out j
        have hal := HWA.out j
        have hdl := HDL.out j
        rw [decide_eq_true (show (b : Int) ≤ (j : Int) by omega), e1] at hmf
        rw [show S.step.B.length = S.B.length from rfl] at k3 k4 k5
        rw [show S.step.B = S.B from rfl] at ki
        rw [show S.step.T = S.T from rfl] at kt
        rw [show S.step.A = S.A from rfl] at ka
        rw [show ((S.step.now : Nat) : Int) = ((S.now + 1 : Nat) : Int) from rfl] at k6
        have hsz : w.heap.size ≤ wo.heap.size := by have h1 := hbw.out.size; have h2 := HZ1.out; omega
        have HSZ := Lib.hid hsz
        clear hsz
        generalize S.A.getD j 0 = at0 at *
        generalize S.T.getD j 0 = t0 at *
        have hsub : IntKind.i64.wrap (((S.now + 1 : Nat) : Int) - (at0 : Int)) = ((S.now + 1 : Nat) : Int) - (at0 : Int) := IntWalk.i64_in _ (by omega)
        generalize S.now + 1 = nw at *
        cases hB : S.B.getD j false with
        | true =>
          rw [hB] at ki hmf
          rw [hmf, if_neg (by simp)] at hst
          have Hst := Lib.hid hst
          clear hst hmf hho hB
          go_wp2_with fail
          refine Lib.wp_region_made 33 (fun _ => none) (by kernel_rfl) (by kernel_rfl) Lib.stabP_none ?_
          simp only [List.take_succ_cons, List.take_zero, List.drop_succ_cons, List.drop_zero]
          repeat (refine Lib.wpML_step (by rfl) (fun K hK => ?_); go_simp; (refine hK _ ?_; clear hK K))
          refine Lib.wpML_nil ?_
          intro wz hwz _
          have hb := Lib.Behind.below hwz
          have HO := Lib.hid (own_after hown.out hb); have HBZ := Lib.hid (bn hbw.out hb)
          clear hwz hb k3 k4 k5 k6 ki kt ka c2 hown hbw HR
          go_wp2
          exact ⟨⟨j + 1, by omega, by omega, by omega, by go_num, by rw [Hst.out]; exact HO, HBZ⟩, by simp only [intOf]; omega⟩
        | false =>
          rw [hB] at ki hmf
          rw [hmf] at hst
          by_cases hT : t0 = 0
          · have t1 : ((t0 : Int) == 0) = true := by simp; omega
            rw [hho, decide_eq_false (show ¬ 0 < t0 by omega), if_pos (by simp)] at hst
            have Hst := Lib.hid hst
            clear hst hmf hho hB
            go_wp2_with fail
            refine Lib.wp_region_made 33 (fun _ => none) (by kernel_rfl) (by kernel_rfl) Lib.stabP_none ?_
            simp only [List.take_succ_cons, List.take_zero, List.drop_succ_cons, List.drop_zero]
            repeat (refine Lib.wpML_step (by rfl) (fun K hK => ?_); go_simp; (refine hK _ ?_; clear hK K))
            refine Lib.wpML_nil ?_
            intro wz hwz _
            have hb := Lib.Behind.below hwz
            have HO := Lib.hid (own_after hown.out hb); have HBZ := Lib.hid (bn hbw.out hb)
            have HS2 : Hid (w.heap.size ≤ wz.heap.size) := Lib.hid (Nat.le_trans HSZ.out hb.size)
            clear hwz hb k3 k4 k5 k6 ki kt ka c2 hown hbw HR
            go_wp2_with (with_reducible refine wpList_mark (o := ⟨some 86, _, _, _, _, _⟩) ?_)
            refine Marked.intro ?_
            refine wpList_push rfl _ _ 57 rfl w.heap.size 3 (.int .i64 0) 1 8 Try.underlying57 info_i64 rfl (by omega) wz u5 (duT S.step j).length _ (by rfl) HO.out [.int .i64 (j : Int)] (by rfl) rfl (by simp [Value.oneCell']) (by omega) (by unfold maxLen; omega) HS2.out ?_
            intro o3 w3 hown3 hb3 hsz3
            have HB3 := Lib.hid (HBZ.out.trans (hb3.mono (Nat.le_of_eq HZ1.out)))
            have HO3 : Hid (w3.ownsRow w.heap.size 3 1 o3 (duT S.step (j + 1)).length (intsV (duT S.step (j + 1)))) := Lib.hid (by rw [Hst.out, List.length_append]; unfold intsV at *; rw [List.map_append]; exact hown3)
            clear HO HBZ hown3 hb3
            go_wp2
            exact ⟨⟨j + 1, by omega, by omega, by omega, by go_num, HO3, HB3⟩, by simp only [intOf]; omega⟩
          · have t1 : ((t0 : Int) == 0) = false := by simp; omega
            rw [hho, decide_eq_true (show 0 < t0 by omega)] at hst
            by_cases hA : nw < at0 + 4
            · have a1 : decide (4 ≤ (nw : Int) - (at0 : Int)) = false := decide_eq_false (by omega)
              rw [decide_eq_true hA, if_neg (by simp)] at hst
              have Hst := Lib.hid hst
              clear hst hmf hho hB
              go_wp2_with fail
              refine Lib.wp_region_made 33 (fun _ => none) (by kernel_rfl) (by kernel_rfl) Lib.stabP_none ?_
              simp only [List.take_succ_cons, List.take_zero, List.drop_succ_cons, List.drop_zero]
              repeat (refine Lib.wpML_step (by rfl) (fun K hK => ?_); go_simp; (refine hK _ ?_; clear hK K))
              refine Lib.wpML_nil ?_
              intro wz hwz _
              have hb := Lib.Behind.below hwz
              have HO := Lib.hid (own_after hown.out hb); have HBZ := Lib.hid (bn hbw.out hb)
              clear hwz hb k3 k4 k5 k6 ki kt ka c2 hown hbw HR
              go_wp2
              exact ⟨⟨j + 1, by omega, by omega, by omega, by go_num, by rw [Hst.out]; exact HO, HBZ⟩, by simp only [intOf]; omega⟩
            · have a1 : decide (4 ≤ (nw : Int) - (at0 : Int)) = true := decide_eq_true (by omega)
              rw [decide_eq_false hA, if_pos (by simp)] at hst
              have Hst := Lib.hid hst
              clear hst hmf hho hB
              go_wp2_with fail
              refine Lib.wp_region_made 33 (fun _ => none) (by kernel_rfl) (by kernel_rfl) Lib.stabP_none ?_
              simp only [List.take_succ_cons, List.take_zero, List.drop_succ_cons, List.drop_zero]
              repeat (refine Lib.wpML_step (by rfl) (fun K hK => ?_); go_simp; (refine hK _ ?_; clear hK K))
              refine Lib.wpML_nil ?_
              intro wz hwz _
              have hb := Lib.Behind.below hwz
              have HO := Lib.hid (own_after hown.out hb); have HBZ := Lib.hid (bn hbw.out hb)
              have HS2 : Hid (w.heap.size ≤ wz.heap.size) := Lib.hid (Nat.le_trans HSZ.out hb.size)
              clear hwz hb k3 k4 k5 k6 ki kt ka c2 hown hbw HR
              go_wp2_with (with_reducible refine wpList_mark (o := ⟨some 86, _, _, _, _, _⟩) ?_)
              refine Marked.intro ?_
              refine wpList_push rfl _ _ 57 rfl w.heap.size 3 (.int .i64 0) 1 8 Try.underlying57 info_i64 rfl (by omega) wz u5 (duT S.step j).length _ (by rfl) HO.out [.int .i64 (j : Int)] (by rfl) rfl (by simp [Value.oneCell']) (by omega) (by unfold maxLen; omega) HS2.out ?_
              intro o3 w3 hown3 hb3 hsz3
              have HB3 := Lib.hid (HBZ.out.trans (hb3.mono (Nat.le_of_eq HZ1.out)))
              have HO3 : Hid (w3.ownsRow w.heap.size 3 1 o3 (duT S.step (j + 1)).length (intsV (duT S.step (j + 1)))) := Lib.hid (by rw [Hst.out, List.length_append]; unfold intsV at *; rw [List.map_append]; exact hown3)
              clear HO HBZ hown3 hb3
              go_wp2
              exact ⟨⟨j + 1, by omega, by omega, by omega, by go_num, HO3, HB3⟩, by simp only [intOf]; omega⟩
    · have hdd := HDE.out j (by omega) (by omega)
      go_upto_region 9 with fail
      go_cut [47] from 35 to 86 (fun s47 wx => s47 = .bool false ∧ Hid (wx.ownsRow w.heap.size 3 1 u5 (duT S.step j).length (intsV (duT S.step j))) ∧ Hid (Below w2.heap.size w2 wx))
      case first =>
        by_cases ht8 : j < b + 8
        · have e1 : decide ((j : Int) < (b : Int) + 8) = true := decide_eq_true (by omega)
          have e2 : decide ((j : Int) < (S.B.length : Int)) = false := decide_eq_false (by omega)
          go_wp2_with fail
          go_meet
          exact ⟨by rw [decide_eq_false (show ¬ j < S.B.length by omega)], hown, hbw⟩
        · have e1 : decide ((j : Int) < (b : Int) + 8) = false := decide_eq_false (by omega)
          go_wp2_with fail
          go_meet
          exact ⟨rfl, hown, hbw⟩
      case rest =>
        clear hown hbw HR c2
        obtain ⟨rfl, hown, hbw⟩ := hcut
        rw [hdd] at hown
        obtain ⟨w3, rfl⟩ : ∃ w3 : World, w3 = wc := ⟨_, rfl⟩
        have hdlen := HDL.out j
        rw [hdd] at hdlen
        have H3 := Lib.hid (H1.out.below hbw.out (Nat.le_refl _))
        have HC3 := Lib.hid (HC1.out.trans (Chg.of_below hbw.out))
        have HN3 : Hid (w.heap.size ≤ w3.heap.size) := Lib.hid (by have h1 := hbw.out.size; have h2 := HZ1.out; omega)
        obtain ⟨ad5, cap5, rfl, hlv⟩ := own_list hown.out
        have HLV := Lib.hid hlv
        clear hlv hown hbw hdd HDE HDL HD0 HST HMF HHO HWA
        obtain ⟨D, hD⟩ : ∃ D, S.step.due = D := ⟨_, rfl⟩
        rw [hD] at HLV hdlen HDUE HNOD HRT HRF ⊢
        clear hD
        have hany : ∀ j x, D[j]? = some x → S.step.tried x = true → D.any S.step.tried = true := fun j x hj hx => by
          rw [List.any_eq_true]; exact ⟨x, List.mem_of_getElem? hj, hx⟩
        have hnone : (∀ (j : Nat) x, D[j]? = some x → S.step.tried x = false) → D.any S.step.tried = false := fun hh => by
          rw [List.any_eq_false]
          intro x hx
          obtain ⟨j, hj⟩ := List.getElem?_of_mem hx
          rw [hh j x hj]; simp
        have HANY := Lib.hid hany; have HNONE := Lib.hid hnone
        clear hany hnone
        go_wp2_with fail
        go_loopw [7] (fun s7 wr => ∃ k : Nat, s7 = .int .i64 k ∧ k ≤ D.length ∧ Hid (∀ (j : Nat) x, j < k → D[j]? = some x → S.step.tried x = false) ∧ Hid (Below w3.heap.size w3 wr)) (fun s7 _ => D.length - (intOf s7).toNat)
        case atStart => exact ⟨0, rfl, Nat.zero_le _, Lib.hid (fun j x hj => absurd hj (Nat.not_lt_zero _)), Lib.hid (Below.refl _ _)⟩
        case round =>
          obtain ⟨wo, rfl⟩ : ∃ wo : World, wo = wr := ⟨_, rfl⟩
          obtain ⟨k, rfl, hk, hnt, hbw⟩ := hrel
          have HR := Lib.hid (H3.out.below hbw.out (Nat.le_refl _))
          by_cases hkd : k < D.length
          · have hkI : (k : Int) < (D.length : Int) := by omega
            have hx := List.getElem?_eq_getElem hkd
            obtain ⟨gl, rfl, hgl1, hgl2, hcl⟩ := HLV.out k _ hx
            have hxl := HDUE.out _ (List.getElem_mem hkd)
            have htr : ∀ x, S.step.tried x = decide (8 ≤ S.T.getD x 0) := fun x => rfl
            have HX := Lib.hid hx; clear hx
            generalize D[k]'hkd = x at *
            have kl := cell_regrown ((hbw.out.cell (p := ⟨gl, k, none⟩) hgl2).trans hcl)
            have k4 := cell_regrown (HR.out.cells.2.2.2.2.1)
            have kt := cell_regrown (HR.out.tcell x hxl)
            rw [show S.step.B.length = S.B.length from rfl] at k4 hxl
            rw [show S.step.T = S.T from rfl] at kt
            have hxI : (x : Int) < (S.B.length : Int) := by omega
            have h8 := HH8.out x
            have htx := htr x
            clear htr hcl hgl1 hgl2
            generalize S.T.getD x 0 = tt at *
            have hte : ((tt : Int) == 8) = S.step.tried x := by rw [htx, Bool.eq_iff_iff, beq_iff_eq, decide_eq_true_iff]; omega
            have HLVK := HLV
            clear HLV htx
            cases hb8 : S.step.tried x with
            | true =>
              rw [hb8] at hte
              have HRS := Lib.hid (HRT.out (HANY.out k x HX.out hb8))
              clear hb8
              go_wp2_with fail
              refine Lib.wp_region_made 11 (fun _ => none) (by kernel_rfl) (by kernel_rfl) Lib.stabP_none ?_
              simp only [List.take_succ_cons, List.take_zero, List.drop_succ_cons, List.drop_zero]
              repeat (refine Lib.wpML_step (by rfl) (fun K hK => ?_); go_simp; (refine hK _ ?_; clear hK K))
              refine Lib.wpML_nil ?_
              intro wz hwz _
              have hb := Lib.Behind.below hwz
              have H4 := Lib.hid (HR.out.below hb (Nat.le_refl _))
              have hc4 := HC3.out.trans ((Chg.of_below hbw.out).trans (Chg.of_below hb))
              have f7 : wz.frozen? ⟨r.g, 7, none⟩ = false := by simp [World.frozen?, H4.out.row]
              have c7 := H4.out.cells.2.2.2.2.2.2.2
              have H5 := Lib.hid H4.out.set_lost
              have HC5 := Lib.hid (hc4.trans (Chg.of_upd (upd_set r.g 7 wz (.bool true)) (by simp [Rs.all])))
              clear hwz hb hc4 kl k4 kt H4 HR hbw
              go_wp2
              go_ret2
              rw [HRS.out]
              exact ⟨_, rfl, H5.out, FrV.nil _ _ _, HC5.out⟩
            | false =>
              rw [hb8] at hte
              have HB8 := Lib.hid hb8
              clear hb8
              go_wp2_with fail
              refine Lib.wp_region_made 11 (fun _ => none) (by kernel_rfl) (by kernel_rfl) Lib.stabP_none ?_
              simp only [List.take_succ_cons, List.take_zero, List.drop_succ_cons, List.drop_zero]
              repeat (refine Lib.wpML_step (by rfl) (fun K hK => ?_); go_simp; (refine hK _ ?_; clear hK K))
              refine Lib.wpML_nil ?_
              intro wz hwz _
              have HBZ := Lib.hid (bn hbw.out (Lib.Behind.below hwz))
              clear hwz kl k4 kt HR hbw
              go_wp2
              exact ⟨⟨k + 1, by go_num, by omega, Lib.hid (fun j2 x2 h1 h2 => by
                by_cases e : j2 = k
                · subst e
                  rw [HX.out] at h2
                  obtain rfl := Option.some.inj h2
                  exact HB8.out
                · exact hnt.out j2 x2 (by omega) h2), HBZ⟩, by simp only [intOf]; omega⟩
          · obtain rfl : k = D.length := by omega
            have hfin := HNONE.out (fun j x hj => hnt.out j x (List.getElem?_eq_some_iff.1 hj).1 hj)
            have HRS := Lib.hid (HRF.out hfin)
            have hnt8 : ∀ i ∈ D, S.T.getD i 0 < 8 := fun i hi => by
              rw [List.any_eq_false] at hfin
              have := hfin i hi
              unfold Sn.tried at this
              simpa [Sn.step] using this
            have HNT := Lib.hid hnt8
            clear hfin hnt8 hnt
            obtain ⟨w5, rfl⟩ : ∃ w5 : World, w5 = wo := ⟨_, rfl⟩
            have HLV5 : Hid (∀ (j x : Nat), D[j]? = some x → ∃ gl, ad5 = some ⟨gl, 0, none⟩ ∧ w.heap.size ≤ gl ∧ gl < w5.heap.size ∧ w5.cell? ⟨gl, j, none⟩ = some (.int .i64 (x : Int))) := Lib.hid (fun j x hj => by
              obtain ⟨gl, h1, h2, h3, h4⟩ := HLV.out j x hj
              exact ⟨gl, h1, h2, Nat.lt_of_lt_of_le h3 hbw.out.size, (hbw.out.cell (p := ⟨gl, j, none⟩) h3).trans h4⟩)
            have HC5 := Lib.hid (HC3.out.trans (Chg.of_below hbw.out))
            have HN5 : Hid (w.heap.size ≤ w5.heap.size) := Lib.hid (Nat.le_trans HN3.out hbw.out.size)
            clear HLV HC3 hbw HRT HRF HANY HNONE HN3 H3
            obtain ⟨i0, hi0, hz0, hz1, hz2⟩ := info_parts info_frame
            have hle1 : S.step.B.length ≤ 256 := hle
            obtain ⟨S1, hS1⟩ : ∃ S1, S.step = S1 := ⟨_, rfl⟩
            have hnt1 : ∀ i ∈ D, S1.T.getD i 0 < 8 := by rw [← hS1]; exact HNT.out
            have hfv : ∀ l v N w, FrV S1 l v N w → FrV S l v N w := by rw [← hS1]; exact fun _ _ _ _ h => h
            rw [hS1] at HR HDUE hle1 HRS
            have HNT1 := Lib.hid hnt1; have HFV := Lib.hid hfv
            clear hnt1 hfv hS1 HNT HH8 H1 HC1
            go_wp2_with fail
            go_loopw [8, 9] (fun s8 s9 wr => ∃ (j : Nat) (vv : Value), vv = s8 ∧ j ≤ D.length ∧ s9 = .int .i64 j ∧ Hid (RfAt (S1.sentL (D.take j)) r wr) ∧ Hid (wr.ownsRow w5.heap.size 31 6 vv j (frL S1 (D.take j))) ∧ Hid (Chg r.all w5 wr)) (fun _ s9 _ => D.length - (intOf s9).toNat)
            case atStart => exact ⟨0, _, rfl, by omega, rfl, HR, Lib.hid (World.ownsRow_nil _ _ _ _), Lib.hid (Chg.refl _ _)⟩
            case round =>
              clear HR
              obtain ⟨wo, rfl⟩ : ∃ wo : World, wo = wr := ⟨_, rfl⟩
              obtain ⟨j, vv, hvv, hj, rfl, hr, how, hc⟩ := hrel
              subst hvv
              by_cases hlt : j < D.length
              · have hx := List.getElem?_eq_getElem hlt
                obtain ⟨gl, rfl, hgl1, hgl2, hcl⟩ := HLV5.out j D[j] hx
                have hmem := List.getElem_mem hlt
                have hi := HDUE.out D[j] hmem
                have ht8 := HNT1.out D[j] hmem
                have htk : D.take (j + 1) = D.take j ++ [D[j]] := by rw [List.take_succ_eq_append_getElem hlt]
                have hnin : D[j] ∉ D.take j := not_in_take' D j hlt HNOD.out
                have hT := (Sn.sentL_T (D.take j) D[j] S1 hnin).1
                obtain ⟨e1, e2, e3, e4, e5, e6, -, -⟩ := Sn.sentL_same (D.take j) S1
                rw [← hT] at ht8
                have hsn := Sn.sentL_snoc S1 (D.take j) D[j]
                rw [← htk] at hsn
                have hfs := frL_snoc S1 (D.take j) D[j]
                rw [← htk] at hfs
                have HSN := Lib.hid hsn; have HFS := Lib.hid hfs
                clear HLV5 HDUE HNT1 hmem hT hnin htk hx hsn hfs
                generalize D[j] = i at *
                have hglN : gl ∉ r.all := fun hk => by have := HLT.out gl hk; omega
                have d0 : wo.cell? ⟨gl, j, none⟩ = some (.int .i64 (i : Int)) := (World.cell?_of_block (hc.out.other gl hgl2 hglN)).trans hcl
                have hown0 : ∀ k, vv.ownBlock = some k → w5.heap.size ≤ k ∧ k < wo.heap.size := fun k hk => ⟨(how.out.lt k hk).1, (how.out.lt k hk).2⟩
                have HOWN0 := Lib.hid hown0; clear hown0
                have E1 := Lib.hid e1; have E2 := Lib.hid e2; have E3 := Lib.hid e3; have E4 := Lib.hid e4; have E5 := Lib.hid e5
                clear e1 e2 e3 e4 e5 e6 hcl hglN hgl1 hgl2
                generalize S1.sentL (D.take j) = Sj at *
                have hij : i < Sj.B.length := by rw [E4.out]; exact hi
                obtain ⟨-, -, -, -, c4, -⟩ := hr.out.cells
                have t0 := hr.out.tcell i hij
                have ft : wo.frozen? ⟨r.gt, i, none⟩ = false := by simp [World.frozen?, hr.out.trow]
                have hsent : Sj.sent1 i = { Sj with T := Sj.T.set i (Sj.T.getD i 0 + 1), A := Sj.A.set i Sj.now } := rfl
                have HSENT := Lib.hid hsent; clear hsent
                generalize Sj.T.getD i 0 = tt at *
                have h6 := hr.out.set_try i (tt + 1)
                rw [show ((tt + 1 : Nat) : Int) = (tt : Int) + 1 from by simp] at h6
                have hc6 := hc.out.trans (Chg.of_upd (upd_set r.gt i wo (.int .i64 ((tt : Int) + 1))) (by simp [Rs.all]))
                have how6 : (wo.setCell ⟨r.gt, i, none⟩ (.int .i64 ((tt : Int) + 1))).ownsRow w5.heap.size 31 6 vv j (frL S1 (D.take j)) := ownsRow_carry how.out fun k hk => (upd_set r.gt i wo _).other k fun e => by
                  have h1 := (HOWN0.out k hk).1
                  have h2 := HLT.out r.gt (by simp [Rs.all])
                  have h3 := HN5.out
                  omega
                have hsz6 : wo.heap.size = (wo.setCell ⟨r.gt, i, none⟩ (.int .i64 ((tt : Int) + 1))).heap.size := by simp [World.setCell]
                have H6 := Lib.hid h6; have HC6 := Lib.hid hc6; have HOW6 := Lib.hid how6; have HSZ6 := Lib.hid hsz6
                clear h6 hc6 how6 hsz6 hr how hc
                have hii : (i : Int) < (Sj.B.length : Int) := by omega
                have hi0' : (0 : Int) ≤ (i : Int) := by omega
                have hjj : (j : Int) < (D.length : Int) := by omega
                have ht8' : (tt : Int) < 8 := by omega
                go_wp2_with fail
                clear t0 c4 ft d0
                generalize hw6 : wo.setCell ⟨r.gt, i, none⟩ (.int .i64 ((tt : Int) + 1)) = w6 at *
                clear hw6
                obtain ⟨-, -, -, -, -, c5, c6, -⟩ := H6.out.cells
                have a0 := H6.out.acell i hij
                have fa : w6.frozen? ⟨r.ga, i, none⟩ = false := by simp [World.frozen?, H6.out.arow]
                simp only at c5 c6 a0
                have h7 : RfAt { Sj with T := Sj.T.set i (tt + 1), A := Sj.A.set i Sj.now } r (w6.setCell ⟨r.ga, i, none⟩ (.int .i64 (Sj.now : Int))).drew := (H6.out.set_at i).drew
                rw [← HSENT.out] at h7
                have hc7 : Chg r.all w5 (w6.setCell ⟨r.ga, i, none⟩ (.int .i64 (Sj.now : Int))).drew := (HC6.out.trans (Chg.of_upd (upd_set r.ga i w6 (.int .i64 (Sj.now : Int))) (by simp [Rs.all]))).trans (Chg.of_upd (upd_drewN r.ga 1 _) (by simp [Rs.all]))
                have how7 : (w6.setCell ⟨r.ga, i, none⟩ (.int .i64 (Sj.now : Int))).drew.ownsRow w5.heap.size 31 6 vv j (frL S1 (D.take j)) := ownsRow_carry HOW6.out fun k hk => (upd_set r.ga i w6 _).other k fun e => by
                  have h1 := (HOWN0.out k hk).1
                  have h2 := HLT.out r.ga (by simp [Rs.all])
                  have h3 := HN5.out
                  omega
                have hsz7 : w6.heap.size = (w6.setCell ⟨r.ga, i, none⟩ (.int .i64 (Sj.now : Int))).drew.heap.size := by simp [World.setCell]
                have H7 := Lib.hid h7; have HC7 := Lib.hid hc7; have HOW7 := Lib.hid how7; have HSZ7 := Lib.hid hsz7
                clear h7 hc7 how7 hsz7
                go_region
                clear c5 c6 a0 fa
                generalize hw7 : (w6.setCell ⟨r.ga, i, none⟩ (.int .i64 (Sj.now : Int))).drew = w7 at *
                clear hw7
                obtain ⟨c1, c2, c3, -⟩ := H7.out.cells
                have hs1 : (Sj.sent1 i).ses = S1.ses := E1.out
                have hs2 : (Sj.sent1 i).ep = S1.ep := E2.out
                have hs3 : (Sj.sent1 i).B = S1.B := E4.out
                have hs4 : (Sj.sent1 i).C = S1.C := E3.out
                have cc := H7.out.ccell HAD.out i (by rw [hs3]; exact hi)
                rw [hs1] at c1; rw [hs2] at c2; rw [hs3, HAD.out] at c3; rw [hs4] at cc
                clear hs1 hs2 hs3 hs4 hii hij E1 E2 E3 E4 E5 HSENT H6 HC6 HOW6
                have hii : (i : Int) < (S1.B.length : Int) := by omega
                have hwl : w5.heap.size ≤ w7.heap.size := HC7.out.size
                have hfc : frC S1 i = [.int .i64 1, .int .i64 S1.ses, .int .i64 S1.ep, .int .i64 (i : Int), .int .i64 (S1.B.length : Nat), .string (S1.C.getD i ⟨#[]⟩)] := rfl
                have HFC := Lib.hid hfc; clear hfc
                generalize S1.C.getD i ⟨#[]⟩ = ci at *
                go_wp2_with fail
                have a2 := fun o => cell_later_alloc c1 o
                have a3 := fun o => cell_later_alloc c2 o
                have a4 := fun o => cell_later_alloc c3 o
                have a5 := fun o => cell_later_alloc cc o
                refine Lib.wp_region_make_tail 23 24 (w7.drew.alloc (.cells #[.int .i64 1, .int .i64 S1.ses, .int .i64 S1.ep, .int .i64 (i : Int), .int .i64 (S1.B.length : Nat), .string ci] 31)) (by kernel_rfl) (by omega) (by kernel_rfl) ?_
                simp only [List.take_succ_cons, List.take_zero, List.drop_succ_cons, List.drop_zero]
                iterate 23 (refine Lib.wpYL_step (by decide) (fun K hK => ?_); go_simp; refine hK _ ?_; clear hK K)
                refine Lib.wpYL_make (v := .slice (some ⟨w7.heap.size, 0, none⟩) 1 1) rfl rfl (by go_simp) ?_
                refine Lib.wpYL_nil ?_
                refine wpList_append_lies _ rfl _ _ _ (by rfl) w5.heap.size 31 i0 _ 6 56 Try.underlying23 hi0 hz0 hz1 hz2 rfl (by omega) vv j (frL S1 (D.take j)) (by rfl) (World.ownsRow.alloc (w := w7.drew) HOW7.out _) ⟨w7.heap.size, 0, none⟩ 1 1 (frC S1 i) (by rfl) (by rfl) (by
                    rw [HFC.out]
                    exact World.news_of_block (cs := #[.int .i64 1, .int .i64 S1.ses, .int .i64 S1.ep, .int .i64 (i : Int), .int .i64 (S1.B.length : Nat), .string ci]) (t := 31) (fr := (0, 0)) (heap_alloc_new w7.drew _)) (by rw [HFC.out]; simp [Value.oneCell']) (by omega) (by unfold maxLen; omega) (by omega) (by simp; omega) (w7.heap.size + 1) (by simp) ?_
                intro g cap2 w8 hown8 hgrow8 hat8 hg8
                clear a2 a3 a4 a5 c1 c2 c3 cc
                have hs8 : w7.heap.size + 1 ≤ w8.heap.size := by have := hgrow8.size; simpa using this
                have hkeep8 : ∀ k, k < w7.heap.size → some k ≠ vv.ownBlock → w8.heap[k]? = w7.heap[k]? := fun k hk hne => by
                  rw [hgrow8.block k (by simp; omega) hne, Below.heap_alloc w7.drew _ k hk]; rfl
                have hww : w.heap.size ≤ w5.heap.size := HN5.out
                have h8 : RfAt (Sj.sent1 i) r w8 := H7.out.keep (fun k hk => hkeep8 k (H7.out.lt k hk) fun e => by
                  have h1 := (HOWN0.out k e.symm).1
                  have h2 := HLT.out k hk
                  omega) (fun a ha => hkeep8 _ (H7.out.clt a ha) fun e => by
                  have h1 := (HOWN0.out _ e.symm).1
                  have h2 := HCLT.out a ha
                  omega)
                have hc8 : Chg r.all w5 w8 := ⟨hgrow8.os.trans HC7.out.os, hgrow8.tape.trans HC7.out.tape, hgrow8.output.trans HC7.out.output, by omega, fun k hk hk2 => (hkeep8 k (by omega) fun e => by
                  have h1 := (HOWN0.out k e.symm).1
                  omega).trans (HC7.out.other k hk hk2)⟩
                rw [← HSN.out] at h8
                rw [← HFS.out] at hown8
                have H8 := Lib.hid h8; have HC8 := Lib.hid hc8; have HOW8 := Lib.hid hown8
                clear h8 hc8 hown8 hgrow8 hat8 hg8 hkeep8 HOW7 H7 HC7
                go_wp2
                exact ⟨⟨j + 1, _, rfl, by omega, by go_num, H8, HOW8, HC8⟩, by simp only [intOf]; omega⟩
              · obtain rfl : j = D.length := by omega
                rw [List.take_length] at hr how
                go_wp2
                go_ret2
                rw [HRS.out]
                exact ⟨_, rfl, hr.out, HFV.out _ _ _ _ ((FrV.of_row how.out).mono HN5.out), HC5.out.trans hc.out⟩
theorem RTick_calls (w : World) (S : Sn) (r : Rs) (h : RfAt S r w) (hs : S.now < 900000) (h8 : ∀ i, S.T.getD i 0 ≤ 8) (hsp : ∀ a, r.ad = some a → a.spot = none) : Calls Try.prog 22 #[.pointer (some ⟨r.g, 0, none⟩)] w (RTickPost S r w S.tick) := by
  cases hf : S.full with
  | true =>
    have : S.tick = ([], 15, S) := by unfold Sn.tick; rw [if_pos hf]
    rw [this]; exact RTick_full w S r h hf
  | false =>
    cases hl : S.lost with
    | true =>
      have : S.tick = ([], 16, S) := by unfold Sn.tick; rw [if_neg (by rw [hf]; simp), if_pos hl]
      rw [this]; exact RTick_lost w S r h hf hl
    | false => exact RTick_open w S r h hs h8 hsp hf hl
/-- Nothing is tried more than eight times. -/
theorem tick_eight (S : Sn) (hw : S.wf) (h8 : ∀ i, S.T.getD i 0 ≤ 8) : ∀ i, S.tick.2.2.T.getD i 0 ≤ 8 := fun i => by
  unfold Sn.tick
  split
  · exact h8 i
  · split
    · exact h8 i
    · split
      · exact h8 i
      · rename_i h1 h2 h3
        show (S.step.sentL S.step.due).T.getD i 0 ≤ 8
        by_cases hi : i ∈ S.step.due
        · have hlt := Sn.due_lt S.step i hi
          have hwf := hw.step
          rw [(Sn.sentL_in S.step.due i S.step (Sn.due_nodup S.step) hi (by rw [hwf.lt]; exact hlt) (by rw [hwf.la]; exact hlt)).1]
          have h4 : S.step.due.any S.step.tried = false := by simpa using h3
          rw [List.any_eq_false] at h4
          have := h4 i hi
          unfold Sn.tried at this
          simp only [decide_eq_true_eq] at this
          omega
        · rw [(Sn.sentL_T S.step.due i S.step hi).1]
          exact h8 i
end Go.Proofs.Ytcmgmdgeimmbeaa
