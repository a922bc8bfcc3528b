/- The walks of the reference's SameFrames, and of its sender's Ack. (Printed by wip/print/senref2.py.) -/
import Derived.Test.YtcmgmdgeimmbeaaSenRef
import Derived.Deep.RegionLaw
namespace Go.Proofs.Ytcmgmdgeimmbeaa
open Go.RowKit Go.Sort
set_option linter.unusedVariables false
set_option linter.unusedSimpArgs false
set_option maxRecDepth 100000 in
set_option maxHeartbeats 4000000 in
theorem SameFrames_calls (w : World) (S : Sn) (l : List Nat) (v1 v2 : Value) (N1 N2 : Nat) (h1 : FrV S l v1 N1 w) (h2 : FrV S l v2 N2 w) (hl : l.length ≤ 1000) : Calls Try.prog 23 #[v1, v2] w fun e w' => e = .returned (.bool true) ∧ Below w.heap.size w w' := by
  obtain ⟨ad1, cap1, rfl, q1⟩ := h1
  obtain ⟨ad2, cap2, rfl, q2⟩ := h2
  have hne : ∀ j, j < l.length → l ≠ [] := fun j hj h => by rw [h] at hj; simp at hj
  have hge : ∀ j, j < l.length → ∃ i, l[j]? = some i := fun j hj => ⟨_, List.getElem?_eq_getElem hj⟩
  have HQ1 := Lib.hid q1; have HQ2 := Lib.hid q2; have HNE := Lib.hid hne; have HGE := Lib.hid hge
  clear q1 q2 hne hge
  obtain ⟨N, hN⟩ : ∃ N : Nat, l.length = N := ⟨_, rfl⟩
  rw [hN] at hl HNE HGE ⊢
  clear hN
  go_enter Try.func23, Try.ntmps23
  go_wp2
  go_loopw [5] (fun i wr => ∃ (j : Nat), j ≤ N ∧ i = .int .i64 j ∧ Hid (Below w.heap.size w wr)) (fun i _ => N - (intOf i).toNat)
  case atStart => exact ⟨0, by omega, rfl, Lib.hid (Below.refl _ _)⟩
  case round =>
    obtain ⟨wo, rfl⟩ : ∃ wo : World, wo = wr := ⟨_, rfl⟩
    obtain ⟨j, hj, rfl, hb⟩ := hrel
    by_cases hlt : j < N
    · have hjN : (j : Int) < (N : Int) := by omega
      obtain ⟨g1, rfl, -, r1, r2⟩ := HQ1.out (HNE.out j hlt)
      obtain ⟨g2, rfl, -, s1, s2⟩ := HQ2.out (HNE.out j hlt)
      obtain ⟨x, hx⟩ := HGE.out j hlt
      have kk1 := fun q (hq : q < 6) => cell_regrown ((hb.out.cell (p := ⟨g1, j * 6 + q, none⟩) r1).trans ((r2 j x q hx hq).trans (List.getElem?_eq_getElem (l := frC S x) (i := q) hq)))
      have kk2 := fun q (hq : q < 6) => cell_regrown ((hb.out.cell (p := ⟨g2, j * 6 + q, none⟩) s1).trans ((s2 j x q hx hq).trans (List.getElem?_eq_getElem (l := frC S x) (i := q) hq)))
      have a0 := kk1 0 (by omega); have a1 := kk1 1 (by omega); have a2 := kk1 2 (by omega); have a3 := kk1 3 (by omega); have a4 := kk1 4 (by omega); have a5 := kk1 5 (by omega)
      have b0 := kk2 0 (by omega); have b1 := kk2 1 (by omega); have b2 := kk2 2 (by omega); have b3 := kk2 3 (by omega); have b4 := kk2 4 (by omega); have b5 := kk2 5 (by omega)
      simp only [frC, List.getElem_cons_zero, List.getElem_cons_succ, Nat.add_zero] at a0 a1 a2 a3 a4 a5 b0 b1 b2 b3 b4 b5
      clear kk1 kk2 r1 r2 s1 s2 hx HQ1 HQ2
      generalize S.C.getD x ⟨#[]⟩ = c at *
      generalize S.ses = ss at *
      generalize S.ep = ep at *
      generalize S.B.length = m at *
      go_wp2_with fail
      refine Lib.wp_region_made 9 (fun _ => none) (by kernel_rfl) (by kernel_rfl) Lib.stabP_none ?_
      simp only [List.take_succ_cons, List.take_zero, List.drop_succ_cons, List.drop_zero]
      repeat (refine Lib.wpML_step (by rfl) (fun K hK => ?_); go_simp; (refine hK _ ?_; clear hK K))
      refine Lib.wpML_nil ?_
      intro w2 hw2 _
      have HB2 := Lib.hid (bn hb.out (Lib.Behind.below hw2))
      clear hw2 hb a0 a1 a2 a3 a4 a5 b0 b1 b2 b3 b4 b5
      go_wp2
      exact ⟨⟨j + 1, by omega, by go_num, HB2⟩, by simp only [intOf]; omega⟩
    · obtain rfl : j = N := by omega
      go_wp2
      go_ret
      exact ⟨rfl, hb.out⟩
theorem fr_cells {w : World} {b : Nat} {k s e i t : Int} {d : ByteArray} (h : w.heap[b]? = some (.cells #[.int .i64 k, .int .i64 s, .int .i64 e, .int .i64 i, .int .i64 t, .string d] 31 (0, 0))) :
    w.cell? ⟨b, 0, none⟩ = some (.int .i64 k) ∧ w.cell? ⟨b, 1, none⟩ = some (.int .i64 s) ∧ w.cell? ⟨b, 2, none⟩ = some (.int .i64 e) ∧ w.cell? ⟨b, 3, none⟩ = some (.int .i64 i) ∧ w.cell? ⟨b, 4, none⟩ = some (.int .i64 t) ∧ w.cell? ⟨b, 5, none⟩ = some (.string d) := by
  refine ⟨?_, ?_, ?_, ?_, ?_, ?_⟩ <;> rw [cell_of_row _ _ _ _ _ _ h] <;> rfl
/-- Other chunks are there: another row. -/
theorem RfAt.turn {S : Sn} {r : Rs} {w : World} {B : List Bool} {g2 cap2 : Nat} (h : RfAt S r w) (hr : BRow B g2 cap2 w) (hl : B.length = S.B.length) (hg : g2 ∉ r.all) (hc : ∀ a, r.ad = some a → a.block ≠ g2) :
    RfAt { S with B := B } { r with gi := g2, cap := cap2 } (w.setCell ⟨r.g, 3, none⟩ (.slice (some ⟨g2, 0, none⟩) S.B.length cap2)) := by
  have hne := h.ne
  simp only [Rs.all, List.nodup_cons, List.mem_cons, List.not_mem_nil, or_false, not_or, List.nodup_nil, and_true, not_false_eq_true] at hne hg
  obtain ⟨⟨n1, n2, n3⟩, ⟨n4, n5⟩, n6⟩ := hne
  obtain ⟨m1, m2, m3, m4⟩ := hg
  have ot := fun k (hk : k ≠ r.g) => Below.heap_setCell w ⟨r.g, 3, none⟩ (.slice (some ⟨g2, 0, none⟩) S.B.length cap2) k hk
  refine ⟨?_, hr.keep (ot _ m1), (ot _ (Ne.symm n2)).trans h.trow, (ot _ (Ne.symm n3)).trans h.arow, h.strs.keep (fun a ha => ot _ (h.cn _ (by simp [Rs.all]) a ha)), ⟨h.wf.lc.trans hl.symm, h.wf.lt.trans hl.symm, h.wf.la.trans hl.symm, h.wf.ale⟩, by rw [show ({ S with B := B } : Sn).B = B from rfl, hl]; exact h.one, by rw [show ({ S with B := B } : Sn).B = B from rfl, hl]; exact h.le, ?_, ?_⟩
  · rw [row_setCell w r.g 3 _ _ _ _ h.row]
    simp [rfRow, hl]
  · simp only [Rs.all, List.nodup_cons, List.mem_cons, List.not_mem_nil, or_false, not_or, List.nodup_nil, and_true, not_false_eq_true]
    exact ⟨⟨Ne.symm m1, n2, n3⟩, ⟨m3, m4⟩, n6⟩
  · intro k hk a ha
    simp only [Rs.all, List.mem_cons, List.not_mem_nil, or_false] at hk
    rcases hk with rfl | rfl | rfl | rfl
    · exact h.cn _ (by simp [Rs.all]) a ha
    · exact hc a ha
    · exact h.cn _ (by simp [Rs.all]) a ha
    · exact h.cn _ (by simp [Rs.all]) a ha
def RAckPost (S : Sn) (r : Rs) (w : World) (q : Nat × Sn) (x : Ending) (w' : World) : Prop := ∃ r' : Rs, x = .returned (.int .i64 (q.1 : Nat)) ∧ RfAt q.2 r' w' ∧ Chg r.all w w' ∧ r'.g = r.g ∧ r'.ad = r.ad ∧ ∀ k ∈ r'.all, k ∈ r.all ∨ w.heap.size ≤ k
set_option maxHeartbeats 8000000 in
set_option maxRecDepth 100000 in
theorem RAck_calls (w : World) (S : Sn) (r : Rs) (k s e i t : Int) (d : ByteArray) (h : RfAt S r w) (hd : d.size ≤ 140737488351232) :
    Calls Try.prog 24 #[.pointer (some ⟨r.g, 0, none⟩), .agg #[.int .i64 k, .int .i64 s, .int .i64 e, .int .i64 i, .int .i64 t, .string d]] w (RAckPost S r w (S.ack k s e i t d)) := by
  have hbw := (Below.refl w.heap.size w).alloc (Nat.le_refl _) (.cells #[.int .i64 k, .int .i64 s, .int .i64 e, .int .i64 i, .int .i64 t, .string d] 31)
  have h1 := h.below hbw (Nat.le_refl _)
  have hR := heap_alloc_new w (.cells #[.int .i64 k, .int .i64 s, .int .i64 e, .int .i64 i, .int .i64 t, .string d] 31)
  have hle := h.le
  have hone := h.one
  obtain ⟨R, hR2⟩ : ∃ R, S.ack k s e i t d = R := ⟨_, rfl⟩
  rw [hR2]
  unfold Sn.ack at hR2
  have H1 := Lib.hid h1; have HB := Lib.hid hbw; have HP := Lib.hid hR; have HR := Lib.hid hR2; have HLT := Lib.hid h.lt; have HCN := Lib.hid h.clt
  clear h1 hbw hR hR2 h
  by_cases hk : k = 2
  · subst hk
    have hrr := HR.out
    rw [if_neg (by simp)] at hrr
    by_cases hs : s = S.ses
    · rw [if_neg (by simp [hs])] at hrr
      have hsb : (s != S.ses) = false := by simp [hs]
      by_cases he : e = S.ep
      · rw [if_neg (by simp [he])] at hrr
        have heb : (e != S.ep) = false := by simp [he]
        by_cases ht : t = (S.B.length : Nat)
        · have htb : (t != (S.B.length : Int)) = false := by simp [ht]
          by_cases hi : i < 0
          · rw [if_pos (Or.inr (Or.inl hi))] at hrr
            have hib : decide (i < 0) = true := by simpa using hi
            have HRR := Lib.hid hrr; clear hrr HR hs he ht hi
            go_enter Try.func24, Try.ntmps24
            go_wp2_with (with_reducible refine wpList_mark (o := ⟨some 5, _, _, _, _, _⟩) ?_)
            generalize w.alloc (.cells #[.int .i64 2, .int .i64 s, .int .i64 e, .int .i64 i, .int .i64 t, .string d] 31) = w1 at *
            refine Marked.intro ?_
            have p0 := (fr_cells HP.out).1
            go_wp2_with fail
            clear p0
            have y0 := cell_regrown ((fr_cells HP.out).2.1)
            have y1 := cell_regrown (H1.out.cells.1)
            refine Lib.wp_region_made 7 (fun _ => none) (by kernel_rfl) (by kernel_rfl) Lib.stabP_none ?_
            simp only [List.take_succ_cons, List.take_zero, List.drop_succ_cons, List.drop_zero]
            repeat (refine Lib.wpML_step (by rfl) (fun K hK => ?_); go_simp; (refine hK _ ?_; clear hK K))
            refine Lib.wpML_nil ?_
            intro wz hwz _
            have hb := Lib.Behind.below hwz
            have H1' := Lib.hid (H1.out.below hb (Nat.le_refl _)); have HP' := Lib.hid ((hb.block w.heap.size (Array.getElem?_eq_some_iff.1 HP.out).1).trans HP.out); have HB' := Lib.hid (bn HB.out hb)
            clear H1 HP HB hwz hb y0 y1; have H1 := H1'; have HP := HP'; have HB := HB'; clear H1' HP' HB'
            go_wp2_with fail
            have y0 := cell_regrown ((fr_cells HP.out).2.2.1)
            have y1 := cell_regrown (H1.out.cells.2.1)
            refine Lib.wp_region_made 7 (fun _ => none) (by kernel_rfl) (by kernel_rfl) Lib.stabP_none ?_
            simp only [List.take_succ_cons, List.take_zero, List.drop_succ_cons, List.drop_zero]
            repeat (refine Lib.wpML_step (by rfl) (fun K hK => ?_); go_simp; (refine hK _ ?_; clear hK K))
            refine Lib.wpML_nil ?_
            intro wz hwz _
            have hb := Lib.Behind.below hwz
            have H1' := Lib.hid (H1.out.below hb (Nat.le_refl _)); have HP' := Lib.hid ((hb.block w.heap.size (Array.getElem?_eq_some_iff.1 HP.out).1).trans HP.out); have HB' := Lib.hid (bn HB.out hb)
            clear H1 HP HB hwz hb y0 y1; have H1 := H1'; have HP := HP'; have HB := HB'; clear H1' HP' HB'
            go_wp2_with fail
            have y0 := cell_regrown ((fr_cells HP.out).2.2.2.1)
            have y1 := cell_regrown ((fr_cells HP.out).2.2.2.2.1)
            have y2 := cell_regrown (H1.out.cells.2.2.1)
            refine Lib.wp_region_made 20 (fun _ => none) (by kernel_rfl) (by kernel_rfl) Lib.stabP_none ?_
            simp only [List.take_succ_cons, List.take_zero, List.drop_succ_cons, List.drop_zero]
            repeat (refine Lib.wpML_step (by rfl) (fun K hK => ?_); go_simp; (refine hK _ ?_; clear hK K))
            refine Lib.wpML_nil ?_
            intro wz hwz _
            have hb := Lib.Behind.below hwz
            have H1' := Lib.hid (H1.out.below hb (Nat.le_refl _)); have HP' := Lib.hid ((hb.block w.heap.size (Array.getElem?_eq_some_iff.1 HP.out).1).trans HP.out); have HB' := Lib.hid (bn HB.out hb)
            clear H1 HP HB hwz hb y0 y1 y2; have H1 := H1'; have HP := HP'; have HB := HB'; clear H1' HP' HB'
            go_wp2
            go_ret
            rw [← HRR.out]
            exact ⟨r, rfl, H1.out, Chg.of_below HB.out, rfl, rfl, fun k hk => .inl hk⟩

          · have hib : decide (i < 0) = false := by simpa using hi
            by_cases hti : t < i
            · rw [if_pos (Or.inr (Or.inr hti))] at hrr
              have htib : decide (t < i) = true := by simpa using hti
              have HRR := Lib.hid hrr; clear hrr HR hs he ht hi hti
              go_enter Try.func24, Try.ntmps24
              go_wp2_with (with_reducible refine wpList_mark (o := ⟨some 5, _, _, _, _, _⟩) ?_)
              generalize w.alloc (.cells #[.int .i64 2, .int .i64 s, .int .i64 e, .int .i64 i, .int .i64 t, .string d] 31) = w1 at *
              refine Marked.intro ?_
              have p0 := (fr_cells HP.out).1
              go_wp2_with fail
              clear p0
              have y0 := cell_regrown ((fr_cells HP.out).2.1)
              have y1 := cell_regrown (H1.out.cells.1)
              refine Lib.wp_region_made 7 (fun _ => none) (by kernel_rfl) (by kernel_rfl) Lib.stabP_none ?_
              simp only [List.take_succ_cons, List.take_zero, List.drop_succ_cons, List.drop_zero]
              repeat (refine Lib.wpML_step (by rfl) (fun K hK => ?_); go_simp; (refine hK _ ?_; clear hK K))
              refine Lib.wpML_nil ?_
              intro wz hwz _
              have hb := Lib.Behind.below hwz
              have H1' := Lib.hid (H1.out.below hb (Nat.le_refl _)); have HP' := Lib.hid ((hb.block w.heap.size (Array.getElem?_eq_some_iff.1 HP.out).1).trans HP.out); have HB' := Lib.hid (bn HB.out hb)
              clear H1 HP HB hwz hb y0 y1; have H1 := H1'; have HP := HP'; have HB := HB'; clear H1' HP' HB'
              go_wp2_with fail
              have y0 := cell_regrown ((fr_cells HP.out).2.2.1)
              have y1 := cell_regrown (H1.out.cells.2.1)
              refine Lib.wp_region_made 7 (fun _ => none) (by kernel_rfl) (by kernel_rfl) Lib.stabP_none ?_
              simp only [List.take_succ_cons, List.take_zero, List.drop_succ_cons, List.drop_zero]
              repeat (refine Lib.wpML_step (by rfl) (fun K hK => ?_); go_simp; (refine hK _ ?_; clear hK K))
              refine Lib.wpML_nil ?_
              intro wz hwz _
              have hb := Lib.Behind.below hwz
              have H1' := Lib.hid (H1.out.below hb (Nat.le_refl _)); have HP' := Lib.hid ((hb.block w.heap.size (Array.getElem?_eq_some_iff.1 HP.out).1).trans HP.out); have HB' := Lib.hid (bn HB.out hb)
              clear H1 HP HB hwz hb y0 y1; have H1 := H1'; have HP := HP'; have HB := HB'; clear H1' HP' HB'
              go_wp2_with fail
              have y0 := cell_regrown ((fr_cells HP.out).2.2.2.1)
              have y1 := cell_regrown ((fr_cells HP.out).2.2.2.2.1)
              have y2 := cell_regrown (H1.out.cells.2.2.1)
              refine Lib.wp_region_made 20 (fun _ => none) (by kernel_rfl) (by kernel_rfl) Lib.stabP_none ?_
              simp only [List.take_succ_cons, List.take_zero, List.drop_succ_cons, List.drop_zero]
              repeat (refine Lib.wpML_step (by rfl) (fun K hK => ?_); go_simp; (refine hK _ ?_; clear hK K))
              refine Lib.wpML_nil ?_
              intro wz hwz _
              have hb := Lib.Behind.below hwz
              have H1' := Lib.hid (H1.out.below hb (Nat.le_refl _)); have HP' := Lib.hid ((hb.block w.heap.size (Array.getElem?_eq_some_iff.1 HP.out).1).trans HP.out); have HB' := Lib.hid (bn HB.out hb)
              clear H1 HP HB hwz hb y0 y1 y2; have H1 := H1'; have HP := HP'; have HB := HB'; clear H1' HP' HB'
              go_wp2
              go_ret
              rw [← HRR.out]
              exact ⟨r, rfl, H1.out, Chg.of_below HB.out, rfl, rfl, fun k hk => .inl hk⟩

            · rw [if_neg (by omega)] at hrr
              have htib : decide (t < i) = false := by simpa using hti
              have hi256 : i ≤ 256 := by omega
              have hi0 : 0 ≤ i := by omega
              have HRR := Lib.hid hrr; clear hrr HR hs he ht hi hti
              go_enter Try.func24, Try.ntmps24
              go_wp2_with (with_reducible refine wpList_mark (o := ⟨some 5, _, _, _, _, _⟩) ?_)
              generalize w.alloc (.cells #[.int .i64 2, .int .i64 s, .int .i64 e, .int .i64 i, .int .i64 t, .string d] 31) = w1 at *
              refine Marked.intro ?_
              have p0 := (fr_cells HP.out).1
              go_wp2_with fail
              clear p0
              have y0 := cell_regrown ((fr_cells HP.out).2.1)
              have y1 := cell_regrown (H1.out.cells.1)
              refine Lib.wp_region_made 7 (fun _ => none) (by kernel_rfl) (by kernel_rfl) Lib.stabP_none ?_
              simp only [List.take_succ_cons, List.take_zero, List.drop_succ_cons, List.drop_zero]
              repeat (refine Lib.wpML_step (by rfl) (fun K hK => ?_); go_simp; (refine hK _ ?_; clear hK K))
              refine Lib.wpML_nil ?_
              intro wz hwz _
              have hb := Lib.Behind.below hwz
              have H1' := Lib.hid (H1.out.below hb (Nat.le_refl _)); have HP' := Lib.hid ((hb.block w.heap.size (Array.getElem?_eq_some_iff.1 HP.out).1).trans HP.out); have HB' := Lib.hid (bn HB.out hb)
              clear H1 HP HB hwz hb y0 y1; have H1 := H1'; have HP := HP'; have HB := HB'; clear H1' HP' HB'
              go_wp2_with fail
              have y0 := cell_regrown ((fr_cells HP.out).2.2.1)
              have y1 := cell_regrown (H1.out.cells.2.1)
              refine Lib.wp_region_made 7 (fun _ => none) (by kernel_rfl) (by kernel_rfl) Lib.stabP_none ?_
              simp only [List.take_succ_cons, List.take_zero, List.drop_succ_cons, List.drop_zero]
              repeat (refine Lib.wpML_step (by rfl) (fun K hK => ?_); go_simp; (refine hK _ ?_; clear hK K))
              refine Lib.wpML_nil ?_
              intro wz hwz _
              have hb := Lib.Behind.below hwz
              have H1' := Lib.hid (H1.out.below hb (Nat.le_refl _)); have HP' := Lib.hid ((hb.block w.heap.size (Array.getElem?_eq_some_iff.1 HP.out).1).trans HP.out); have HB' := Lib.hid (bn HB.out hb)
              clear H1 HP HB hwz hb y0 y1; have H1 := H1'; have HP := HP'; have HB := HB'; clear H1' HP' HB'
              go_wp2_with fail
              have y0 := cell_regrown ((fr_cells HP.out).2.2.2.1)
              have y1 := cell_regrown ((fr_cells HP.out).2.2.2.2.1)
              have y2 := cell_regrown (H1.out.cells.2.2.1)
              refine Lib.wp_region_made 20 (fun _ => none) (by kernel_rfl) (by kernel_rfl) Lib.stabP_none ?_
              simp only [List.take_succ_cons, List.take_zero, List.drop_succ_cons, List.drop_zero]
              repeat (refine Lib.wpML_step (by rfl) (fun K hK => ?_); go_simp; (refine hK _ ?_; clear hK K))
              refine Lib.wpML_nil ?_
              intro wz hwz _
              have hb := Lib.Behind.below hwz
              have H1' := Lib.hid (H1.out.below hb (Nat.le_refl _)); have HP' := Lib.hid ((hb.block w.heap.size (Array.getElem?_eq_some_iff.1 HP.out).1).trans HP.out); have HB' := Lib.hid (bn HB.out hb)
              clear H1 HP HB hwz hb y0 y1 y2; have H1 := H1'; have HP := HP'; have HB := HB'; clear H1' HP' HB'
              go_wp2_with fail
              obtain ⟨wq, rfl⟩ : ∃ wq : World, wq = wz := ⟨_, rfl⟩
              have y0 := (fr_cells HP.out).2.2.2.1
              have y1 := (fr_cells HP.out).2.2.2.2.2
              have y2 := H1.out.cells.2.2.2.1
              have hwl := withB_length S.B (toldB i d) S.B.length
              have cM := RMerge_calls wq.drew S.B r.gi r.cap i d (H1.out.below ((Below.refl wq.heap.size wq).drew) (Nat.le_refl _)).irow hone hle (by omega) (by omega) hd
              obtain ⟨NB, hNB⟩ : ∃ NB, newB S.B (toldB i d) S.B.length = NB := ⟨_, rfl⟩
              obtain ⟨B2, hB2⟩ : ∃ B2, withB S.B (toldB i d) S.B.length = B2 := ⟨_, rfl⟩
              rw [hB2] at hwl
              rw [hNB, hB2] at cM
              have HRR2 : Hid ((0, { S with B := B2 }) = R) := Lib.hid (by rw [← hB2]; exact HRR.out)
              have HCM := Lib.hid cM
              have HBD : Hid (∀ w', Below wq.drew.heap.size wq.drew w' → Below wq.heap.size wq w') := Lib.hid (fun w' h => ((Below.refl wq.heap.size wq).drew).trans h)
              have HWL := Lib.hid hwl
              clear hNB hB2 HRR cM hwl
              go_region_law (go_simp; go_at_call 40; refine HCM.out.mono ?_; rintro e wz ⟨g2, cap2, rfl, hrow, hgv, hb0⟩; have hb := HBD.out _ hb0; have H2 := Lib.hid (H1.out.below hb (Nat.le_refl _)); have c3 := H2.out.cells.2.2.2.1; have f3 : wz.frozen? ⟨r.g, 3, none⟩ = false := (by simp [World.frozen?, H2.out.row]))
              all_goals
                have hg2 : g2 ∉ r.all := fun hk => by have h1 := H1.out.lt _ hk; have h2 : wq.heap.size ≤ g2 := hgv; omega
                have hgc : ∀ a, r.ad = some a → a.block ≠ g2 := fun a ha => by have h1 := H1.out.clt a ha; have h2 : wq.heap.size ≤ g2 := hgv; omega
                have h3 := H2.out.turn hrow HWL.out hg2 hgc
                have hc1 : Chg r.all w wz := Chg.of_below (bn HB.out hb)
                have hc2 : Chg r.all w (wz.setCell ⟨r.g, 3, none⟩ (.slice (some ⟨g2, 0, none⟩) S.B.length cap2)) := hc1.trans (Chg.of_upd (upd_set r.g 3 wz _) (by simp [Rs.all]))
                have hwg : w.heap.size ≤ g2 := by have h1 := HB.out.size; have h2 : wq.heap.size ≤ g2 := hgv; omega
                have H3 := Lib.hid h3; have HC := Lib.hid hc2
                clear hb hb0 hrow H1 H2 HP HB h3 hc1 hc2 y0 y1 y2 HCM HBD hg2 hgc c3 f3 hgv
                go_wp2
                go_ret
                rw [← HRR2.out]
                exact ⟨{ r with gi := g2, cap := cap2 }, rfl, H3.out, HC.out, rfl, rfl, fun k hk => by
                  simp only [Rs.all, List.mem_cons, List.not_mem_nil, or_false] at hk ⊢
                  rcases hk with rfl | rfl | rfl | rfl
                  · exact .inl (.inl rfl)
                  · exact .inr hwg
                  · exact .inl (.inr (.inr (.inl rfl)))
                  · exact .inl (.inr (.inr (.inr rfl)))⟩

        · rw [if_pos (Or.inl ht)] at hrr
          have htb : (t != (S.B.length : Int)) = true := by simp [ht]
          have HRR := Lib.hid hrr; clear hrr HR hs he ht
          go_enter Try.func24, Try.ntmps24
          go_wp2_with (with_reducible refine wpList_mark (o := ⟨some 5, _, _, _, _, _⟩) ?_)
          generalize w.alloc (.cells #[.int .i64 2, .int .i64 s, .int .i64 e, .int .i64 i, .int .i64 t, .string d] 31) = w1 at *
          refine Marked.intro ?_
          have p0 := (fr_cells HP.out).1
          go_wp2_with fail
          clear p0
          have y0 := cell_regrown ((fr_cells HP.out).2.1)
          have y1 := cell_regrown (H1.out.cells.1)
          refine Lib.wp_region_made 7 (fun _ => none) (by kernel_rfl) (by kernel_rfl) Lib.stabP_none ?_
          simp only [List.take_succ_cons, List.take_zero, List.drop_succ_cons, List.drop_zero]
          repeat (refine Lib.wpML_step (by rfl) (fun K hK => ?_); go_simp; (refine hK _ ?_; clear hK K))
          refine Lib.wpML_nil ?_
          intro wz hwz _
          have hb := Lib.Behind.below hwz
          have H1' := Lib.hid (H1.out.below hb (Nat.le_refl _)); have HP' := Lib.hid ((hb.block w.heap.size (Array.getElem?_eq_some_iff.1 HP.out).1).trans HP.out); have HB' := Lib.hid (bn HB.out hb)
          clear H1 HP HB hwz hb y0 y1; have H1 := H1'; have HP := HP'; have HB := HB'; clear H1' HP' HB'
          go_wp2_with fail
          have y0 := cell_regrown ((fr_cells HP.out).2.2.1)
          have y1 := cell_regrown (H1.out.cells.2.1)
          refine Lib.wp_region_made 7 (fun _ => none) (by kernel_rfl) (by kernel_rfl) Lib.stabP_none ?_
          simp only [List.take_succ_cons, List.take_zero, List.drop_succ_cons, List.drop_zero]
          repeat (refine Lib.wpML_step (by rfl) (fun K hK => ?_); go_simp; (refine hK _ ?_; clear hK K))
          refine Lib.wpML_nil ?_
          intro wz hwz _
          have hb := Lib.Behind.below hwz
          have H1' := Lib.hid (H1.out.below hb (Nat.le_refl _)); have HP' := Lib.hid ((hb.block w.heap.size (Array.getElem?_eq_some_iff.1 HP.out).1).trans HP.out); have HB' := Lib.hid (bn HB.out hb)
          clear H1 HP HB hwz hb y0 y1; have H1 := H1'; have HP := HP'; have HB := HB'; clear H1' HP' HB'
          go_wp2_with fail
          have y0 := cell_regrown ((fr_cells HP.out).2.2.2.1)
          have y1 := cell_regrown ((fr_cells HP.out).2.2.2.2.1)
          have y2 := cell_regrown (H1.out.cells.2.2.1)
          refine Lib.wp_region_made 20 (fun _ => none) (by kernel_rfl) (by kernel_rfl) Lib.stabP_none ?_
          simp only [List.take_succ_cons, List.take_zero, List.drop_succ_cons, List.drop_zero]
          repeat (refine Lib.wpML_step (by rfl) (fun K hK => ?_); go_simp; (refine hK _ ?_; clear hK K))
          refine Lib.wpML_nil ?_
          intro wz hwz _
          have hb := Lib.Behind.below hwz
          have H1' := Lib.hid (H1.out.below hb (Nat.le_refl _)); have HP' := Lib.hid ((hb.block w.heap.size (Array.getElem?_eq_some_iff.1 HP.out).1).trans HP.out); have HB' := Lib.hid (bn HB.out hb)
          clear H1 HP HB hwz hb y0 y1 y2; have H1 := H1'; have HP := HP'; have HB := HB'; clear H1' HP' HB'
          go_wp2
          go_ret
          rw [← HRR.out]
          exact ⟨r, rfl, H1.out, Chg.of_below HB.out, rfl, rfl, fun k hk => .inl hk⟩

      · rw [if_pos he] at hrr
        have heb : (e != S.ep) = true := by simp [he]
        have HRR := Lib.hid hrr; clear hrr HR hs he
        go_enter Try.func24, Try.ntmps24
        go_wp2_with (with_reducible refine wpList_mark (o := ⟨some 5, _, _, _, _, _⟩) ?_)
        generalize w.alloc (.cells #[.int .i64 2, .int .i64 s, .int .i64 e, .int .i64 i, .int .i64 t, .string d] 31) = w1 at *
        refine Marked.intro ?_
        have p0 := (fr_cells HP.out).1
        go_wp2_with fail
        clear p0
        have y0 := cell_regrown ((fr_cells HP.out).2.1)
        have y1 := cell_regrown (H1.out.cells.1)
        refine Lib.wp_region_made 7 (fun _ => none) (by kernel_rfl) (by kernel_rfl) Lib.stabP_none ?_
        simp only [List.take_succ_cons, List.take_zero, List.drop_succ_cons, List.drop_zero]
        repeat (refine Lib.wpML_step (by rfl) (fun K hK => ?_); go_simp; (refine hK _ ?_; clear hK K))
        refine Lib.wpML_nil ?_
        intro wz hwz _
        have hb := Lib.Behind.below hwz
        have H1' := Lib.hid (H1.out.below hb (Nat.le_refl _)); have HP' := Lib.hid ((hb.block w.heap.size (Array.getElem?_eq_some_iff.1 HP.out).1).trans HP.out); have HB' := Lib.hid (bn HB.out hb)
        clear H1 HP HB hwz hb y0 y1; have H1 := H1'; have HP := HP'; have HB := HB'; clear H1' HP' HB'
        go_wp2_with fail
        have y0 := cell_regrown ((fr_cells HP.out).2.2.1)
        have y1 := cell_regrown (H1.out.cells.2.1)
        refine Lib.wp_region_made 7 (fun _ => none) (by kernel_rfl) (by kernel_rfl) Lib.stabP_none ?_
        simp only [List.take_succ_cons, List.take_zero, List.drop_succ_cons, List.drop_zero]
        repeat (refine Lib.wpML_step (by rfl) (fun K hK => ?_); go_simp; (refine hK _ ?_; clear hK K))
        refine Lib.wpML_nil ?_
        intro wz hwz _
        have hb := Lib.Behind.below hwz
        have H1' := Lib.hid (H1.out.below hb (Nat.le_refl _)); have HP' := Lib.hid ((hb.block w.heap.size (Array.getElem?_eq_some_iff.1 HP.out).1).trans HP.out); have HB' := Lib.hid (bn HB.out hb)
        clear H1 HP HB hwz hb y0 y1; have H1 := H1'; have HP := HP'; have HB := HB'; clear H1' HP' HB'
        go_wp2
        go_ret
        rw [← HRR.out]
        exact ⟨r, rfl, H1.out, Chg.of_below HB.out, rfl, rfl, fun k hk => .inl hk⟩

    · rw [if_pos hs] at hrr
      have hsb : (s != S.ses) = true := by simp [hs]
      have HRR := Lib.hid hrr; clear hrr HR hs
      go_enter Try.func24, Try.ntmps24
      go_wp2_with (with_reducible refine wpList_mark (o := ⟨some 5, _, _, _, _, _⟩) ?_)
      generalize w.alloc (.cells #[.int .i64 2, .int .i64 s, .int .i64 e, .int .i64 i, .int .i64 t, .string d] 31) = w1 at *
      refine Marked.intro ?_
      have p0 := (fr_cells HP.out).1
      go_wp2_with fail
      clear p0
      have y0 := cell_regrown ((fr_cells HP.out).2.1)
      have y1 := cell_regrown (H1.out.cells.1)
      refine Lib.wp_region_made 7 (fun _ => none) (by kernel_rfl) (by kernel_rfl) Lib.stabP_none ?_
      simp only [List.take_succ_cons, List.take_zero, List.drop_succ_cons, List.drop_zero]
      repeat (refine Lib.wpML_step (by rfl) (fun K hK => ?_); go_simp; (refine hK _ ?_; clear hK K))
      refine Lib.wpML_nil ?_
      intro wz hwz _
      have hb := Lib.Behind.below hwz
      have H1' := Lib.hid (H1.out.below hb (Nat.le_refl _)); have HP' := Lib.hid ((hb.block w.heap.size (Array.getElem?_eq_some_iff.1 HP.out).1).trans HP.out); have HB' := Lib.hid (bn HB.out hb)
      clear H1 HP HB hwz hb y0 y1; have H1 := H1'; have HP := HP'; have HB := HB'; clear H1' HP' HB'
      go_wp2
      go_ret
      rw [← HRR.out]
      exact ⟨r, rfl, H1.out, Chg.of_below HB.out, rfl, rfl, fun k hk => .inl hk⟩

  · have hrr := HR.out
    rw [if_pos hk] at hrr
    have hkb : (k != 2) = true := by simp [hk]
    have HRR := Lib.hid hrr; clear hrr HR hk
    go_enter Try.func24, Try.ntmps24
    go_wp2_with (with_reducible refine wpList_mark (o := ⟨some 5, _, _, _, _, _⟩) ?_)
    generalize w.alloc (.cells #[.int .i64 k, .int .i64 s, .int .i64 e, .int .i64 i, .int .i64 t, .string d] 31) = w1 at *
    refine Marked.intro ?_
    have p0 := (fr_cells HP.out).1
    go_wp2_with fail
    clear p0
    go_wp2
    go_ret
    rw [← HRR.out]
    exact ⟨r, rfl, H1.out, Chg.of_below HB.out, rfl, rfl, fun k hk => .inl hk⟩

end Go.Proofs.Ytcmgmdgeimmbeaa
