/- The walks of the reference's receiver: wrong, Take. (Printed by wip/print/recref2.py.) -/
import Derived.Test.YtpgcdfdfbcmodaaRecRef
namespace Go.Proofs.Ytpgcdfdfbcmodaa
open Go.RowKit Go.Sort
set_option linter.unusedVariables false
set_option linter.unusedSimpArgs false
theorem frq_cells {w : World} {b : Nat} {k s e i t : Int} {d : ByteArray} (h : w.heap[b]? = some (.cells #[.int .i64 k, .int .i64 s, .int .i64 e, .int .i64 i, .int .i64 t, .string d] 32 (0, 0))) :
    w.cell? ⟨b, 0, none⟩ = some (.int .i64 k) ∧ w.cell? ⟨b, 1, none⟩ = some (.int .i64 s) ∧ w.cell? ⟨b, 2, none⟩ = some (.int .i64 e) ∧ w.cell? ⟨b, 3, none⟩ = some (.int .i64 i) ∧ w.cell? ⟨b, 4, none⟩ = some (.int .i64 t) ∧ w.cell? ⟨b, 5, none⟩ = some (.string d) := by
  refine ⟨?_, ?_, ?_, ?_, ?_, ?_⟩ <;> rw [cell_of_row _ _ _ _ _ _ h] <;> rfl
set_option maxHeartbeats 8000000 in
set_option maxRecDepth 100000 in
theorem Qwrong_calls (w : World) (R : Rv) (q : Rq) (f : Fr) (h : RqAt R q w) :
    Calls Try.prog 54 #[.pointer (some ⟨q.g, 0, none⟩), f.val] w fun x w' => x = .returned (.int .i64 (R.wrong f : Nat)) ∧ Below w.heap.size w w' := by
  obtain ⟨k, s, e, i, t, d⟩ := f
  have hrr := fun w => RRight_calls w ⟨k, s, e, i, t, d⟩
  have hok2 : (⟨k, s, e, i, t, d⟩ : Fr).ok → 0 ≤ i := fun h => h.2.2.2.2.2.1
  unfold Fr.val at *
  have hbw := (Below.refl w.heap.size w).alloc (Nat.le_refl _) (.cells #[.int .i64 k, .int .i64 s, .int .i64 e, .int .i64 i, .int .i64 t, .string d] 32)
  have h1 := h.below hbw (Nat.le_refl _)
  have hR := heap_alloc_new w (.cells #[.int .i64 k, .int .i64 s, .int .i64 e, .int .i64 i, .int .i64 t, .string d] 32)
  have hle := h.le
  obtain ⟨X, hX⟩ : ∃ X, R.wrong ⟨k, s, e, i, t, d⟩ = X := ⟨_, rfl⟩
  rw [hX]
  unfold Rv.wrong at hX
  simp only at hrr hX
  have H1 := Lib.hid h1; have HB := Lib.hid hbw; have HP := Lib.hid hR; have HX := Lib.hid hX; have HRR := Lib.hid hrr
  clear h1 hbw hR hX h hrr
  by_cases hk : k = 1
  · subst hk
    have hkb : ((1 : Int) != 1) = false := rfl
    by_cases hok : (⟨1, s, e, i, t, d⟩ : Fr).ok
    · have hi0 := hok2 hok
      have hrr := HRR.out
      rw [decide_eq_true hok] at hrr
      have hx := HX.out
      rw [if_neg (by simp [hok])] at hx
      have HRR2 := Lib.hid hrr
      clear hrr HRR HX hok hok2
      by_cases hs : s = R.ses
      · rw [if_neg (by simp [hs])] at hx
        have hsb : (s != R.ses) = false := by simp [hs]
        by_cases he : e = R.ep
        · rw [if_neg (by simp [he])] at hx
          have heb : (e != R.ep) = false := by simp [he]
          by_cases ht : t = (R.B.length : Nat)
          · have htb : (t != (R.B.length : Int)) = false := by simp [ht]
            by_cases hti : t ≤ i
            · have htib : decide (t ≤ i) = true := by simpa using hti
              rw [if_pos (Or.inr hti)] at hx
              have HE := Lib.hid hx; clear hx hs he ht hti
              go_enter Try.func54, Try.ntmps54
              go_wp2_with (with_reducible refine wpList_mark (o := ⟨some 5, _, _, _, _, _⟩) ?_)
              generalize w.alloc (.cells #[.int .i64 1, .int .i64 s, .int .i64 e, .int .i64 i, .int .i64 t, .string d] 32) = w1 at *
              refine Marked.intro ?_
              obtain ⟨p0, p1, p2, p3, p4, p5⟩ := frq_cells HP.out
              go_wp2_with fail
              clear p0 p1 p2 p3 p4 p5
              refine (HRR2.out _).mono ?_
              rintro x w2 ⟨rfl, hb⟩
              have H1' := Lib.hid (H1.out.below hb (Nat.le_refl _)); have HP' := Lib.hid ((hb.block w.heap.size (Array.getElem?_eq_some_iff.1 HP.out).1).trans HP.out); have HB' := Lib.hid (bn HB.out hb)
              clear H1 HP HB hb HRR2; have H1 := H1'; have HP := HP'; have HB := HB'; clear H1' HP' HB'
              go_wp2_with fail
              have y0 := cell_regrown ((frq_cells HP.out).2.1)
              have y1 := cell_regrown (H1.out.cells.1)
              refine Lib.wp_region_made 7 (fun _ => none) (by kernel_rfl) (by kernel_rfl) Lib.stabP_none ?_
              simp only [List.take_succ_cons, List.take_zero, List.drop_succ_cons, List.drop_zero]
              repeat (refine Lib.wpML_step (by rfl) (fun K hK => ?_); go_simp; (refine hK _ ?_; clear hK K))
              refine Lib.wpML_nil ?_
              intro wz hwz _
              have hb := Lib.Behind.below hwz
              have H1' := Lib.hid (H1.out.below hb (Nat.le_refl _)); have HP' := Lib.hid ((hb.block w.heap.size (Array.getElem?_eq_some_iff.1 HP.out).1).trans HP.out); have HB' := Lib.hid (bn HB.out hb)
              clear H1 HP HB hwz hb y0 y1; have H1 := H1'; have HP := HP'; have HB := HB'; clear H1' HP' HB'
              go_wp2_with fail
              have y0 := cell_regrown ((frq_cells HP.out).2.2.1)
              have y1 := cell_regrown (H1.out.cells.2.1)
              refine Lib.wp_region_made 7 (fun _ => none) (by kernel_rfl) (by kernel_rfl) Lib.stabP_none ?_
              simp only [List.take_succ_cons, List.take_zero, List.drop_succ_cons, List.drop_zero]
              repeat (refine Lib.wpML_step (by rfl) (fun K hK => ?_); go_simp; (refine hK _ ?_; clear hK K))
              refine Lib.wpML_nil ?_
              intro wz hwz _
              have hb := Lib.Behind.below hwz
              have H1' := Lib.hid (H1.out.below hb (Nat.le_refl _)); have HP' := Lib.hid ((hb.block w.heap.size (Array.getElem?_eq_some_iff.1 HP.out).1).trans HP.out); have HB' := Lib.hid (bn HB.out hb)
              clear H1 HP HB hwz hb y0 y1; have H1 := H1'; have HP := HP'; have HB := HB'; clear H1' HP' HB'
              go_wp2_with fail
              have y0 := cell_regrown ((frq_cells HP.out).2.2.2.1)
              have y1 := cell_regrown ((frq_cells HP.out).2.2.2.2.1)
              have y2 := cell_regrown (H1.out.cells.2.2.2.1)
              refine Lib.wp_region_made 15 (fun _ => none) (by kernel_rfl) (by kernel_rfl) Lib.stabP_none ?_
              simp only [List.take_succ_cons, List.take_zero, List.drop_succ_cons, List.drop_zero]
              repeat (refine Lib.wpML_step (by rfl) (fun K hK => ?_); go_simp; (refine hK _ ?_; clear hK K))
              refine Lib.wpML_nil ?_
              intro wz hwz _
              have hb := Lib.Behind.below hwz
              have H1' := Lib.hid (H1.out.below hb (Nat.le_refl _)); have HP' := Lib.hid ((hb.block w.heap.size (Array.getElem?_eq_some_iff.1 HP.out).1).trans HP.out); have HB' := Lib.hid (bn HB.out hb)
              clear H1 HP HB hwz hb y0 y1 y2; have H1 := H1'; have HP := HP'; have HB := HB'; clear H1' HP' HB'
              go_wp2
              go_ret
              exact ⟨by rw [← HE.out]; rfl, HB.out⟩

            · have htib : decide (t ≤ i) = false := by simpa using hti
              rw [if_neg (by omega)] at hx
              by_cases hd : 1000 < d.size
              · have hdb : decide (1000 < (d.size : Int)) = true := decide_eq_true (by omega)
                rw [if_pos hd] at hx
                have HE := Lib.hid hx; clear hx hs he ht hti hd
                go_enter Try.func54, Try.ntmps54
                go_wp2_with (with_reducible refine wpList_mark (o := ⟨some 5, _, _, _, _, _⟩) ?_)
                generalize w.alloc (.cells #[.int .i64 1, .int .i64 s, .int .i64 e, .int .i64 i, .int .i64 t, .string d] 32) = w1 at *
                refine Marked.intro ?_
                obtain ⟨p0, p1, p2, p3, p4, p5⟩ := frq_cells HP.out
                go_wp2_with fail
                clear p0 p1 p2 p3 p4 p5
                refine (HRR2.out _).mono ?_
                rintro x w2 ⟨rfl, hb⟩
                have H1' := Lib.hid (H1.out.below hb (Nat.le_refl _)); have HP' := Lib.hid ((hb.block w.heap.size (Array.getElem?_eq_some_iff.1 HP.out).1).trans HP.out); have HB' := Lib.hid (bn HB.out hb)
                clear H1 HP HB hb HRR2; have H1 := H1'; have HP := HP'; have HB := HB'; clear H1' HP' HB'
                go_wp2_with fail
                have y0 := cell_regrown ((frq_cells HP.out).2.1)
                have y1 := cell_regrown (H1.out.cells.1)
                refine Lib.wp_region_made 7 (fun _ => none) (by kernel_rfl) (by kernel_rfl) Lib.stabP_none ?_
                simp only [List.take_succ_cons, List.take_zero, List.drop_succ_cons, List.drop_zero]
                repeat (refine Lib.wpML_step (by rfl) (fun K hK => ?_); go_simp; (refine hK _ ?_; clear hK K))
                refine Lib.wpML_nil ?_
                intro wz hwz _
                have hb := Lib.Behind.below hwz
                have H1' := Lib.hid (H1.out.below hb (Nat.le_refl _)); have HP' := Lib.hid ((hb.block w.heap.size (Array.getElem?_eq_some_iff.1 HP.out).1).trans HP.out); have HB' := Lib.hid (bn HB.out hb)
                clear H1 HP HB hwz hb y0 y1; have H1 := H1'; have HP := HP'; have HB := HB'; clear H1' HP' HB'
                go_wp2_with fail
                have y0 := cell_regrown ((frq_cells HP.out).2.2.1)
                have y1 := cell_regrown (H1.out.cells.2.1)
                refine Lib.wp_region_made 7 (fun _ => none) (by kernel_rfl) (by kernel_rfl) Lib.stabP_none ?_
                simp only [List.take_succ_cons, List.take_zero, List.drop_succ_cons, List.drop_zero]
                repeat (refine Lib.wpML_step (by rfl) (fun K hK => ?_); go_simp; (refine hK _ ?_; clear hK K))
                refine Lib.wpML_nil ?_
                intro wz hwz _
                have hb := Lib.Behind.below hwz
                have H1' := Lib.hid (H1.out.below hb (Nat.le_refl _)); have HP' := Lib.hid ((hb.block w.heap.size (Array.getElem?_eq_some_iff.1 HP.out).1).trans HP.out); have HB' := Lib.hid (bn HB.out hb)
                clear H1 HP HB hwz hb y0 y1; have H1 := H1'; have HP := HP'; have HB := HB'; clear H1' HP' HB'
                go_wp2_with fail
                have y0 := cell_regrown ((frq_cells HP.out).2.2.2.1)
                have y1 := cell_regrown ((frq_cells HP.out).2.2.2.2.1)
                have y2 := cell_regrown (H1.out.cells.2.2.2.1)
                refine Lib.wp_region_made 15 (fun _ => none) (by kernel_rfl) (by kernel_rfl) Lib.stabP_none ?_
                simp only [List.take_succ_cons, List.take_zero, List.drop_succ_cons, List.drop_zero]
                repeat (refine Lib.wpML_step (by rfl) (fun K hK => ?_); go_simp; (refine hK _ ?_; clear hK K))
                refine Lib.wpML_nil ?_
                intro wz hwz _
                have hb := Lib.Behind.below hwz
                have H1' := Lib.hid (H1.out.below hb (Nat.le_refl _)); have HP' := Lib.hid ((hb.block w.heap.size (Array.getElem?_eq_some_iff.1 HP.out).1).trans HP.out); have HB' := Lib.hid (bn HB.out hb)
                clear H1 HP HB hwz hb y0 y1 y2; have H1 := H1'; have HP := HP'; have HB := HB'; clear H1' HP' HB'
                have p5 := (frq_cells HP.out).2.2.2.2.2
                go_wp2
                go_ret
                exact ⟨by rw [← HE.out]; rfl, HB.out⟩

              · have hdb : decide (1000 < (d.size : Int)) = false := decide_eq_false (by omega)
                rw [if_neg hd] at hx
                obtain ⟨m, rfl⟩ := Int.eq_ofNat_of_zero_le hi0
                have hm : m < R.B.length := by omega
                rw [Int.toNat_natCast] at hx
                cases hb : R.B.getD m false with
                | true =>
                  rw [hb, if_pos rfl] at hx
                  have HE := Lib.hid hx; have HBM := Lib.hid hb; clear hx hs he ht hti hd hb
                  go_enter Try.func54, Try.ntmps54
                  go_wp2_with (with_reducible refine wpList_mark (o := ⟨some 5, _, _, _, _, _⟩) ?_)
                  generalize w.alloc (.cells #[.int .i64 1, .int .i64 s, .int .i64 e, .int .i64 (m : Int), .int .i64 t, .string d] 32) = w1 at *
                  refine Marked.intro ?_
                  obtain ⟨p0, p1, p2, p3, p4, p5⟩ := frq_cells HP.out
                  go_wp2_with fail
                  clear p0 p1 p2 p3 p4 p5
                  refine (HRR2.out _).mono ?_
                  rintro x w2 ⟨rfl, hb⟩
                  have H1' := Lib.hid (H1.out.below hb (Nat.le_refl _)); have HP' := Lib.hid ((hb.block w.heap.size (Array.getElem?_eq_some_iff.1 HP.out).1).trans HP.out); have HB' := Lib.hid (bn HB.out hb)
                  clear H1 HP HB hb HRR2; have H1 := H1'; have HP := HP'; have HB := HB'; clear H1' HP' HB'
                  go_wp2_with fail
                  have y0 := cell_regrown ((frq_cells HP.out).2.1)
                  have y1 := cell_regrown (H1.out.cells.1)
                  refine Lib.wp_region_made 7 (fun _ => none) (by kernel_rfl) (by kernel_rfl) Lib.stabP_none ?_
                  simp only [List.take_succ_cons, List.take_zero, List.drop_succ_cons, List.drop_zero]
                  repeat (refine Lib.wpML_step (by rfl) (fun K hK => ?_); go_simp; (refine hK _ ?_; clear hK K))
                  refine Lib.wpML_nil ?_
                  intro wz hwz _
                  have hb := Lib.Behind.below hwz
                  have H1' := Lib.hid (H1.out.below hb (Nat.le_refl _)); have HP' := Lib.hid ((hb.block w.heap.size (Array.getElem?_eq_some_iff.1 HP.out).1).trans HP.out); have HB' := Lib.hid (bn HB.out hb)
                  clear H1 HP HB hwz hb y0 y1; have H1 := H1'; have HP := HP'; have HB := HB'; clear H1' HP' HB'
                  go_wp2_with fail
                  have y0 := cell_regrown ((frq_cells HP.out).2.2.1)
                  have y1 := cell_regrown (H1.out.cells.2.1)
                  refine Lib.wp_region_made 7 (fun _ => none) (by kernel_rfl) (by kernel_rfl) Lib.stabP_none ?_
                  simp only [List.take_succ_cons, List.take_zero, List.drop_succ_cons, List.drop_zero]
                  repeat (refine Lib.wpML_step (by rfl) (fun K hK => ?_); go_simp; (refine hK _ ?_; clear hK K))
                  refine Lib.wpML_nil ?_
                  intro wz hwz _
                  have hb := Lib.Behind.below hwz
                  have H1' := Lib.hid (H1.out.below hb (Nat.le_refl _)); have HP' := Lib.hid ((hb.block w.heap.size (Array.getElem?_eq_some_iff.1 HP.out).1).trans HP.out); have HB' := Lib.hid (bn HB.out hb)
                  clear H1 HP HB hwz hb y0 y1; have H1 := H1'; have HP := HP'; have HB := HB'; clear H1' HP' HB'
                  go_wp2_with fail
                  have y0 := cell_regrown ((frq_cells HP.out).2.2.2.1)
                  have y1 := cell_regrown ((frq_cells HP.out).2.2.2.2.1)
                  have y2 := cell_regrown (H1.out.cells.2.2.2.1)
                  refine Lib.wp_region_made 15 (fun _ => none) (by kernel_rfl) (by kernel_rfl) Lib.stabP_none ?_
                  simp only [List.take_succ_cons, List.take_zero, List.drop_succ_cons, List.drop_zero]
                  repeat (refine Lib.wpML_step (by rfl) (fun K hK => ?_); go_simp; (refine hK _ ?_; clear hK K))
                  refine Lib.wpML_nil ?_
                  intro wz hwz _
                  have hb := Lib.Behind.below hwz
                  have H1' := Lib.hid (H1.out.below hb (Nat.le_refl _)); have HP' := Lib.hid ((hb.block w.heap.size (Array.getElem?_eq_some_iff.1 HP.out).1).trans HP.out); have HB' := Lib.hid (bn HB.out hb)
                  clear H1 HP HB hwz hb y0 y1 y2; have H1 := H1'; have HP := HP'; have HB := HB'; clear H1' HP' HB'
                  have p5 := (frq_cells HP.out).2.2.2.2.2
                  have hin : R.B.getD m false = true := HBM.out
                  have cb := H1.out.icell m hm
                  rw [hin] at cb
                  have hmI : (m : Int) < (R.B.length : Int) := by omega
                  go_wp2_with fail
                  clear p5
                  have kb := cell_regrown cb
                  clear cb hin
                  have y0 := cell_regrown ((frq_cells HP.out).2.2.2.1)
                  have y1 := cell_regrown (H1.out.cells.2.2.1)
                  refine Lib.wp_region_made 8 (fun _ => none) (by kernel_rfl) (by kernel_rfl) Lib.stabP_none ?_
                  simp only [List.take_succ_cons, List.take_zero, List.drop_succ_cons, List.drop_zero]
                  repeat (refine Lib.wpML_step (by rfl) (fun K hK => ?_); go_simp; (refine hK _ ?_; clear hK K))
                  refine Lib.wpML_nil ?_
                  intro wz hwz _
                  have hb := Lib.Behind.below hwz
                  have H1' := Lib.hid (H1.out.below hb (Nat.le_refl _)); have HP' := Lib.hid ((hb.block w.heap.size (Array.getElem?_eq_some_iff.1 HP.out).1).trans HP.out); have HB' := Lib.hid (bn HB.out hb)
                  clear H1 HP HB hwz hb y0 y1; have H1 := H1'; have HP := HP'; have HB := HB'; clear H1' HP' HB'
                  clear kb
                  go_wp2
                  go_ret
                  exact ⟨by rw [← HE.out]; rfl, HB.out⟩

                | false =>
                  rw [hb, if_neg (by simp)] at hx
                  have HE := Lib.hid hx; have HBM := Lib.hid hb; clear hx hs he ht hti hd hb
                  go_enter Try.func54, Try.ntmps54
                  go_wp2_with (with_reducible refine wpList_mark (o := ⟨some 5, _, _, _, _, _⟩) ?_)
                  generalize w.alloc (.cells #[.int .i64 1, .int .i64 s, .int .i64 e, .int .i64 (m : Int), .int .i64 t, .string d] 32) = w1 at *
                  refine Marked.intro ?_
                  obtain ⟨p0, p1, p2, p3, p4, p5⟩ := frq_cells HP.out
                  go_wp2_with fail
                  clear p0 p1 p2 p3 p4 p5
                  refine (HRR2.out _).mono ?_
                  rintro x w2 ⟨rfl, hb⟩
                  have H1' := Lib.hid (H1.out.below hb (Nat.le_refl _)); have HP' := Lib.hid ((hb.block w.heap.size (Array.getElem?_eq_some_iff.1 HP.out).1).trans HP.out); have HB' := Lib.hid (bn HB.out hb)
                  clear H1 HP HB hb HRR2; have H1 := H1'; have HP := HP'; have HB := HB'; clear H1' HP' HB'
                  go_wp2_with fail
                  have y0 := cell_regrown ((frq_cells HP.out).2.1)
                  have y1 := cell_regrown (H1.out.cells.1)
                  refine Lib.wp_region_made 7 (fun _ => none) (by kernel_rfl) (by kernel_rfl) Lib.stabP_none ?_
                  simp only [List.take_succ_cons, List.take_zero, List.drop_succ_cons, List.drop_zero]
                  repeat (refine Lib.wpML_step (by rfl) (fun K hK => ?_); go_simp; (refine hK _ ?_; clear hK K))
                  refine Lib.wpML_nil ?_
                  intro wz hwz _
                  have hb := Lib.Behind.below hwz
                  have H1' := Lib.hid (H1.out.below hb (Nat.le_refl _)); have HP' := Lib.hid ((hb.block w.heap.size (Array.getElem?_eq_some_iff.1 HP.out).1).trans HP.out); have HB' := Lib.hid (bn HB.out hb)
                  clear H1 HP HB hwz hb y0 y1; have H1 := H1'; have HP := HP'; have HB := HB'; clear H1' HP' HB'
                  go_wp2_with fail
                  have y0 := cell_regrown ((frq_cells HP.out).2.2.1)
                  have y1 := cell_regrown (H1.out.cells.2.1)
                  refine Lib.wp_region_made 7 (fun _ => none) (by kernel_rfl) (by kernel_rfl) Lib.stabP_none ?_
                  simp only [List.take_succ_cons, List.take_zero, List.drop_succ_cons, List.drop_zero]
                  repeat (refine Lib.wpML_step (by rfl) (fun K hK => ?_); go_simp; (refine hK _ ?_; clear hK K))
                  refine Lib.wpML_nil ?_
                  intro wz hwz _
                  have hb := Lib.Behind.below hwz
                  have H1' := Lib.hid (H1.out.below hb (Nat.le_refl _)); have HP' := Lib.hid ((hb.block w.heap.size (Array.getElem?_eq_some_iff.1 HP.out).1).trans HP.out); have HB' := Lib.hid (bn HB.out hb)
                  clear H1 HP HB hwz hb y0 y1; have H1 := H1'; have HP := HP'; have HB := HB'; clear H1' HP' HB'
                  go_wp2_with fail
                  have y0 := cell_regrown ((frq_cells HP.out).2.2.2.1)
                  have y1 := cell_regrown ((frq_cells HP.out).2.2.2.2.1)
                  have y2 := cell_regrown (H1.out.cells.2.2.2.1)
                  refine Lib.wp_region_made 15 (fun _ => none) (by kernel_rfl) (by kernel_rfl) Lib.stabP_none ?_
                  simp only [List.take_succ_cons, List.take_zero, List.drop_succ_cons, List.drop_zero]
                  repeat (refine Lib.wpML_step (by rfl) (fun K hK => ?_); go_simp; (refine hK _ ?_; clear hK K))
                  refine Lib.wpML_nil ?_
                  intro wz hwz _
                  have hb := Lib.Behind.below hwz
                  have H1' := Lib.hid (H1.out.below hb (Nat.le_refl _)); have HP' := Lib.hid ((hb.block w.heap.size (Array.getElem?_eq_some_iff.1 HP.out).1).trans HP.out); have HB' := Lib.hid (bn HB.out hb)
                  clear H1 HP HB hwz hb y0 y1 y2; have H1 := H1'; have HP := HP'; have HB := HB'; clear H1' HP' HB'
                  have p5 := (frq_cells HP.out).2.2.2.2.2
                  have hin : R.B.getD m false = false := HBM.out
                  have cb := H1.out.icell m hm
                  rw [hin] at cb
                  have hmI : (m : Int) < (R.B.length : Int) := by omega
                  go_wp2_with fail
                  clear p5
                  have kb := cell_regrown cb
                  clear cb hin
                  have y0 := cell_regrown ((frq_cells HP.out).2.2.2.1)
                  have y1 := cell_regrown (H1.out.cells.2.2.1)
                  refine Lib.wp_region_made 8 (fun _ => none) (by kernel_rfl) (by kernel_rfl) Lib.stabP_none ?_
                  simp only [List.take_succ_cons, List.take_zero, List.drop_succ_cons, List.drop_zero]
                  repeat (refine Lib.wpML_step (by rfl) (fun K hK => ?_); go_simp; (refine hK _ ?_; clear hK K))
                  refine Lib.wpML_nil ?_
                  intro wz hwz _
                  have hb := Lib.Behind.below hwz
                  have H1' := Lib.hid (H1.out.below hb (Nat.le_refl _)); have HP' := Lib.hid ((hb.block w.heap.size (Array.getElem?_eq_some_iff.1 HP.out).1).trans HP.out); have HB' := Lib.hid (bn HB.out hb)
                  clear H1 HP HB hwz hb y0 y1; have H1 := H1'; have HP := HP'; have HB := HB'; clear H1' HP' HB'
                  clear kb
                  go_wp2
                  go_ret
                  exact ⟨by rw [← HE.out]; rfl, HB.out⟩

          · have htb : (t != (R.B.length : Int)) = true := by simp [ht]
            rw [if_pos (Or.inl ht)] at hx
            have HE := Lib.hid hx; clear hx hs he ht
            go_enter Try.func54, Try.ntmps54
            go_wp2_with (with_reducible refine wpList_mark (o := ⟨some 5, _, _, _, _, _⟩) ?_)
            generalize w.alloc (.cells #[.int .i64 1, .int .i64 s, .int .i64 e, .int .i64 i, .int .i64 t, .string d] 32) = w1 at *
            refine Marked.intro ?_
            obtain ⟨p0, p1, p2, p3, p4, p5⟩ := frq_cells HP.out
            go_wp2_with fail
            clear p0 p1 p2 p3 p4 p5
            refine (HRR2.out _).mono ?_
            rintro x w2 ⟨rfl, hb⟩
            have H1' := Lib.hid (H1.out.below hb (Nat.le_refl _)); have HP' := Lib.hid ((hb.block w.heap.size (Array.getElem?_eq_some_iff.1 HP.out).1).trans HP.out); have HB' := Lib.hid (bn HB.out hb)
            clear H1 HP HB hb HRR2; have H1 := H1'; have HP := HP'; have HB := HB'; clear H1' HP' HB'
            go_wp2_with fail
            have y0 := cell_regrown ((frq_cells HP.out).2.1)
            have y1 := cell_regrown (H1.out.cells.1)
            refine Lib.wp_region_made 7 (fun _ => none) (by kernel_rfl) (by kernel_rfl) Lib.stabP_none ?_
            simp only [List.take_succ_cons, List.take_zero, List.drop_succ_cons, List.drop_zero]
            repeat (refine Lib.wpML_step (by rfl) (fun K hK => ?_); go_simp; (refine hK _ ?_; clear hK K))
            refine Lib.wpML_nil ?_
            intro wz hwz _
            have hb := Lib.Behind.below hwz
            have H1' := Lib.hid (H1.out.below hb (Nat.le_refl _)); have HP' := Lib.hid ((hb.block w.heap.size (Array.getElem?_eq_some_iff.1 HP.out).1).trans HP.out); have HB' := Lib.hid (bn HB.out hb)
            clear H1 HP HB hwz hb y0 y1; have H1 := H1'; have HP := HP'; have HB := HB'; clear H1' HP' HB'
            go_wp2_with fail
            have y0 := cell_regrown ((frq_cells HP.out).2.2.1)
            have y1 := cell_regrown (H1.out.cells.2.1)
            refine Lib.wp_region_made 7 (fun _ => none) (by kernel_rfl) (by kernel_rfl) Lib.stabP_none ?_
            simp only [List.take_succ_cons, List.take_zero, List.drop_succ_cons, List.drop_zero]
            repeat (refine Lib.wpML_step (by rfl) (fun K hK => ?_); go_simp; (refine hK _ ?_; clear hK K))
            refine Lib.wpML_nil ?_
            intro wz hwz _
            have hb := Lib.Behind.below hwz
            have H1' := Lib.hid (H1.out.below hb (Nat.le_refl _)); have HP' := Lib.hid ((hb.block w.heap.size (Array.getElem?_eq_some_iff.1 HP.out).1).trans HP.out); have HB' := Lib.hid (bn HB.out hb)
            clear H1 HP HB hwz hb y0 y1; have H1 := H1'; have HP := HP'; have HB := HB'; clear H1' HP' HB'
            go_wp2_with fail
            have y0 := cell_regrown ((frq_cells HP.out).2.2.2.1)
            have y1 := cell_regrown ((frq_cells HP.out).2.2.2.2.1)
            have y2 := cell_regrown (H1.out.cells.2.2.2.1)
            refine Lib.wp_region_made 15 (fun _ => none) (by kernel_rfl) (by kernel_rfl) Lib.stabP_none ?_
            simp only [List.take_succ_cons, List.take_zero, List.drop_succ_cons, List.drop_zero]
            repeat (refine Lib.wpML_step (by rfl) (fun K hK => ?_); go_simp; (refine hK _ ?_; clear hK K))
            refine Lib.wpML_nil ?_
            intro wz hwz _
            have hb := Lib.Behind.below hwz
            have H1' := Lib.hid (H1.out.below hb (Nat.le_refl _)); have HP' := Lib.hid ((hb.block w.heap.size (Array.getElem?_eq_some_iff.1 HP.out).1).trans HP.out); have HB' := Lib.hid (bn HB.out hb)
            clear H1 HP HB hwz hb y0 y1 y2; have H1 := H1'; have HP := HP'; have HB := HB'; clear H1' HP' HB'
            go_wp2
            go_ret
            exact ⟨by rw [← HE.out]; rfl, HB.out⟩

        · have heb : (e != R.ep) = true := by simp [he]
          rw [if_pos he] at hx
          have HE := Lib.hid hx; clear hx hs he
          go_enter Try.func54, Try.ntmps54
          go_wp2_with (with_reducible refine wpList_mark (o := ⟨some 5, _, _, _, _, _⟩) ?_)
          generalize w.alloc (.cells #[.int .i64 1, .int .i64 s, .int .i64 e, .int .i64 i, .int .i64 t, .string d] 32) = w1 at *
          refine Marked.intro ?_
          obtain ⟨p0, p1, p2, p3, p4, p5⟩ := frq_cells HP.out
          go_wp2_with fail
          clear p0 p1 p2 p3 p4 p5
          refine (HRR2.out _).mono ?_
          rintro x w2 ⟨rfl, hb⟩
          have H1' := Lib.hid (H1.out.below hb (Nat.le_refl _)); have HP' := Lib.hid ((hb.block w.heap.size (Array.getElem?_eq_some_iff.1 HP.out).1).trans HP.out); have HB' := Lib.hid (bn HB.out hb)
          clear H1 HP HB hb HRR2; have H1 := H1'; have HP := HP'; have HB := HB'; clear H1' HP' HB'
          go_wp2_with fail
          have y0 := cell_regrown ((frq_cells HP.out).2.1)
          have y1 := cell_regrown (H1.out.cells.1)
          refine Lib.wp_region_made 7 (fun _ => none) (by kernel_rfl) (by kernel_rfl) Lib.stabP_none ?_
          simp only [List.take_succ_cons, List.take_zero, List.drop_succ_cons, List.drop_zero]
          repeat (refine Lib.wpML_step (by rfl) (fun K hK => ?_); go_simp; (refine hK _ ?_; clear hK K))
          refine Lib.wpML_nil ?_
          intro wz hwz _
          have hb := Lib.Behind.below hwz
          have H1' := Lib.hid (H1.out.below hb (Nat.le_refl _)); have HP' := Lib.hid ((hb.block w.heap.size (Array.getElem?_eq_some_iff.1 HP.out).1).trans HP.out); have HB' := Lib.hid (bn HB.out hb)
          clear H1 HP HB hwz hb y0 y1; have H1 := H1'; have HP := HP'; have HB := HB'; clear H1' HP' HB'
          go_wp2_with fail
          have y0 := cell_regrown ((frq_cells HP.out).2.2.1)
          have y1 := cell_regrown (H1.out.cells.2.1)
          refine Lib.wp_region_made 7 (fun _ => none) (by kernel_rfl) (by kernel_rfl) Lib.stabP_none ?_
          simp only [List.take_succ_cons, List.take_zero, List.drop_succ_cons, List.drop_zero]
          repeat (refine Lib.wpML_step (by rfl) (fun K hK => ?_); go_simp; (refine hK _ ?_; clear hK K))
          refine Lib.wpML_nil ?_
          intro wz hwz _
          have hb := Lib.Behind.below hwz
          have H1' := Lib.hid (H1.out.below hb (Nat.le_refl _)); have HP' := Lib.hid ((hb.block w.heap.size (Array.getElem?_eq_some_iff.1 HP.out).1).trans HP.out); have HB' := Lib.hid (bn HB.out hb)
          clear H1 HP HB hwz hb y0 y1; have H1 := H1'; have HP := HP'; have HB := HB'; clear H1' HP' HB'
          go_wp2
          go_ret
          exact ⟨by rw [← HE.out]; rfl, HB.out⟩

      · have hsb : (s != R.ses) = true := by simp [hs]
        rw [if_pos hs] at hx
        have HE := Lib.hid hx; clear hx hs
        go_enter Try.func54, Try.ntmps54
        go_wp2_with (with_reducible refine wpList_mark (o := ⟨some 5, _, _, _, _, _⟩) ?_)
        generalize w.alloc (.cells #[.int .i64 1, .int .i64 s, .int .i64 e, .int .i64 i, .int .i64 t, .string d] 32) = w1 at *
        refine Marked.intro ?_
        obtain ⟨p0, p1, p2, p3, p4, p5⟩ := frq_cells HP.out
        go_wp2_with fail
        clear p0 p1 p2 p3 p4 p5
        refine (HRR2.out _).mono ?_
        rintro x w2 ⟨rfl, hb⟩
        have H1' := Lib.hid (H1.out.below hb (Nat.le_refl _)); have HP' := Lib.hid ((hb.block w.heap.size (Array.getElem?_eq_some_iff.1 HP.out).1).trans HP.out); have HB' := Lib.hid (bn HB.out hb)
        clear H1 HP HB hb HRR2; have H1 := H1'; have HP := HP'; have HB := HB'; clear H1' HP' HB'
        go_wp2_with fail
        have y0 := cell_regrown ((frq_cells HP.out).2.1)
        have y1 := cell_regrown (H1.out.cells.1)
        refine Lib.wp_region_made 7 (fun _ => none) (by kernel_rfl) (by kernel_rfl) Lib.stabP_none ?_
        simp only [List.take_succ_cons, List.take_zero, List.drop_succ_cons, List.drop_zero]
        repeat (refine Lib.wpML_step (by rfl) (fun K hK => ?_); go_simp; (refine hK _ ?_; clear hK K))
        refine Lib.wpML_nil ?_
        intro wz hwz _
        have hb := Lib.Behind.below hwz
        have H1' := Lib.hid (H1.out.below hb (Nat.le_refl _)); have HP' := Lib.hid ((hb.block w.heap.size (Array.getElem?_eq_some_iff.1 HP.out).1).trans HP.out); have HB' := Lib.hid (bn HB.out hb)
        clear H1 HP HB hwz hb y0 y1; have H1 := H1'; have HP := HP'; have HB := HB'; clear H1' HP' HB'
        go_wp2
        go_ret
        exact ⟨by rw [← HE.out]; rfl, HB.out⟩

    · have hrr := HRR.out
      rw [decide_eq_false hok] at hrr
      have hx := HX.out
      rw [if_pos (by simp [hok])] at hx
      have HE := Lib.hid hx; have HRR2 := Lib.hid hrr
      clear hx hrr HRR HX hok hok2
      go_enter Try.func54, Try.ntmps54
      go_wp2_with (with_reducible refine wpList_mark (o := ⟨some 5, _, _, _, _, _⟩) ?_)
      generalize w.alloc (.cells #[.int .i64 1, .int .i64 s, .int .i64 e, .int .i64 i, .int .i64 t, .string d] 32) = w1 at *
      refine Marked.intro ?_
      obtain ⟨p0, p1, p2, p3, p4, p5⟩ := frq_cells HP.out
      go_wp2_with fail
      clear p0 p1 p2 p3 p4 p5
      refine (HRR2.out _).mono ?_
      rintro x w2 ⟨rfl, hb⟩
      have H1' := Lib.hid (H1.out.below hb (Nat.le_refl _)); have HP' := Lib.hid ((hb.block w.heap.size (Array.getElem?_eq_some_iff.1 HP.out).1).trans HP.out); have HB' := Lib.hid (bn HB.out hb)
      clear H1 HP HB hb HRR2; have H1 := H1'; have HP := HP'; have HB := HB'; clear H1' HP' HB'
      go_wp2
      go_ret
      exact ⟨by rw [← HE.out]; rfl, HB.out⟩

  · have hkb : (k != 1) = true := by simpa using hk
    have hx := HX.out
    rw [if_pos (by simp [hk])] at hx
    have HE := Lib.hid hx
    clear hx HRR HX hok2 hk
    go_enter Try.func54, Try.ntmps54
    go_wp2_with (with_reducible refine wpList_mark (o := ⟨some 5, _, _, _, _, _⟩) ?_)
    generalize w.alloc (.cells #[.int .i64 k, .int .i64 s, .int .i64 e, .int .i64 i, .int .i64 t, .string d] 32) = w1 at *
    refine Marked.intro ?_
    obtain ⟨p0, p1, p2, p3, p4, p5⟩ := frq_cells HP.out
    go_wp2_with fail
    clear p0 p1 p2 p3 p4 p5
    go_wp2
    go_ret
    exact ⟨by rw [← HE.out]; rfl, HB.out⟩

theorem RqAt.set_in {R : Rv} {q : Rq} {w : World} (h : RqAt R q w) (i : Nat) (hi : i < R.B.length) : RqAt { R with B := R.B.set i true } q (w.setCell ⟨q.gi, i, none⟩ (.bool true)) := by
  obtain ⟨n1, n2, n3, n4, n5, n6⟩ := h.nodup
  have ot := fun k (hk : k ≠ q.gi) => Below.heap_setCell w ⟨q.gi, i, none⟩ (.bool true) k hk
  have hr := h.irow.set i true hi
  refine ⟨(ot _ n1).trans (h.row.trans (by simp [refRow])), ?_, (ot _ n4.symm).trans h.crow, (ot _ n5.symm).trans h.drow, ⟨h.wf.s0, h.wf.s1, h.wf.e0, h.wf.e1, by simp [h.wf.lc], h.wf.cs⟩, by simpa using h.one, by simpa using h.le, h.ne⟩
  show BRow (R.B.set i true) q.gi (R.B.set i true).length _
  rw [List.length_set]; exact hr
theorem RqAt.set_c {R : Rv} {q : Rq} {w : World} (h : RqAt R q w) (i : Nat) (d : ByteArray) (hd : d.size ≤ 1000) : RqAt { R with C := R.C.set i d } q (w.setCell ⟨q.gc, i, none⟩ (.string d)) := by
  obtain ⟨n1, n2, n3, n4, n5, n6⟩ := h.nodup
  have ot := fun k (hk : k ≠ q.gc) => Below.heap_setCell w ⟨q.gc, i, none⟩ (.string d) k hk
  refine ⟨(ot _ n2).trans h.row, h.irow.keep (ot _ n4), ?_, (ot _ n6.symm).trans h.drow, ⟨h.wf.s0, h.wf.s1, h.wf.e0, h.wf.e1, by simp [h.wf.lc], fun c hc => ?_⟩, h.one, h.le, h.ne⟩
  · rw [row_setCell _ _ _ _ _ _ _ h.crow]
    congr 2
    simp [strsV, List.map_set]
  · rcases List.mem_or_eq_of_mem_set hc with h1 | h1
    · exact h.wf.cs c h1
    · rw [h1]; exact hd
theorem RqAt.set_drop {R : Rv} {q : Rq} {w : World} (h : RqAt R q w) (e : Nat) (he : e < 20) : RqAt (R.drop e) q (w.setCell ⟨q.gd, e, none⟩ (.int .i64 ((R.D (e : Int) + 1 : Nat) : Int))) := by
  obtain ⟨n1, n2, n3, n4, n5, n6⟩ := h.nodup
  have ot := fun k (hk : k ≠ q.gd) => Below.heap_setCell w ⟨q.gd, e, none⟩ (.int .i64 ((R.D (e : Int) + 1 : Nat) : Int)) k hk
  refine ⟨(ot _ n3).trans h.row, h.irow.keep (ot _ n5), (ot _ n6).trans h.crow, ?_, h.wf.drop e, h.one, h.le, h.ne⟩
  rw [row_setCell _ _ _ _ _ _ _ h.drow]
  congr 2
  apply Array.ext_getElem?
  intro j
  simp only [Array.getElem?_setIfInBounds, intsV, dropL, List.getElem?_toArray, List.getElem?_map, List.size_toArray, List.length_map, List.length_range, Rv.drop]
  by_cases hj : e = j
  · subst hj
    simp [he]
  · rw [if_neg hj]
    by_cases hj2 : j < 20
    · simp only [List.getElem?_range hj2, Option.map_some, if_neg (show ¬ (j : Int) = (e : Int) by omega)]
    · rw [List.getElem?_eq_none (by simp; omega)]; rfl
end Go.Proofs.Ytpgcdfdfbcmodaa
