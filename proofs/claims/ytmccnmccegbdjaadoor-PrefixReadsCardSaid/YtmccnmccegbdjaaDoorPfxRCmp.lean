/- The reference's Compare and Contains. (Printed by wip/print/pfxrcmp.py.) -/
import Derived.Test.YtmccnmccegbdjaaDoorPfxOrd
import Derived.Test.YtmccnmccegbdjaaDoorPfxRCommon
namespace Go.Proofs.YtmccnmccegbdjaaDoor
open Go.RowKit Go.Sort
set_option linter.unusedVariables false
set_option linter.unusedSimpArgs false
theorem compare_lt {p q : Px} (h : LT (key p) (key q)) : p.compare q = -1 := by
  rcases compare_cases p q with ⟨h1, h2⟩ | ⟨h1, h2⟩ | ⟨h1, h2⟩
  · exact (h.irrefl h2).elim
  · exact h1
  · exact (h.asymm h2).elim
theorem compare_gt {p q : Px} (h : LT (key q) (key p)) : p.compare q = 1 := by
  rw [compare_swap, compare_lt h]; rfl
theorem compare_eq {p q : Px} (h : ∀ i, i < 18 → key p i = key q i) : p.compare q = 0 := by
  rcases compare_cases p q with ⟨h1, h2⟩ | ⟨h1, h2⟩ | ⟨h1, h2⟩
  · exact h1
  · exact (h2.irrefl h).elim
  · exact (h2.irrefl fun i hi => (h i hi).symm).elim
theorem keys_to {p q : Px} {i : Nat} (h6 : p.six = q.six) (h : ∀ j, j < i → p.A.getD j 0 = q.A.getD j 0) (hi : i ≤ 16) : ∀ j, j < 1 + i → key p j = key q j := by
  intro j hj
  by_cases h0 : j = 0
  · subst h0; rw [key_kind, key_kind, h6]
  · obtain ⟨k, rfl⟩ : ∃ k, j = k + 1 := ⟨j - 1, by omega⟩
    rw [key_byte _ _ (by omega), key_byte _ _ (by omega), h k (by omega)]
theorem lt_byte {p q : Px} {i : Nat} (h6 : p.six = q.six) (h : ∀ j, j < i → p.A.getD j 0 = q.A.getD j 0) (hi : i < 16) (hl : p.A.getD i 0 < q.A.getD i 0) : LT (key p) (key q) :=
  ⟨i + 1, by omega, fun j hj => keys_to h6 h (by omega) j (by omega), by rw [key_byte _ _ hi, key_byte _ _ hi]; omega⟩
theorem lt_len {p q : Px} (h6 : p.six = q.six) (h : ∀ j, j < 16 → p.A.getD j 0 = q.A.getD j 0) (hl : p.n < q.n) : LT (key p) (key q) :=
  ⟨17, by omega, fun j hj => keys_to h6 h (by omega) j (by omega), by rw [key_len, key_len]; exact hl⟩
theorem eq_len {p q : Px} (h6 : p.six = q.six) (h : ∀ j, j < 16 → p.A.getD j 0 = q.A.getD j 0) (hl : p.n = q.n) : ∀ i, i < 18 → key p i = key q i := by
  intro i hi
  by_cases h17 : i = 17
  · subst h17; rw [key_len, key_len, hl]
  · exact keys_to h6 h (by omega) i (by omega)
theorem compare_kinds {p q : Px} (h : p.six ≠ q.six) : p.compare q = if q.six then -1 else 1 := by
  cases h2 : q.six with
  | true =>
    have h1 : p.six = false := by cases e : p.six with
      | false => rfl
      | true => rw [e, h2] at h; exact absurd rfl h
    rw [if_pos rfl]
    exact compare_lt ⟨0, by omega, fun j hj => by omega, by rw [key_kind, key_kind, h1, h2]; decide⟩
  | false =>
    have h1 : p.six = true := by cases e : p.six with
      | true => rfl
      | false => rw [e, h2] at h; exact absurd rfl h
    rw [if_neg (by decide)]
    exact compare_gt ⟨0, by omega, fun j hj => by omega, by rw [key_kind, key_kind, h1, h2]; decide⟩
set_option maxRecDepth 100000 in
set_option maxHeartbeats 8000000 in
theorem RCompare_calls (w : World) (p q : Px) (hp : p.wf) (hq : q.wf) : Calls Tryd.prog 23 #[.agg p.row, .agg q.row] w fun e w' => e = .returned (.int .i64 (p.compare q)) ∧ Below w.heap.size w w' := by
  obtain ⟨h1, h2, hb0⟩ := PxAt.new2 w p q hp.len hq.len
  have HB0 := Lib.hid hb0; have H1 := Lib.hid h1; have H2 := Lib.hid h2; clear hb0 h1 h2
  obtain ⟨rr, hrr⟩ : ∃ rr, rr = p.compare q := ⟨_, rfl⟩
  rw [← hrr]
  have HRR := Lib.hid hrr; clear hrr
  have sp := hp.small
  have sq := hq.small
  by_cases e3 : p.six = q.six
  · have d3 : (!p.six == q.six) = false := by simpa using e3
    have E3 := Lib.hid e3; clear e3
    go_enter Tryd.func23, Tryd.ntmps23
    have k1 := H1.out.six
    have k2 := H2.out.six
    go_wp2_with fail
    clear k1 k2
    generalize (w.alloc (.cells p.row 30)).alloc (.cells q.row 30) = w1 at *
    go_loopw [5] (fun s wr => ∃ j : Nat, s = .int .i64 j ∧ j ≤ 16 ∧ Hid (Below w.heap.size w wr) ∧ Hid (PxAt w.heap.size p wr) ∧ Hid (PxAt (w.heap.size + 1) q wr) ∧ Hid (∀ i, i < j → p.A.getD i 0 = q.A.getD i 0)) (fun s _ => 16 - (intOf s).toNat)
    case atStart => exact ⟨0, rfl, by omega, HB0, H1, H2, Lib.hid (fun i h => by omega)⟩
    case round =>
      clear HB0 H1 H2
      obtain ⟨wo, rfl⟩ : ∃ wo : World, wo = wr := ⟨_, rfl⟩
      obtain ⟨j, rfl, hj, hb, hp1, hp2, hall⟩ := hrel
      by_cases hlt : j < 16
      · have hjI : (j : Int) < 16 := by omega
        have c1 := hp1.out.byte j hlt
        have c2 := hp2.out.byte j hlt
        have xs := sp j
        have ys := sq j
        have HLT := Lib.hid (fun (h : p.A.getD j 0 < q.A.getD j 0) => compare_lt (lt_byte E3.out hall.out hlt h))
        have HGT := Lib.hid (fun (h : q.A.getD j 0 < p.A.getD j 0) => compare_gt (lt_byte E3.out.symm (fun i hi => (hall.out i hi).symm) hlt h))
        have HEQ := Lib.hid (fun (h : p.A.getD j 0 = q.A.getD j 0) => (fun (i : Nat) (hi : i < j + 1) => (if h2 : i = j then h2 ▸ h else hall.out i (by omega) : p.A.getD i 0 = q.A.getD i 0)))
        generalize p.A.getD j 0 = x at *
        generalize q.A.getD j 0 = y at *
        have k1 := cell_regrown c1
        have k2 := cell_regrown c2
        by_cases hxy : x < y
        · have d1 : decide ((x : Int) < (y : Int)) = true := decide_eq_true (by omega)
          have d1n : decide (x < y) = true := decide_eq_true hxy
          have HR := Lib.hid (HRR.out.trans (HLT.out hxy))
          clear hxy
          go_wp2_with fail
          refine Lib.wp_region_made 9 (fun _ => none) (by kernel_rfl) (by kernel_rfl) Lib.stabP_none ?_
          simp only [List.take_succ_cons, List.take_zero, List.drop_succ_cons, List.drop_zero]
          repeat (first | (refine Lib.wpML_step (by rfl) (fun K hK => ?_); go_simp; (refine hK _ ?_; clear hK K)))
          refine Lib.wpML_nil ?_
          intro w2 hw2 _
          have hb2 := Lib.Behind.below hw2
          have HB2 := Lib.hid (bn hb.out hb2)
          clear hw2
          clear k1 k2 hb2
          go_wp2
          go_ret
          exact ⟨by rw [HR.out]; rfl, HB2.out⟩
        · have d1 : decide ((x : Int) < (y : Int)) = false := decide_eq_false (by omega)
          have d1n : decide (x < y) = false := decide_eq_false hxy
          by_cases hyx : y < x
          · have d2 : decide ((y : Int) < (x : Int)) = true := decide_eq_true (by omega)
            have d2n : decide (y < x) = true := decide_eq_true hyx
            have HR := Lib.hid (HRR.out.trans (HGT.out hyx))
            clear hxy hyx
            go_wp2_with fail
            refine Lib.wp_region_made 9 (fun _ => none) (by kernel_rfl) (by kernel_rfl) Lib.stabP_none ?_
            simp only [List.take_succ_cons, List.take_zero, List.drop_succ_cons, List.drop_zero]
            repeat (first | (refine Lib.wpML_step (by rfl) (fun K hK => ?_); go_simp; (refine hK _ ?_; clear hK K)))
            refine Lib.wpML_nil ?_
            intro w2 hw2 _
            have hb2 := Lib.Behind.below hw2
            have HB2 := Lib.hid (bn hb.out hb2)
            clear hw2
            have HC1 := (hb2.cell (World.block_lt_of_cell? _ _ c1)).trans c1; have HC2 := (hb2.cell (World.block_lt_of_cell? _ _ c2)).trans c2
            have HP1 := Lib.hid (hp1.out.b hb2); have HP2 := Lib.hid (hp2.out.b hb2)
            clear k1 k2 c1 c2 hb hp1 hp2 hb2
            have k1 := cell_regrown HC1
            have k2 := cell_regrown HC2
            clear HC1 HC2
            go_wp2_with fail
            refine Lib.wp_region_made 9 (fun _ => none) (by kernel_rfl) (by kernel_rfl) Lib.stabP_none ?_
            simp only [List.take_succ_cons, List.take_zero, List.drop_succ_cons, List.drop_zero]
            repeat (first | (refine Lib.wpML_step (by rfl) (fun K hK => ?_); go_simp; (refine hK _ ?_; clear hK K)))
            refine Lib.wpML_nil ?_
            intro w3 hw3 _
            have hb3 := Lib.Behind.below hw3
            have HB3 := Lib.hid (bn HB2.out hb3)
            clear hw3
            clear k1 k2 hb3
            go_wp2
            go_ret
            exact ⟨by rw [HR.out]; rfl, HB3.out⟩
          · have d2 : decide ((y : Int) < (x : Int)) = false := decide_eq_false (by omega)
            have d2n : decide (y < x) = false := decide_eq_false hyx
            have hxye : x = y := by omega
            have HALL := Lib.hid (HEQ.out hxye)
            clear hxy hyx hxye
            go_wp2_with fail
            refine Lib.wp_region_made 9 (fun _ => none) (by kernel_rfl) (by kernel_rfl) Lib.stabP_none ?_
            simp only [List.take_succ_cons, List.take_zero, List.drop_succ_cons, List.drop_zero]
            repeat (first | (refine Lib.wpML_step (by rfl) (fun K hK => ?_); go_simp; (refine hK _ ?_; clear hK K)))
            refine Lib.wpML_nil ?_
            intro w2 hw2 _
            have hb2 := Lib.Behind.below hw2
            have HB2 := Lib.hid (bn hb.out hb2)
            clear hw2
            have HC1 := (hb2.cell (World.block_lt_of_cell? _ _ c1)).trans c1; have HC2 := (hb2.cell (World.block_lt_of_cell? _ _ c2)).trans c2
            have HP1 := Lib.hid (hp1.out.b hb2); have HP2 := Lib.hid (hp2.out.b hb2)
            clear k1 k2 c1 c2 hb hp1 hp2 hb2
            have k1 := cell_regrown HC1
            have k2 := cell_regrown HC2
            clear HC1 HC2
            go_wp2_with fail
            refine Lib.wp_region_made 9 (fun _ => none) (by kernel_rfl) (by kernel_rfl) Lib.stabP_none ?_
            simp only [List.take_succ_cons, List.take_zero, List.drop_succ_cons, List.drop_zero]
            repeat (first | (refine Lib.wpML_step (by rfl) (fun K hK => ?_); go_simp; (refine hK _ ?_; clear hK K)))
            refine Lib.wpML_nil ?_
            intro w3 hw3 _
            have hb3 := Lib.Behind.below hw3
            have HB3 := Lib.hid (bn HB2.out hb3)
            clear hw3
            have HP3 := Lib.hid (HP1.out.b hb3); have HP4 := Lib.hid (HP2.out.b hb3)
            clear k1 k2 hb3
            go_wp2
            exact ⟨⟨j + 1, by go_num, by omega, HB3, HP3, HP4, HALL⟩, by simp only [intOf]; omega⟩
      · obtain rfl : j = 16 := by omega
        have c1 := hp1.out.len
        have c2 := hp2.out.len
        rcases Int.lt_trichotomy p.n q.n with hl | hl | hl
        · have HR := Lib.hid (HRR.out.trans (compare_lt (lt_len E3.out hall.out hl)))
          have d1 : decide (p.n < q.n) = true := decide_eq_true hl
          go_wp2
          go_ret
          exact ⟨by rw [HR.out]; rfl, hb.out⟩
        · have HR := Lib.hid (HRR.out.trans (compare_eq (eq_len E3.out hall.out hl)))
          have d1 : decide (p.n < q.n) = false := decide_eq_false (by omega)
          have d2 : decide (q.n < p.n) = false := decide_eq_false (by omega)
          clear hl
          go_wp2
          go_ret
          exact ⟨by rw [HR.out]; rfl, hb.out⟩
        · have HR := Lib.hid (HRR.out.trans (compare_gt (lt_len E3.out.symm (fun i hi => (hall.out i hi).symm) hl)))
          have d1 : decide (p.n < q.n) = false := decide_eq_false (by omega)
          have d2 : decide (q.n < p.n) = true := decide_eq_true hl
          go_wp2
          go_ret
          exact ⟨by rw [HR.out]; rfl, hb.out⟩
  · skip
    have hk := compare_kinds e3
    have HK := Lib.hid hk; clear hk
    cases h2 : q.six with
    | true =>
      have h1 : p.six = false := by cases e : p.six with
        | false => rfl
        | true => rw [e, h2] at e3; exact absurd rfl e3
      have k1 := H1.out.six
      have k2 := H2.out.six
      rw [h1] at k1
      rw [h2] at k2
      have HR := Lib.hid (HRR.out.trans (HK.out.trans (show (if q.six then (-1 : Int) else 1) = -1 by rw [h2]; rfl)))
      clear h1 h2 e3
      go_enter Tryd.func23, Tryd.ntmps23
      go_wp2
      go_ret
      exact ⟨by rw [HR.out]; rfl, HB0.out⟩
    | false =>
      have h1 : p.six = true := by cases e : p.six with
        | true => rfl
        | false => rw [e, h2] at e3; exact absurd rfl e3
      have k1 := H1.out.six
      have k2 := H2.out.six
      rw [h1] at k1
      rw [h2] at k2
      have HR := Lib.hid (HRR.out.trans (HK.out.trans (show (if q.six then (-1 : Int) else 1) = 1 by rw [h2]; rfl)))
      clear h1 h2 e3
      go_enter Tryd.func23, Tryd.ntmps23
      go_wp2
      go_ret
      exact ⟨by rw [HR.out]; rfl, HB0.out⟩
end Go.Proofs.YtmccnmccegbdjaaDoor
