/- The walks of prefix: kind, Contains, Bit. (Printed by wip/print/pfxmore.py.) -/
import Derived.Test.YtmccnmccegbdjaaDoorPfxRight
namespace Go.Proofs.YtmccnmccegbdjaaDoor
open Go.RowKit Go.Sort
set_option linter.unusedVariables false
set_option linter.unusedSimpArgs false
def kindN (b : Bool) : Nat := if b then 1 else 0
theorem PxAt.new2 (w : World) (p q : Px) (hp : p.A.length = 16) (hq : q.A.length = 16) : PxAt w.heap.size p ((w.alloc (.cells p.row 30)).alloc (.cells q.row 30)) ∧ PxAt (w.heap.size + 1) q ((w.alloc (.cells p.row 30)).alloc (.cells q.row 30)) ∧ Below w.heap.size w ((w.alloc (.cells p.row 30)).alloc (.cells q.row 30)) := by
  have h1 := PxAt.new w p hp
  have h2 := PxAt.new (w.alloc (.cells p.row 30)) q hq
  rw [show (w.alloc (.cells p.row 30)).heap.size = w.heap.size + 1 by simp] at h2
  exact ⟨h1.b ((Below.refl _ _).alloc (Nat.le_refl _) _), h2, ((Below.refl w.heap.size w).alloc (Nat.le_refl _) _).alloc (by simp) _⟩
set_option maxRecDepth 100000 in
theorem kind_calls (w : World) (p : Px) (hp : p.A.length = 16) : Calls Tryd.prog 38 #[.agg p.row] w fun e w' => e = .returned (.int .i64 (kindN p.six : Nat)) ∧ Below w.heap.size w w' := by
  have hb0 := (Below.refl w.heap.size w).alloc (Nat.le_refl _) (.cells p.row 30)
  have c0 := (PxAt.new w p hp).six
  have HB0 := Lib.hid hb0; clear hb0
  generalize p.six = s at *
  cases s
  · go_enter Tryd.func38, Tryd.ntmps38
    go_wp2
    go_ret
    exact ⟨rfl, HB0.out⟩
  · go_enter Tryd.func38, Tryd.ntmps38
    go_wp2
    go_ret
    exact ⟨rfl, HB0.out⟩
/-- Whether all of q is p's. -/
def Px.contains (p q : Px) : Bool := p.right && (q.right && (decide (p.six = q.six) && (decide (p.n ≤ q.n) && decide (maskL q.A p.n = p.A))))
theorem Px.right_n {p : Px} (h : p.right = true) : ∃ n : Nat, p.n = n ∧ n ≤ widthN p.six := by
  unfold Px.right at h
  simp only [Bool.and_eq_true, decide_eq_true_eq] at h
  exact ⟨p.n.toNat, by omega, by omega⟩
theorem widthN_le (s : Bool) : widthN s ≤ 128 := by cases s <;> decide
set_option maxRecDepth 100000 in
set_option maxHeartbeats 4000000 in
theorem Contains_calls (w : World) (p q : Px) (hp : p.wf) (hq : q.wf) : Calls Tryd.prog 24 #[.agg p.row, .agg q.row] w fun e w' => e = .returned (.bool (p.contains q)) ∧ Below w.heap.size w w' := by
  obtain ⟨h1, h2, hb0⟩ := PxAt.new2 w p q hp.len hq.len
  have HB0 := Lib.hid hb0; have H1 := Lib.hid h1; have H2 := Lib.hid h2; clear hb0 h1 h2
  obtain ⟨rr, hrr⟩ : ∃ rr, rr = p.contains q := ⟨_, rfl⟩
  rw [← hrr]
  have HRR := Lib.hid hrr; clear hrr
  go_enter Tryd.func24, Tryd.ntmps24
  go_wp2_with fail
  generalize (w.alloc (.cells p.row 30)).alloc (.cells q.row 30) = w1 at *
  have cP : ∀ d os, Calls Tryd.prog 21 #[.agg p.row] (Sort.grow (redrawn w1 d) os) fun e w'' => e = .returned (.bool p.right) ∧ Lib.Grows (Sort.grow (redrawn w1 d) os) w'' := fun d os => Lib.Calls.grows_of (Right_calls _ p hp)
  have cQ : ∀ d os, Calls Tryd.prog 21 #[.agg q.row] (Sort.grow (redrawn w1 d) os) fun e w'' => e = .returned (.bool q.right) ∧ Lib.Grows (Sort.grow (redrawn w1 d) os) w'' := fun d os => Lib.Calls.grows_of (Right_calls _ q hq)
  have k1 := cell_regrown H1.out.six
  have k2 := cell_regrown H1.out.len
  have k3 := cell_regrown H2.out.six
  have k4 := cell_regrown H2.out.len
  have hC : p.contains q = (p.right && (q.right && (decide (p.six = q.six) && (decide (p.n ≤ q.n) && decide (maskL q.A p.n = p.A))))) := rfl
  have hmn := @Px.right_n p
  cases e1 : p.right with
  | false =>
    rw [e1] at cP hC
    have HR := Lib.hid (HRR.out.trans hC)
    clear hC hmn e1
    refine Lib.wp_region_made 31 (fun _ => none) (by kernel_rfl) (by kernel_rfl) Lib.stabP_none ?_
    simp only [List.take_succ_cons, List.take_zero, List.drop_succ_cons, List.drop_zero]
    repeat (first | refine Lib.wpML_val _ (by rfl) (by rfl) (fun w' hw' => exec_load_whole rfl rfl (H1.out.b hw')) ?_ | refine Lib.wpML_val _ (by rfl) (by rfl) (fun w' hw' => exec_load_whole rfl rfl (H2.out.b hw')) ?_ | refine Lib.wpML_val _ (by rfl) (by rfl) (fun w' hw' => exec_load_bytes rfl rfl (H1.out.b hw')) ?_ | refine Lib.wpML_val _ (by rfl) (by rfl) (fun w' hw' => exec_load_bytes rfl rfl (H2.out.b hw')) ?_ | (refine Lib.wpML_step (by rfl) (fun K hK => ?_); go_simp; first | (refine hK _ ?_; clear hK K) | (apply Exists.intro; refine ⟨fun _ => ?_, hK _ ?_⟩; (first | (refine ⟨?_, by with_reducible exact cP _ _⟩; exact Lib.noInit (by kernel_rfl))); clear hK K)))
    refine Lib.wpML_nil ?_
    intro w2 hw2 _
    have hb2 := Lib.Behind.below hw2
    have HB2 := Lib.hid (bn HB0.out hb2)
    clear hw2
    go_wp2
    go_ret
    exact ⟨by rw [HR.out]; rfl, HB2.out⟩
  | true =>
    obtain ⟨n, hn, hn2⟩ := hmn e1
    rw [e1] at cP hC
    have hw := widthN_le p.six
    have cM : ∀ d os, Calls Tryd.prog 36 #[.agg (bv q.A).toArray, .int .i64 p.n] (Sort.grow (redrawn w1 d) os) fun e w'' => e = .returned (.agg (bv (maskL q.A p.n)).toArray) ∧ Lib.Grows (Sort.grow (redrawn w1 d) os) w'' := fun d os => by
      rw [hn]; exact Lib.Calls.grows_of (masked_calls _ q.A hq.len hq.small n (by omega))
    have hE : ∀ w', (Op.equalIn 10000 28 (.agg (bv (maskL q.A p.n)).toArray) (.agg (bv p.A).toArray)).run Tryd.prog w' = .ok (decide (maskL q.A p.n = p.A)) w' := fun w' => run_eql_av w' 9998 _ _ (by unfold maskL; rw [maskTo_length]; exact hq.len) hp.len
    have hG : Tryd.prog.eqGuardType Tryd.prog.depth 28 = false := by kernel_rfl
    generalize decide (maskL q.A p.n = p.A) = z at *
    clear hmn hn hn2 hw
    cases e2 : q.right with
    | false =>
      rw [e2] at cQ hC
      have HR := Lib.hid (HRR.out.trans hC)
      clear hC e2 hE hG cM
      refine Lib.wp_region_made 31 (fun _ => none) (by kernel_rfl) (by kernel_rfl) Lib.stabP_none ?_
      simp only [List.take_succ_cons, List.take_zero, List.drop_succ_cons, List.drop_zero]
      repeat (first | refine Lib.wpML_val _ (by rfl) (by rfl) (fun w' hw' => exec_load_whole rfl rfl (H1.out.b hw')) ?_ | refine Lib.wpML_val _ (by rfl) (by rfl) (fun w' hw' => exec_load_whole rfl rfl (H2.out.b hw')) ?_ | refine Lib.wpML_val _ (by rfl) (by rfl) (fun w' hw' => exec_load_bytes rfl rfl (H1.out.b hw')) ?_ | refine Lib.wpML_val _ (by rfl) (by rfl) (fun w' hw' => exec_load_bytes rfl rfl (H2.out.b hw')) ?_ | (refine Lib.wpML_step (by rfl) (fun K hK => ?_); go_simp; first | (refine hK _ ?_; clear hK K) | (apply Exists.intro; refine ⟨fun _ => ?_, hK _ ?_⟩; (first | (refine ⟨?_, by with_reducible exact cP _ _⟩; exact Lib.noInit (by kernel_rfl)) | (refine ⟨?_, by with_reducible exact cQ _ _⟩; exact Lib.noInit (by kernel_rfl))); clear hK K)))
      refine Lib.wpML_nil ?_
      intro w2 hw2 _
      have hb2 := Lib.Behind.below hw2
      have HB2 := Lib.hid (bn HB0.out hb2)
      clear hw2
      go_wp2
      go_ret
      exact ⟨by rw [HR.out]; rfl, HB2.out⟩
    | true =>
      rw [e2] at cQ hC
      generalize p.six = s1 at *
      generalize q.six = s2 at *
      by_cases e3 : s1 = s2
      · subst e3
        have d3 : (s1 == s1) = true := by simp
        by_cases e4 : p.n ≤ q.n
        · have d4 : decide (p.n ≤ q.n) = true := decide_eq_true e4
          rw [d4] at hC
          have HR := Lib.hid ((HRR.out.trans hC).trans (show (true && (true && (decide (s1 = s1) && (true && z)))) = z by simp))
          clear hC e4
          refine Lib.wp_region_made 31 (fun _ => none) (by kernel_rfl) (by kernel_rfl) Lib.stabP_none ?_
          simp only [List.take_succ_cons, List.take_zero, List.drop_succ_cons, List.drop_zero]
          repeat (first | refine Lib.wpML_val _ (by rfl) (by rfl) (fun w' hw' => exec_load_whole rfl rfl (H1.out.b hw')) ?_ | refine Lib.wpML_val _ (by rfl) (by rfl) (fun w' hw' => exec_load_whole rfl rfl (H2.out.b hw')) ?_ | refine Lib.wpML_val _ (by rfl) (by rfl) (fun w' hw' => exec_load_bytes rfl rfl (H1.out.b hw')) ?_ | refine Lib.wpML_val _ (by rfl) (by rfl) (fun w' hw' => exec_load_bytes rfl rfl (H2.out.b hw')) ?_ | (refine Lib.wpML_step (by rfl) (fun K hK => ?_); go_simp; first | (refine hK _ ?_; clear hK K) | (apply Exists.intro; refine ⟨fun _ => ?_, hK _ ?_⟩; (first | (refine ⟨?_, by with_reducible exact cP _ _⟩; exact Lib.noInit (by kernel_rfl)) | (refine ⟨?_, by with_reducible exact cQ _ _⟩; exact Lib.noInit (by kernel_rfl)) | (refine ⟨?_, by with_reducible exact cM _ _⟩; exact Lib.noInit (by kernel_rfl))); clear hK K)))
          refine Lib.wpML_nil ?_
          intro w2 hw2 _
          have hb2 := Lib.Behind.below hw2
          have HB2 := Lib.hid (bn HB0.out hb2)
          clear hw2
          go_wp2
          go_ret
          exact ⟨by rw [HR.out]; rfl, HB2.out⟩
        · have d4 : decide (p.n ≤ q.n) = false := decide_eq_false e4
          rw [d4] at hC
          have HR := Lib.hid ((HRR.out.trans hC).trans (show (true && (true && (decide (s1 = s1) && (false && z)))) = false by simp))
          clear hC e4
          refine Lib.wp_region_made 31 (fun _ => none) (by kernel_rfl) (by kernel_rfl) Lib.stabP_none ?_
          simp only [List.take_succ_cons, List.take_zero, List.drop_succ_cons, List.drop_zero]
          repeat (first | refine Lib.wpML_val _ (by rfl) (by rfl) (fun w' hw' => exec_load_whole rfl rfl (H1.out.b hw')) ?_ | refine Lib.wpML_val _ (by rfl) (by rfl) (fun w' hw' => exec_load_whole rfl rfl (H2.out.b hw')) ?_ | refine Lib.wpML_val _ (by rfl) (by rfl) (fun w' hw' => exec_load_bytes rfl rfl (H1.out.b hw')) ?_ | refine Lib.wpML_val _ (by rfl) (by rfl) (fun w' hw' => exec_load_bytes rfl rfl (H2.out.b hw')) ?_ | (refine Lib.wpML_step (by rfl) (fun K hK => ?_); go_simp; first | (refine hK _ ?_; clear hK K) | (apply Exists.intro; refine ⟨fun _ => ?_, hK _ ?_⟩; (first | (refine ⟨?_, by with_reducible exact cP _ _⟩; exact Lib.noInit (by kernel_rfl)) | (refine ⟨?_, by with_reducible exact cQ _ _⟩; exact Lib.noInit (by kernel_rfl))); clear hK K)))
          refine Lib.wpML_nil ?_
          intro w2 hw2 _
          have hb2 := Lib.Behind.below hw2
          have HB2 := Lib.hid (bn HB0.out hb2)
          clear hw2
          go_wp2
          go_ret
          exact ⟨by rw [HR.out]; rfl, HB2.out⟩
      · have d3 : (s1 == s2) = false := by simpa using e3
        have HR := Lib.hid ((HRR.out.trans hC).trans (show (true && (true && (decide (s1 = s2) && (decide (p.n ≤ q.n) && z)))) = false by simp [e3]))
        clear hC
        refine Lib.wp_region_made 31 (fun _ => none) (by kernel_rfl) (by kernel_rfl) Lib.stabP_none ?_
        simp only [List.take_succ_cons, List.take_zero, List.drop_succ_cons, List.drop_zero]
        repeat (first | refine Lib.wpML_val _ (by rfl) (by rfl) (fun w' hw' => exec_load_whole rfl rfl (H1.out.b hw')) ?_ | refine Lib.wpML_val _ (by rfl) (by rfl) (fun w' hw' => exec_load_whole rfl rfl (H2.out.b hw')) ?_ | refine Lib.wpML_val _ (by rfl) (by rfl) (fun w' hw' => exec_load_bytes rfl rfl (H1.out.b hw')) ?_ | refine Lib.wpML_val _ (by rfl) (by rfl) (fun w' hw' => exec_load_bytes rfl rfl (H2.out.b hw')) ?_ | (refine Lib.wpML_step (by rfl) (fun K hK => ?_); go_simp; first | (refine hK _ ?_; clear hK K) | (apply Exists.intro; refine ⟨fun _ => ?_, hK _ ?_⟩; (first | (refine ⟨?_, by with_reducible exact cP _ _⟩; exact Lib.noInit (by kernel_rfl)) | (refine ⟨?_, by with_reducible exact cQ _ _⟩; exact Lib.noInit (by kernel_rfl))); clear hK K)))
        refine Lib.wpML_nil ?_
        intro w2 hw2 _
        have hb2 := Lib.Behind.below hw2
        have HB2 := Lib.hid (bn HB0.out hb2)
        clear hw2
        go_wp2
        go_ret
        exact ⟨by rw [HR.out]; rfl, HB2.out⟩
end Go.Proofs.YtmccnmccegbdjaaDoor
