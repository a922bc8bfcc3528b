/- The reference's Contains. (Printed by wip/print/pfxrcon.py.) -/
import Derived.Test.YtmccnmccegbdjaaDoorPfxRCmp
namespace Go.Proofs.YtmccnmccegbdjaaDoor
open Go.RowKit Go.Sort
set_option linter.unusedVariables false
set_option linter.unusedSimpArgs false
theorem cmn_ex (A B : List Nat) : ∀ m : Nat, ∃ k, k ≤ m ∧ (∀ j, j < k → bitN A j = bitN B j) ∧ (k = m ∨ bitN A k ≠ bitN B k)
  | 0 => ⟨0, Nat.le_refl _, fun j hj => by omega, .inl rfl⟩
  | m + 1 => by
    obtain ⟨k, h1, h2, h3⟩ := cmn_ex A B m
    by_cases h4 : bitN A k = bitN B k
    · rcases h3 with rfl | h3
      · exact ⟨k + 1, Nat.le_refl _, fun j hj => by
          by_cases hjk : j = k
          · subst hjk; exact h4
          · exact h2 j (by omega), .inl rfl⟩
      · exact absurd h4 h3
    · exact ⟨k, by omega, h2, .inr h4⟩
theorem byte_sum : ∀ x : Fin 256, ∀ l : Fin 9, mk1 ((l.val : Nat) : Int) x.val = ((List.range l.val).map fun t => x.val / 2 ^ (7 - t) % 2 * 2 ^ (7 - t)).sum := by decide +kernel
theorem mask_same (A B : List Nat) (hA : A.length = 16) (hB : B.length = 16) (sA : ∀ i, A.getD i 0 < 256) (sB : ∀ i, B.getD i 0 < 256) (n : Nat) (h : ∀ i, i < n → i < 128 → bitN A i = bitN B i) : maskL A n = maskL B n := by
  apply list_ext_getD
  · rw [mask_len, mask_len, hA, hB]
  · intro j hj
    rw [mask_len, hA] at hj
    rw [mask_get A n j hA hj, mask_get B n j hB hj, mk1_clamp, mk1_clamp]
    have e1 := byte_sum ⟨A.getD j 0, sA j⟩ ⟨min (n - 8 * j) 8, by omega⟩
    have e2 := byte_sum ⟨B.getD j 0, sB j⟩ ⟨min (n - 8 * j) 8, by omega⟩
    simp only at e1 e2
    rw [e1, e2]
    congr 1
    apply List.map_congr_left
    intro t ht
    rw [List.mem_range] at ht
    have := h (8 * j + t) (by omega) (by omega)
    unfold bitN at this
    rw [show (8 * j + t) / 8 = j by omega, show (8 * j + t) % 8 = t by omega] at this
    rw [this]
theorem contains_common {p q : Px} (hp : p.wf) (hq : q.wf) (h1 : p.right = true) (h2 : q.right = true) : decide (p.common q = p.n) = p.contains q := by
  obtain ⟨n, hn, hn2⟩ := Px.right_n h1
  obtain ⟨m, hm, hm2⟩ := Px.right_n h2
  have hw := widthN_le p.six
  have hw2 := widthN_le q.six
  have hmA : maskL p.A n = p.A := by
    unfold Px.right at h1
    rw [hn] at h1
    simp only [Bool.and_eq_true, decide_eq_true_eq] at h1
    exact h1.2
  by_cases h6 : p.six = q.six
  · have e1 : p.common q = ((cmnN p.A q.A (min n m) : Nat) : Int) := by unfold Px.common; rw [h1, h2, hn, hm, decide_eq_true h6]; rfl
    have e2 : p.contains q = (decide (n ≤ m) && decide (maskL q.A n = p.A)) := by
      unfold Px.contains; rw [h1, h2, hn, hm, decide_eq_true h6]
      have : decide ((n : Int) ≤ (m : Int)) = decide (n ≤ m) := by simp
      rw [this]; rfl
    rw [e1, e2, hn]
    obtain ⟨k, k1, k2, k3⟩ := cmn_ex p.A q.A (min n m)
    rw [cmnN_at p.A q.A (min n m) k k2 k1 k3]
    by_cases hk : k = n
    · subst hk
      have : maskL q.A k = p.A := by rw [← hmA]; exact (mask_same p.A q.A hp.len hq.len hp.small hq.small k (fun i h _ => k2 i h)).symm.trans (by rw [hmA])
      rw [decide_eq_true (show ((k : Nat) : Int) = k from rfl), decide_eq_true (show k ≤ m by omega), decide_eq_true this]; rfl
    · rw [decide_eq_false (show ¬ ((k : Nat) : Int) = n by omega)]
      by_cases hnm : n ≤ m
      · have : ¬ maskL q.A n = p.A := fun h => by
          rcases k3 with h3 | h3
          · omega
          · apply h3
            rw [← h, mask_bit q.A hq.len hq.small n k (by omega) (by omega)]
        rw [decide_eq_false this, Bool.and_false]
      · rw [decide_eq_false hnm]; rfl
  · have e1 : p.common q = -1 := by unfold Px.common; rw [h1, h2, decide_eq_false h6]; rfl
    have e2 : p.contains q = false := by unfold Px.contains; rw [h1, h2, decide_eq_false h6]; rfl
    rw [e1, e2, hn]
    exact decide_eq_false (by omega)
set_option maxRecDepth 100000 in
set_option maxHeartbeats 8000000 in
theorem RContains_calls (w : World) (p q : Px) (hp : p.wf) (hq : q.wf) : Calls Tryd.prog 25 #[.agg p.row, .agg q.row] w fun e w' => e = .returned (.bool (p.contains q)) ∧ Below w.heap.size w w' := by
  obtain ⟨h1, h2, hb0⟩ := PxAt.new2 w p q hp.len hq.len
  have HB0 := Lib.hid hb0; have H1 := Lib.hid h1; have H2 := Lib.hid h2; clear hb0 h1 h2
  obtain ⟨rr, hrr⟩ : ∃ rr, rr = p.contains q := ⟨_, rfl⟩
  rw [← hrr]
  have HRR := Lib.hid hrr; clear hrr
  have HCC := Lib.hid (@contains_common p q hp hq)
  have cp := fun w => RRight_calls w p hp
  have cq := fun w => RRight_calls w q hq
  have cc := fun w => RCommon_calls w p q hp hq
  obtain ⟨x, hx⟩ : ∃ x, p.common q = x := ⟨_, rfl⟩
  rw [hx] at cc HCC
  clear hx
  cases e1 : p.right with
  | false =>
    rw [e1] at cp
    have HR := Lib.hid (HRR.out.trans (show p.contains q = false by unfold Px.contains; rw [e1]; rfl))
    clear e1
    have CP := Lib.hid cp; have CQ := Lib.hid cq; have CC := Lib.hid cc
    clear cp cq cc HCC HRR
    go_enter Tryd.func25, Tryd.ntmps25
    go_wp2_with fail
    generalize (w.alloc (.cells p.row 30)).alloc (.cells q.row 30) = w1 at *
    have k1 := cell_regrown H1.out.len
    have cP : ∀ d os, Calls Tryd.prog 16 #[.agg p.row] (Sort.grow (redrawn w1 d) os) fun e w'' => e = .returned (.bool false) ∧ Lib.Grows (Sort.grow (redrawn w1 d) os) w'' := fun d os => Lib.Calls.grows_of (CP.out _)
    have cQ : ∀ d os, Calls Tryd.prog 16 #[.agg q.row] (Sort.grow (redrawn w1 d) os) fun e w'' => e = .returned (.bool q.right) ∧ Lib.Grows (Sort.grow (redrawn w1 d) os) w'' := fun d os => Lib.Calls.grows_of (CQ.out _)
    have cC : ∀ d os, Calls Tryd.prog 27 #[.agg p.row, .agg q.row] (Sort.grow (redrawn w1 d) os) fun e w'' => e = .returned (.int .i64 x) ∧ Lib.Grows (Sort.grow (redrawn w1 d) os) w'' := fun d os => Lib.Calls.grows_of (CC.out _)
    clear CP CQ CC
    refine Lib.wp_region_made 15 (fun _ => none) (by kernel_rfl) (by kernel_rfl) Lib.stabP_none ?_
    simp only [List.take_succ_cons, List.take_zero, List.drop_succ_cons, List.drop_zero]
    repeat (first | refine Lib.wpML_val _ (by rfl) (by rfl) (fun w' hw' => exec_load_whole rfl rfl (H1.out.b hw')) ?_ | refine Lib.wpML_val _ (by rfl) (by rfl) (fun w' hw' => exec_load_whole rfl rfl (H2.out.b hw')) ?_ | (refine Lib.wpML_step (by rfl) (fun K hK => ?_); go_simp; first | (refine hK _ ?_; clear hK K) | (apply Exists.intro; refine ⟨fun _ => ?_, hK _ ?_⟩; (first | (refine ⟨?_, by with_reducible exact cP _ _⟩; exact Lib.noInit (by kernel_rfl)) | (refine ⟨?_, by with_reducible exact cQ _ _⟩; exact Lib.noInit (by kernel_rfl)) | (refine ⟨?_, by with_reducible exact cC _ _⟩; exact Lib.noInit (by kernel_rfl))); clear hK K)))
    refine Lib.wpML_nil ?_
    intro w2 hw2 _
    have hb2 := Lib.Behind.below hw2
    have HB2 := Lib.hid (bn HB0.out hb2)
    clear hw2
    clear k1 cP cQ cC hb2
    go_wp2
    go_ret
    exact ⟨by rw [HR.out]; rfl, HB2.out⟩
  | true =>
    rw [e1] at cp
    cases e2 : q.right with
    | false =>
      rw [e2] at cq
      have HR := Lib.hid (HRR.out.trans (show p.contains q = false by unfold Px.contains; rw [e1, e2]; rfl))
      clear e1 e2
      have CP := Lib.hid cp; have CQ := Lib.hid cq; have CC := Lib.hid cc
      clear cp cq cc HCC HRR
      go_enter Tryd.func25, Tryd.ntmps25
      go_wp2_with fail
      generalize (w.alloc (.cells p.row 30)).alloc (.cells q.row 30) = w1 at *
      have k1 := cell_regrown H1.out.len
      have cP : ∀ d os, Calls Tryd.prog 16 #[.agg p.row] (Sort.grow (redrawn w1 d) os) fun e w'' => e = .returned (.bool true) ∧ Lib.Grows (Sort.grow (redrawn w1 d) os) w'' := fun d os => Lib.Calls.grows_of (CP.out _)
      have cQ : ∀ d os, Calls Tryd.prog 16 #[.agg q.row] (Sort.grow (redrawn w1 d) os) fun e w'' => e = .returned (.bool false) ∧ Lib.Grows (Sort.grow (redrawn w1 d) os) w'' := fun d os => Lib.Calls.grows_of (CQ.out _)
      have cC : ∀ d os, Calls Tryd.prog 27 #[.agg p.row, .agg q.row] (Sort.grow (redrawn w1 d) os) fun e w'' => e = .returned (.int .i64 x) ∧ Lib.Grows (Sort.grow (redrawn w1 d) os) w'' := fun d os => Lib.Calls.grows_of (CC.out _)
      clear CP CQ CC
      refine Lib.wp_region_made 15 (fun _ => none) (by kernel_rfl) (by kernel_rfl) Lib.stabP_none ?_
      simp only [List.take_succ_cons, List.take_zero, List.drop_succ_cons, List.drop_zero]
      repeat (first | refine Lib.wpML_val _ (by rfl) (by rfl) (fun w' hw' => exec_load_whole rfl rfl (H1.out.b hw')) ?_ | refine Lib.wpML_val _ (by rfl) (by rfl) (fun w' hw' => exec_load_whole rfl rfl (H2.out.b hw')) ?_ | (refine Lib.wpML_step (by rfl) (fun K hK => ?_); go_simp; first | (refine hK _ ?_; clear hK K) | (apply Exists.intro; refine ⟨fun _ => ?_, hK _ ?_⟩; (first | (refine ⟨?_, by with_reducible exact cP _ _⟩; exact Lib.noInit (by kernel_rfl)) | (refine ⟨?_, by with_reducible exact cQ _ _⟩; exact Lib.noInit (by kernel_rfl)) | (refine ⟨?_, by with_reducible exact cC _ _⟩; exact Lib.noInit (by kernel_rfl))); clear hK K)))
      refine Lib.wpML_nil ?_
      intro w2 hw2 _
      have hb2 := Lib.Behind.below hw2
      have HB2 := Lib.hid (bn HB0.out hb2)
      clear hw2
      clear k1 cP cQ cC hb2
      go_wp2
      go_ret
      exact ⟨by rw [HR.out]; rfl, HB2.out⟩
    | true =>
      rw [e2] at cq
      have HR := Lib.hid (HRR.out.trans (HCC.out e1 e2).symm)
      clear e1 e2
      by_cases hxn : x = p.n
      · have HR2 := HR
        clear HR
        have HR := Lib.hid (HR2.out.trans (decide_eq_true hxn))
        have hxe : (x == p.n) = true := by simpa using hxn
        clear HR2 hxn
        have CP := Lib.hid cp; have CQ := Lib.hid cq; have CC := Lib.hid cc
        clear cp cq cc HCC HRR
        go_enter Tryd.func25, Tryd.ntmps25
        go_wp2_with fail
        generalize (w.alloc (.cells p.row 30)).alloc (.cells q.row 30) = w1 at *
        have k1 := cell_regrown H1.out.len
        have cP : ∀ d os, Calls Tryd.prog 16 #[.agg p.row] (Sort.grow (redrawn w1 d) os) fun e w'' => e = .returned (.bool true) ∧ Lib.Grows (Sort.grow (redrawn w1 d) os) w'' := fun d os => Lib.Calls.grows_of (CP.out _)
        have cQ : ∀ d os, Calls Tryd.prog 16 #[.agg q.row] (Sort.grow (redrawn w1 d) os) fun e w'' => e = .returned (.bool true) ∧ Lib.Grows (Sort.grow (redrawn w1 d) os) w'' := fun d os => Lib.Calls.grows_of (CQ.out _)
        have cC : ∀ d os, Calls Tryd.prog 27 #[.agg p.row, .agg q.row] (Sort.grow (redrawn w1 d) os) fun e w'' => e = .returned (.int .i64 x) ∧ Lib.Grows (Sort.grow (redrawn w1 d) os) w'' := fun d os => Lib.Calls.grows_of (CC.out _)
        clear CP CQ CC
        refine Lib.wp_region_made 15 (fun _ => none) (by kernel_rfl) (by kernel_rfl) Lib.stabP_none ?_
        simp only [List.take_succ_cons, List.take_zero, List.drop_succ_cons, List.drop_zero]
        repeat (first | refine Lib.wpML_val _ (by rfl) (by rfl) (fun w' hw' => exec_load_whole rfl rfl (H1.out.b hw')) ?_ | refine Lib.wpML_val _ (by rfl) (by rfl) (fun w' hw' => exec_load_whole rfl rfl (H2.out.b hw')) ?_ | (refine Lib.wpML_step (by rfl) (fun K hK => ?_); go_simp; first | (refine hK _ ?_; clear hK K) | (apply Exists.intro; refine ⟨fun _ => ?_, hK _ ?_⟩; (first | (refine ⟨?_, by with_reducible exact cP _ _⟩; exact Lib.noInit (by kernel_rfl)) | (refine ⟨?_, by with_reducible exact cQ _ _⟩; exact Lib.noInit (by kernel_rfl)) | (refine ⟨?_, by with_reducible exact cC _ _⟩; exact Lib.noInit (by kernel_rfl))); clear hK K)))
        refine Lib.wpML_nil ?_
        intro w2 hw2 _
        have hb2 := Lib.Behind.below hw2
        have HB2 := Lib.hid (bn HB0.out hb2)
        clear hw2
        clear k1 cP cQ cC hb2
        go_wp2
        go_ret
        exact ⟨by rw [HR.out]; rfl, HB2.out⟩
      · have HR2 := HR
        clear HR
        have HR := Lib.hid (HR2.out.trans (decide_eq_false hxn))
        have hxe : (x == p.n) = false := by simpa using hxn
        clear HR2 hxn
        have CP := Lib.hid cp; have CQ := Lib.hid cq; have CC := Lib.hid cc
        clear cp cq cc HCC HRR
        go_enter Tryd.func25, Tryd.ntmps25
        go_wp2_with fail
        generalize (w.alloc (.cells p.row 30)).alloc (.cells q.row 30) = w1 at *
        have k1 := cell_regrown H1.out.len
        have cP : ∀ d os, Calls Tryd.prog 16 #[.agg p.row] (Sort.grow (redrawn w1 d) os) fun e w'' => e = .returned (.bool true) ∧ Lib.Grows (Sort.grow (redrawn w1 d) os) w'' := fun d os => Lib.Calls.grows_of (CP.out _)
        have cQ : ∀ d os, Calls Tryd.prog 16 #[.agg q.row] (Sort.grow (redrawn w1 d) os) fun e w'' => e = .returned (.bool true) ∧ Lib.Grows (Sort.grow (redrawn w1 d) os) w'' := fun d os => Lib.Calls.grows_of (CQ.out _)
        have cC : ∀ d os, Calls Tryd.prog 27 #[.agg p.row, .agg q.row] (Sort.grow (redrawn w1 d) os) fun e w'' => e = .returned (.int .i64 x) ∧ Lib.Grows (Sort.grow (redrawn w1 d) os) w'' := fun d os => Lib.Calls.grows_of (CC.out _)
        clear CP CQ CC
        refine Lib.wp_region_made 15 (fun _ => none) (by kernel_rfl) (by kernel_rfl) Lib.stabP_none ?_
        simp only [List.take_succ_cons, List.take_zero, List.drop_succ_cons, List.drop_zero]
        repeat (first | refine Lib.wpML_val _ (by rfl) (by rfl) (fun w' hw' => exec_load_whole rfl rfl (H1.out.b hw')) ?_ | refine Lib.wpML_val _ (by rfl) (by rfl) (fun w' hw' => exec_load_whole rfl rfl (H2.out.b hw')) ?_ | (refine Lib.wpML_step (by rfl) (fun K hK => ?_); go_simp; first | (refine hK _ ?_; clear hK K) | (apply Exists.intro; refine ⟨fun _ => ?_, hK _ ?_⟩; (first | (refine ⟨?_, by with_reducible exact cP _ _⟩; exact Lib.noInit (by kernel_rfl)) | (refine ⟨?_, by with_reducible exact cQ _ _⟩; exact Lib.noInit (by kernel_rfl)) | (refine ⟨?_, by with_reducible exact cC _ _⟩; exact Lib.noInit (by kernel_rfl))); clear hK K)))
        refine Lib.wpML_nil ?_
        intro w2 hw2 _
        have hb2 := Lib.Behind.below hw2
        have HB2 := Lib.hid (bn HB0.out hb2)
        clear hw2
        clear k1 cP cQ cC hb2
        go_wp2
        go_ret
        exact ⟨by rw [HR.out]; rfl, HB2.out⟩
end Go.Proofs.YtmccnmccegbdjaaDoor
