/- The walk of the law PrefixBack. (Printed by wip/print/pfxback.py.) -/
import Derived.Test.YtmccnmccegbdjaaDoorPfxBackP
namespace Go.Proofs.YtmccnmccegbdjaaDoor
open Go.RowKit Go.Sort
set_option linter.unusedVariables false
set_option linter.unusedSimpArgs false
theorem list_beq (a b : ByteArray) : (a.toList == b.toList) = decide (a = b) := by
  rw [ByteArray.toList_eq, ByteArray.toList_eq, Bool.eq_iff_iff, beq_iff_eq, decide_eq_true_iff]
  constructor
  · intro h
    cases a; cases b
    simp only [ByteArray.mk.injEq]
    exact Array.toList_inj.1 h
  · rintro rfl; rfl
theorem cat_list (a b : ByteArray) : (a ++ b).data.toList = a.data.toList ++ b.data.toList := by
  rw [ByteArray.data_append]; simp
set_option maxRecDepth 100000 in
set_option maxHeartbeats 16000000 in
theorem PrefixBack_walk (p q : Px) (more : ByteArray) (hp : p.wf) (hq : q.wf) (hm : more.size ≤ 140737488351232) (w : World) (ht : Tab w) : Calls Tryd.prog 4 #[.agg p.row, .agg q.row, .string more] w fun e w' => e = .returned (.bool true) ∧ Below w.heap.size w w' := by
  obtain ⟨hh, hb0⟩ := boxes2 w p q hp.len hq.len
  have HELD := Lib.hid hh; have HB := Lib.hid hb0; have HT := Lib.hid (ht.below hb0); clear hh hb0 ht
  have cA := fun w h => awake_calls w h
  have cP := fun w => RRight_calls w p hp
  have cQ := fun w => RRight_calls w q hq
  have cBP := fun w => Bytes_calls w p hp
  have cBQ := fun w => Bytes_calls w q hq
  have cTP := fun w h => Text_calls w p hp h
  have cTQ := fun w h => Text_calls w q hq h
  have hE1 : ∀ w', (Op.equalIn 10000 30 (.agg p.row) (.agg p.row)).run Tryd.prog w' = .ok true w' := fun w' => by
    have := run_eql_px w' 9997 p p hp.len hp.len
    rw [decide_eq_true rfl] at this; exact this
  have hE2 : ∀ w', (Op.equalIn 10000 30 (.agg p.row) (.agg q.row)).run Tryd.prog w' = .ok (decide (p = q)) w' := fun w' => run_eql_px w' 9997 p q hp.len hq.len
  have hG : Tryd.prog.eqGuardType Tryd.prog.depth 30 = false := by kernel_rfl
  have HE1 := Lib.hid hE1; have HG := Lib.hid hG; clear hE1 hG
  cases e1 : p.right with
  | false =>
    rw [e1] at cP
    clear e1 hE2
    go_enter Tryd.func4, Tryd.ntmps4
    go_wp2_with fail
    generalize (w.alloc (.cells p.row 30)).alloc (.cells q.row 30) = w1 at *
    refine (cA _ HT.out).mono ?_
    rintro e wN ⟨rfl, hb⟩
    have HELD' := Lib.hid (HELD.out.b hb); have HT' := Lib.hid (HT.out.below hb); have HB' := Lib.hid (bn HB.out hb)
    clear HELD HT HB hb; have HELD := HELD'; have HT := HT'; have HB := HB'; clear HELD' HT' HB'
    go_wp2_with (with_reducible refine wpList_mark (o := ⟨some 13, _, _, _, _, _⟩) ?_)
    refine Marked.intro ?_
    refine Lib.wpList_runG (by rfl) (exec_load_whole rfl rfl (HELD.out (w.heap.size, p) (by simp))) ?_
    go_wp2_with fail
    refine (cP _).mono ?_
    rintro e wN ⟨rfl, hb⟩
    have HELD' := Lib.hid (HELD.out.b hb); have HT' := Lib.hid (HT.out.below hb); have HB' := Lib.hid (bn HB.out hb)
    clear HELD HT HB hb; have HELD := HELD'; have HT := HT'; have HB := HB'; clear HELD' HT' HB'
    go_wp2_with fail
    refine (cA _ HT.out).mono ?_
    rintro e wN ⟨rfl, hb⟩
    have HELD' := Lib.hid (HELD.out.b hb); have HT' := Lib.hid (HT.out.below hb); have HB' := Lib.hid (bn HB.out hb)
    clear HELD HT HB hb; have HELD := HELD'; have HT := HT'; have HB := HB'; clear HELD' HT' HB'
    go_wp2
    go_ret
    exact ⟨rfl, HB.out⟩

  | true =>
    rw [e1] at cP
    cases e2 : q.right with
    | false =>
      rw [e2] at cQ
      clear e1 e2 hE2
      go_enter Tryd.func4, Tryd.ntmps4
      go_wp2_with fail
      generalize (w.alloc (.cells p.row 30)).alloc (.cells q.row 30) = w1 at *
      refine (cA _ HT.out).mono ?_
      rintro e wN ⟨rfl, hb⟩
      have HELD' := Lib.hid (HELD.out.b hb); have HT' := Lib.hid (HT.out.below hb); have HB' := Lib.hid (bn HB.out hb)
      clear HELD HT HB hb; have HELD := HELD'; have HT := HT'; have HB := HB'; clear HELD' HT' HB'
      go_wp2_with (with_reducible refine wpList_mark (o := ⟨some 13, _, _, _, _, _⟩) ?_)
      refine Marked.intro ?_
      refine Lib.wpList_runG (by rfl) (exec_load_whole rfl rfl (HELD.out (w.heap.size, p) (by simp))) ?_
      go_wp2_with fail
      refine (cP _).mono ?_
      rintro e wN ⟨rfl, hb⟩
      have HELD' := Lib.hid (HELD.out.b hb); have HT' := Lib.hid (HT.out.below hb); have HB' := Lib.hid (bn HB.out hb)
      clear HELD HT HB hb; have HELD := HELD'; have HT := HT'; have HB := HB'; clear HELD' HT' HB'
      go_wp2_with (with_reducible refine wpList_mark (o := ⟨some 18, _, _, _, _, _⟩) ?_)
      refine Marked.intro ?_
      refine Lib.wpList_runG (by rfl) (exec_load_whole rfl rfl (HELD.out (w.heap.size + 1, q) (by simp))) ?_
      go_wp2_with fail
      refine (cQ _).mono ?_
      rintro e wN ⟨rfl, hb⟩
      have HELD' := Lib.hid (HELD.out.b hb); have HT' := Lib.hid (HT.out.below hb); have HB' := Lib.hid (bn HB.out hb)
      clear HELD HT HB hb; have HELD := HELD'; have HT := HT'; have HB := HB'; clear HELD' HT' HB'
      go_wp2_with fail
      refine (cA _ HT.out).mono ?_
      rintro e wN ⟨rfl, hb⟩
      have HELD' := Lib.hid (HELD.out.b hb); have HT' := Lib.hid (HT.out.below hb); have HB' := Lib.hid (bn HB.out hb)
      clear HELD HT HB hb; have HELD := HELD'; have HT := HT'; have HB := HB'; clear HELD' HT' HB'
      go_wp2
      go_ret
      exact ⟨rfl, HB.out⟩

    | true =>
      rw [e2] at cQ
      by_cases h300 : 300 < more.size
      · have d3 : decide (300 < (more.size : Int)) = true := decide_eq_true (by omega)
        clear e1 e2 h300 hE2
        go_enter Tryd.func4, Tryd.ntmps4
        go_wp2_with fail
        generalize (w.alloc (.cells p.row 30)).alloc (.cells q.row 30) = w1 at *
        refine (cA _ HT.out).mono ?_
        rintro e wN ⟨rfl, hb⟩
        have HELD' := Lib.hid (HELD.out.b hb); have HT' := Lib.hid (HT.out.below hb); have HB' := Lib.hid (bn HB.out hb)
        clear HELD HT HB hb; have HELD := HELD'; have HT := HT'; have HB := HB'; clear HELD' HT' HB'
        go_wp2_with (with_reducible refine wpList_mark (o := ⟨some 13, _, _, _, _, _⟩) ?_)
        refine Marked.intro ?_
        refine Lib.wpList_runG (by rfl) (exec_load_whole rfl rfl (HELD.out (w.heap.size, p) (by simp))) ?_
        go_wp2_with fail
        refine (cP _).mono ?_
        rintro e wN ⟨rfl, hb⟩
        have HELD' := Lib.hid (HELD.out.b hb); have HT' := Lib.hid (HT.out.below hb); have HB' := Lib.hid (bn HB.out hb)
        clear HELD HT HB hb; have HELD := HELD'; have HT := HT'; have HB := HB'; clear HELD' HT' HB'
        go_wp2_with (with_reducible refine wpList_mark (o := ⟨some 18, _, _, _, _, _⟩) ?_)
        refine Marked.intro ?_
        refine Lib.wpList_runG (by rfl) (exec_load_whole rfl rfl (HELD.out (w.heap.size + 1, q) (by simp))) ?_
        go_wp2_with fail
        refine (cQ _).mono ?_
        rintro e wN ⟨rfl, hb⟩
        have HELD' := Lib.hid (HELD.out.b hb); have HT' := Lib.hid (HT.out.below hb); have HB' := Lib.hid (bn HB.out hb)
        clear HELD HT HB hb; have HELD := HELD'; have HT := HT'; have HB := HB'; clear HELD' HT' HB'
        go_wp2_with fail
        refine (cA _ HT.out).mono ?_
        rintro e wN ⟨rfl, hb⟩
        have HELD' := Lib.hid (HELD.out.b hb); have HT' := Lib.hid (HT.out.below hb); have HB' := Lib.hid (bn HB.out hb)
        clear HELD HT HB hb; have HELD := HELD'; have HT := HT'; have HB := HB'; clear HELD' HT' HB'
        go_wp2
        go_ret
        exact ⟨rfl, HB.out⟩

      · have d3 : decide (300 < (more.size : Int)) = false := decide_eq_false (by omega)
        have rb := read_bytes hp e1 more.data.toList
        have i1 := bytes_inj hp hq e1 e2
        have i2 := text_inj hp hq e1 e2
        have bs := (bytes_size p).resolve_right (by rw [hp.len]; omega)
        obtain ⟨Z, hZ⟩ : ∃ Z, p.bytes = Z := ⟨_, rfl⟩
        obtain ⟨Y, hY⟩ : ∃ Z, q.bytes = Z := ⟨_, rfl⟩
        obtain ⟨T1, hT1⟩ : ∃ Z, p.text = Z := ⟨_, rfl⟩
        obtain ⟨T2, hT2⟩ : ∃ Z, q.text = Z := ⟨_, rfl⟩
        rw [hZ] at cBP rb i1 bs
        rw [hY] at cBQ i1
        rw [hT1] at cTP i2
        rw [hT2] at cTQ i2
        clear hZ hY hT1 hT2
        have hz : (Z.toList == Y.toList) = decide (p = q) := by rw [list_beq]; exact decide_eq_decide.2 i1
        have hu : (T1.toList == T2.toList) = decide (p = q) := by rw [list_beq]; exact decide_eq_decide.2 i2
        obtain ⟨ee, hee⟩ : ∃ e, decide (p = q) = e := ⟨_, rfl⟩
        rw [hee] at hz hu
        simp only [hee] at hE2
        obtain ⟨ZL, hZL⟩ : ∃ l, Z.data.toList = l := ⟨_, rfl⟩
        rw [hZL] at rb
        have HRB := Lib.hid hZL
        have HRD := Lib.hid rb
        have HZ := Lib.hid hz; have HU := Lib.hid hu; have HE2 := Lib.hid hE2
        have hsum : ¬ 9223372036854775807 < Z.size + more.size := by omega
        clear e1 e2 i1 i2 rb hz hu hee hE2 hZL bs h300
        cases ee with
        | false =>
          go_enter Tryd.func4, Tryd.ntmps4
          go_wp2_with fail
          generalize (w.alloc (.cells p.row 30)).alloc (.cells q.row 30) = w1 at *
          refine (cA _ HT.out).mono ?_
          rintro e wN ⟨rfl, hb⟩
          have HELD' := Lib.hid (HELD.out.b hb); have HT' := Lib.hid (HT.out.below hb); have HB' := Lib.hid (bn HB.out hb)
          clear HELD HT HB hb; have HELD := HELD'; have HT := HT'; have HB := HB'; clear HELD' HT' HB'
          go_wp2_with (with_reducible refine wpList_mark (o := ⟨some 13, _, _, _, _, _⟩) ?_)
          refine Marked.intro ?_
          refine Lib.wpList_runG (by rfl) (exec_load_whole rfl rfl (HELD.out (w.heap.size, p) (by simp))) ?_
          go_wp2_with fail
          refine (cP _).mono ?_
          rintro e wN ⟨rfl, hb⟩
          have HELD' := Lib.hid (HELD.out.b hb); have HT' := Lib.hid (HT.out.below hb); have HB' := Lib.hid (bn HB.out hb)
          clear HELD HT HB hb; have HELD := HELD'; have HT := HT'; have HB := HB'; clear HELD' HT' HB'
          go_wp2_with (with_reducible refine wpList_mark (o := ⟨some 18, _, _, _, _, _⟩) ?_)
          refine Marked.intro ?_
          refine Lib.wpList_runG (by rfl) (exec_load_whole rfl rfl (HELD.out (w.heap.size + 1, q) (by simp))) ?_
          go_wp2_with fail
          refine (cQ _).mono ?_
          rintro e wN ⟨rfl, hb⟩
          have HELD' := Lib.hid (HELD.out.b hb); have HT' := Lib.hid (HT.out.below hb); have HB' := Lib.hid (bn HB.out hb)
          clear HELD HT HB hb; have HELD := HELD'; have HT := HT'; have HB := HB'; clear HELD' HT' HB'
          go_wp2_with (with_reducible refine wpList_mark (o := ⟨some 28, _, _, _, _, _⟩) ?_)
          refine Marked.intro ?_
          refine wpList_run rfl (exec_load_whole rfl rfl (HELD.out (w.heap.size, p) (by simp))) ?_
          go_wp2_with fail
          refine (cBP _).mono ?_
          rintro e wN ⟨rfl, hb⟩
          have HELD' := Lib.hid (HELD.out.b hb); have HT' := Lib.hid (HT.out.below hb); have HB' := Lib.hid (bn HB.out hb)
          clear HELD HT HB hb; have HELD := HELD'; have HT := HT'; have HB := HB'; clear HELD' HT' HB'
          go_wp2_with fail
          refine (RdNew_calls _ _).mono ?_
          rintro e wM ⟨rfl, hr, hb1, -⟩
          rw [cat_list, HRB.out] at hr
          have hlt := HELD.out.lt
          go_wp2_with fail
          refine (Read_calls _ _ _ hr).mono ?_
          unfold ReadPost
          rw [HRD.out]
          rintro e wQ ⟨rfl, hr2, hb2⟩
          have hb := hb1.trans hb2
          have HGG : Hid (wN.heap.size < wQ.heap.size) := Lib.hid hr2.lt
          have HRR := Lib.hid hr2
          clear hr hb1 hb2 hr2 hlt
          obtain ⟨gr, hgr⟩ : ∃ g, g = wN.heap.size := ⟨_, rfl⟩
          rw [← hgr] at HRR HGG
          have HGR := Lib.hid hgr
          rw [← hgr]
          clear hgr
          have HELD' := Lib.hid (HELD.out.b hb); have HT' := Lib.hid (HT.out.below hb); have HB' := Lib.hid (bn HB.out hb)
          clear HELD HT HB hb; have HELD := HELD'; have HT := HT'; have HB := HB'; clear HELD' HT' HB'
          go_wp2_with (with_reducible refine wpList_mark (o := ⟨none, _, _, _, _, _⟩) ?_)
          rw [← zero_row]
          refine Marked.intro ?_
          refine wpList_do rfl (exec_store_px rfl rfl rfl (PxAt.new wQ Px.zero (by rfl)) hp.len) ?_
          have hh := HELD.out.store p hp.len
          have hb := below_store wQ p
          have hr3 := (HRR.out.below ((Below.refl wQ.heap.size wQ).alloc (Nat.le_refl _) (.cells Px.zero.row 30))).row_other (Nat.ne_of_lt HGG.out) p.row
          have HELD' := Lib.hid hh; have HT' := Lib.hid (HT.out.below hb); have HB' := Lib.hid (bn HB.out hb); have HR3 := Lib.hid hr3
          clear HELD HT HB hb hh HRR hr3; have HELD := HELD'; have HT := HT'; have HB := HB'; clear HELD' HT' HB'
          generalize World.setRow _ wQ.heap.size (Px.row p) = w9 at *
          generalize wQ.heap.size = b8 at *
          go_wp2_with fail
          have hE1 := HE1.out
          have hG := HG.out
          have hE2 := HE2.out
          have kL : ∀ d os, Calls Tryd.prog 15 #[.pointer (some ⟨gr, 0, none⟩)] (Sort.grow (redrawn w9 d) os) fun e w'' => e = .returned (.int .i64 (more.size : Nat)) ∧ Lib.Grows (Sort.grow (redrawn w9 d) os) w'' := fun d os => Lib.Calls.grows_of (Calls.below_of_same (Left_calls _ gr 0 more.data.toList (HR3.out.below (below_regrown w9 d os))))
          have kP : ∀ d os, Calls Tryd.prog 17 #[.agg p.row] (Sort.grow (redrawn w9 d) os) fun e w'' => e = .returned (.string Z) ∧ Lib.Grows (Sort.grow (redrawn w9 d) os) w'' := fun d os => Lib.Calls.grows_of (cBP _)
          have kQ : ∀ d os, Calls Tryd.prog 17 #[.agg q.row] (Sort.grow (redrawn w9 d) os) fun e w'' => e = .returned (.string Y) ∧ Lib.Grows (Sort.grow (redrawn w9 d) os) w'' := fun d os => Lib.Calls.grows_of (cBQ _)
          have kT : ∀ d os, Calls Tryd.prog 18 #[.agg p.row] (Sort.grow (redrawn w9 d) os) fun e w'' => e = .returned (.string T1) ∧ Lib.Grows (Sort.grow (redrawn w9 d) os) w'' := fun d os => Lib.Calls.grows_of (cTP _ (HT.out.below (below_regrown w9 d os)))
          have kU : ∀ d os, Calls Tryd.prog 18 #[.agg q.row] (Sort.grow (redrawn w9 d) os) fun e w'' => e = .returned (.string T2) ∧ Lib.Grows (Sort.grow (redrawn w9 d) os) w'' := fun d os => Lib.Calls.grows_of (cTQ _ (HT.out.below (below_regrown w9 d os)))
          have hz := HZ.out
          have hu := HU.out
          refine Lib.wp_region_made 37 (fun _ => none) (by kernel_rfl) (by kernel_rfl) Lib.stabP_none ?_
          simp only [List.take_succ_cons, List.take_zero, List.drop_succ_cons, List.drop_zero]
          repeat (first | refine Lib.wpML_val _ (by rfl) (by rfl) (fun w' hw' => exec_load_whole rfl rfl ((HELD.out (b8, p) (by simp)).b hw')) ?_ | refine Lib.wpML_val _ (by rfl) (by rfl) (fun w' hw' => exec_load_whole rfl rfl ((HELD.out (w.heap.size, p) (by simp)).b hw')) ?_ | refine Lib.wpML_val _ (by rfl) (by rfl) (fun w' hw' => exec_load_whole rfl rfl ((HELD.out (w.heap.size + 1, q) (by simp)).b hw')) ?_ | (refine Lib.wpML_step (by rfl) (fun K hK => ?_); go_simp; first | (refine hK _ ?_; clear hK K) | (apply Exists.intro; refine ⟨fun _ => ?_, hK _ ?_⟩; (first | (refine ⟨?_, by with_reducible exact kL _ _⟩; exact Lib.noInit (by kernel_rfl)) | (refine ⟨?_, by with_reducible exact kP _ _⟩; exact Lib.noInit (by kernel_rfl)) | (refine ⟨?_, by with_reducible exact kQ _ _⟩; exact Lib.noInit (by kernel_rfl)) | (refine ⟨?_, by with_reducible exact kT _ _⟩; exact Lib.noInit (by kernel_rfl)) | (refine ⟨?_, by with_reducible exact kU _ _⟩; exact Lib.noInit (by kernel_rfl))); clear hK K)))
          refine Lib.wpML_nil ?_
          intro wN hw2 _
          have hb := Lib.Behind.below hw2
          clear hw2 kL kP kQ kT kU hz hu hE1 hE2 hG
          have HELD' := Lib.hid (HELD.out.b hb); have HT' := Lib.hid (HT.out.below hb); have HB' := Lib.hid (bn HB.out hb)
          clear HELD HT HB hb; have HELD := HELD'; have HT := HT'; have HB := HB'; clear HELD' HT' HB'
          go_wp2
          go_ret
          exact ⟨rfl, HB.out⟩

        | true =>
          go_enter Tryd.func4, Tryd.ntmps4
          go_wp2_with fail
          generalize (w.alloc (.cells p.row 30)).alloc (.cells q.row 30) = w1 at *
          refine (cA _ HT.out).mono ?_
          rintro e wN ⟨rfl, hb⟩
          have HELD' := Lib.hid (HELD.out.b hb); have HT' := Lib.hid (HT.out.below hb); have HB' := Lib.hid (bn HB.out hb)
          clear HELD HT HB hb; have HELD := HELD'; have HT := HT'; have HB := HB'; clear HELD' HT' HB'
          go_wp2_with (with_reducible refine wpList_mark (o := ⟨some 13, _, _, _, _, _⟩) ?_)
          refine Marked.intro ?_
          refine Lib.wpList_runG (by rfl) (exec_load_whole rfl rfl (HELD.out (w.heap.size, p) (by simp))) ?_
          go_wp2_with fail
          refine (cP _).mono ?_
          rintro e wN ⟨rfl, hb⟩
          have HELD' := Lib.hid (HELD.out.b hb); have HT' := Lib.hid (HT.out.below hb); have HB' := Lib.hid (bn HB.out hb)
          clear HELD HT HB hb; have HELD := HELD'; have HT := HT'; have HB := HB'; clear HELD' HT' HB'
          go_wp2_with (with_reducible refine wpList_mark (o := ⟨some 18, _, _, _, _, _⟩) ?_)
          refine Marked.intro ?_
          refine Lib.wpList_runG (by rfl) (exec_load_whole rfl rfl (HELD.out (w.heap.size + 1, q) (by simp))) ?_
          go_wp2_with fail
          refine (cQ _).mono ?_
          rintro e wN ⟨rfl, hb⟩
          have HELD' := Lib.hid (HELD.out.b hb); have HT' := Lib.hid (HT.out.below hb); have HB' := Lib.hid (bn HB.out hb)
          clear HELD HT HB hb; have HELD := HELD'; have HT := HT'; have HB := HB'; clear HELD' HT' HB'
          go_wp2_with (with_reducible refine wpList_mark (o := ⟨some 28, _, _, _, _, _⟩) ?_)
          refine Marked.intro ?_
          refine wpList_run rfl (exec_load_whole rfl rfl (HELD.out (w.heap.size, p) (by simp))) ?_
          go_wp2_with fail
          refine (cBP _).mono ?_
          rintro e wN ⟨rfl, hb⟩
          have HELD' := Lib.hid (HELD.out.b hb); have HT' := Lib.hid (HT.out.below hb); have HB' := Lib.hid (bn HB.out hb)
          clear HELD HT HB hb; have HELD := HELD'; have HT := HT'; have HB := HB'; clear HELD' HT' HB'
          go_wp2_with fail
          refine (RdNew_calls _ _).mono ?_
          rintro e wM ⟨rfl, hr, hb1, -⟩
          rw [cat_list, HRB.out] at hr
          have hlt := HELD.out.lt
          go_wp2_with fail
          refine (Read_calls _ _ _ hr).mono ?_
          unfold ReadPost
          rw [HRD.out]
          rintro e wQ ⟨rfl, hr2, hb2⟩
          have hb := hb1.trans hb2
          have HGG : Hid (wN.heap.size < wQ.heap.size) := Lib.hid hr2.lt
          have HRR := Lib.hid hr2
          clear hr hb1 hb2 hr2 hlt
          obtain ⟨gr, hgr⟩ : ∃ g, g = wN.heap.size := ⟨_, rfl⟩
          rw [← hgr] at HRR HGG
          have HGR := Lib.hid hgr
          rw [← hgr]
          clear hgr
          have HELD' := Lib.hid (HELD.out.b hb); have HT' := Lib.hid (HT.out.below hb); have HB' := Lib.hid (bn HB.out hb)
          clear HELD HT HB hb; have HELD := HELD'; have HT := HT'; have HB := HB'; clear HELD' HT' HB'
          go_wp2_with (with_reducible refine wpList_mark (o := ⟨none, _, _, _, _, _⟩) ?_)
          rw [← zero_row]
          refine Marked.intro ?_
          refine wpList_do rfl (exec_store_px rfl rfl rfl (PxAt.new wQ Px.zero (by rfl)) hp.len) ?_
          have hh := HELD.out.store p hp.len
          have hb := below_store wQ p
          have hr3 := (HRR.out.below ((Below.refl wQ.heap.size wQ).alloc (Nat.le_refl _) (.cells Px.zero.row 30))).row_other (Nat.ne_of_lt HGG.out) p.row
          have HELD' := Lib.hid hh; have HT' := Lib.hid (HT.out.below hb); have HB' := Lib.hid (bn HB.out hb); have HR3 := Lib.hid hr3
          clear HELD HT HB hb hh HRR hr3; have HELD := HELD'; have HT := HT'; have HB := HB'; clear HELD' HT' HB'
          generalize World.setRow _ wQ.heap.size (Px.row p) = w9 at *
          generalize wQ.heap.size = b8 at *
          go_wp2_with fail
          have hE1 := HE1.out
          have hG := HG.out
          have hE2 := HE2.out
          have kL : ∀ d os, Calls Tryd.prog 15 #[.pointer (some ⟨gr, 0, none⟩)] (Sort.grow (redrawn w9 d) os) fun e w'' => e = .returned (.int .i64 (more.size : Nat)) ∧ Lib.Grows (Sort.grow (redrawn w9 d) os) w'' := fun d os => Lib.Calls.grows_of (Calls.below_of_same (Left_calls _ gr 0 more.data.toList (HR3.out.below (below_regrown w9 d os))))
          have kP : ∀ d os, Calls Tryd.prog 17 #[.agg p.row] (Sort.grow (redrawn w9 d) os) fun e w'' => e = .returned (.string Z) ∧ Lib.Grows (Sort.grow (redrawn w9 d) os) w'' := fun d os => Lib.Calls.grows_of (cBP _)
          have kQ : ∀ d os, Calls Tryd.prog 17 #[.agg q.row] (Sort.grow (redrawn w9 d) os) fun e w'' => e = .returned (.string Y) ∧ Lib.Grows (Sort.grow (redrawn w9 d) os) w'' := fun d os => Lib.Calls.grows_of (cBQ _)
          have kT : ∀ d os, Calls Tryd.prog 18 #[.agg p.row] (Sort.grow (redrawn w9 d) os) fun e w'' => e = .returned (.string T1) ∧ Lib.Grows (Sort.grow (redrawn w9 d) os) w'' := fun d os => Lib.Calls.grows_of (cTP _ (HT.out.below (below_regrown w9 d os)))
          have kU : ∀ d os, Calls Tryd.prog 18 #[.agg q.row] (Sort.grow (redrawn w9 d) os) fun e w'' => e = .returned (.string T2) ∧ Lib.Grows (Sort.grow (redrawn w9 d) os) w'' := fun d os => Lib.Calls.grows_of (cTQ _ (HT.out.below (below_regrown w9 d os)))
          have hz := HZ.out
          have hu := HU.out
          refine Lib.wp_region_made 37 (fun _ => none) (by kernel_rfl) (by kernel_rfl) Lib.stabP_none ?_
          simp only [List.take_succ_cons, List.take_zero, List.drop_succ_cons, List.drop_zero]
          repeat (first | refine Lib.wpML_val _ (by rfl) (by rfl) (fun w' hw' => exec_load_whole rfl rfl ((HELD.out (b8, p) (by simp)).b hw')) ?_ | refine Lib.wpML_val _ (by rfl) (by rfl) (fun w' hw' => exec_load_whole rfl rfl ((HELD.out (w.heap.size, p) (by simp)).b hw')) ?_ | refine Lib.wpML_val _ (by rfl) (by rfl) (fun w' hw' => exec_load_whole rfl rfl ((HELD.out (w.heap.size + 1, q) (by simp)).b hw')) ?_ | (refine Lib.wpML_step (by rfl) (fun K hK => ?_); go_simp; first | (refine hK _ ?_; clear hK K) | (apply Exists.intro; refine ⟨fun _ => ?_, hK _ ?_⟩; (first | (refine ⟨?_, by with_reducible exact kL _ _⟩; exact Lib.noInit (by kernel_rfl)) | (refine ⟨?_, by with_reducible exact kP _ _⟩; exact Lib.noInit (by kernel_rfl)) | (refine ⟨?_, by with_reducible exact kQ _ _⟩; exact Lib.noInit (by kernel_rfl)) | (refine ⟨?_, by with_reducible exact kT _ _⟩; exact Lib.noInit (by kernel_rfl)) | (refine ⟨?_, by with_reducible exact kU _ _⟩; exact Lib.noInit (by kernel_rfl))); clear hK K)))
          refine Lib.wpML_nil ?_
          intro wN hw2 _
          have hb := Lib.Behind.below hw2
          clear hw2 kL kP kQ kT kU hz hu hE1 hE2 hG
          have HELD' := Lib.hid (HELD.out.b hb); have HT' := Lib.hid (HT.out.below hb); have HB' := Lib.hid (bn HB.out hb)
          clear HELD HT HB hb; have HELD := HELD'; have HT := HT'; have HB := HB'; clear HELD' HT' HB'
          go_wp2
          go_ret
          exact ⟨rfl, HB.out⟩
end Go.Proofs.YtmccnmccegbdjaaDoor
