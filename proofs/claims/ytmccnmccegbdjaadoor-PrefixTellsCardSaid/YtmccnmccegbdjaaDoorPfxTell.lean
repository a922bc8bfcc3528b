/- The walk of the law PrefixTells. (Printed by wip/print/pfxtell.py.) -/
import Derived.Test.YtmccnmccegbdjaaDoorPfxRBytes
import Derived.Test.YtmccnmccegbdjaaDoorPfxKinds
import Derived.Test.YtmccnmccegbdjaaDoorPfxAwake
namespace Go.Proofs.YtmccnmccegbdjaaDoor
open Go.RowKit Go.Sort
set_option linter.unusedVariables false
set_option linter.unusedSimpArgs false
theorem RText_calls (w : World) (p : Px) (hp : p.wf) (hr : p.right = true) : Calls Tryd.prog 19 #[.agg p.row] w fun e w' => e = .returned (.string p.text) ∧ Below w.heap.size w w' := by
  cases h6 : p.six with
  | true => exact RText_six w p hp hr h6
  | false => exact RText_four w p hp hr h6
set_option maxRecDepth 100000 in
set_option maxHeartbeats 16000000 in
theorem PrefixTells_walk (p q : Px) (I : Int) (hp : p.wf) (hq : q.wf) (wi : (Lit.int .i64 I).wf = true) (w : World) (ht : Tab w) : Calls Tryd.prog 5 #[.agg p.row, .agg q.row, .int .i64 I] w fun e w' => e = .returned (.bool true) ∧ Below w.heap.size w w' := by
  obtain ⟨hI1, hI2⟩ : -9223372036854775808 ≤ I ∧ I ≤ 9223372036854775807 := by
    have k1 : IntKind.i64.min = -9223372036854775808 := by decide
    have k2 : IntKind.i64.max = 9223372036854775807 := by decide
    have := wi
    unfold Lit.wf at this
    rw [Bool.and_eq_true, decide_eq_true_eq, decide_eq_true_eq, k1, k2] at this
    exact this
  obtain ⟨hh, hb0⟩ := boxes2 w p q hp.len hq.len
  have HELD := Lib.hid hh; have HB := Lib.hid hb0; have HT := Lib.hid (ht.below hb0); clear hh hb0 ht
  have cA := fun w h => awake_calls w h
  have hrr := fun w => RRight_calls w p hp
  have hr := fun w => Right_calls w p hp
  have hm := fun w => Compare_calls w p q hp hq
  have hn := fun w => RCompare_calls w p q hp hq
  have hk := fun w => Contains_calls w p q hp hq
  have hl := fun w => RContains_calls w p q hp hq
  have ho := fun w => Common_calls w p q hp hq
  have hp' := fun w => RCommon_calls w p q hp hq
  have ht := fun w h => Text_calls w p hp h
  have hb := fun w => Bytes_calls w p hp
  have hx := fun w => Bit_calls w p hp I hI1 hI2
  generalize p.compare q = M at *
  generalize p.contains q = K0 at *
  generalize p.common q = O at *
  have CM := Lib.hid hm; have CN := Lib.hid hn; have CK := Lib.hid hk; have CL := Lib.hid hl; have CO := Lib.hid ho; have CP := Lib.hid hp'
  clear hm hn hk hl ho hp'
  cases e1 : p.right with
  | false =>
    have eT : p.text = ⟨#[]⟩ := by unfold Px.text; rw [e1]; rfl
    have eY : p.bytes = ⟨#[]⟩ := by unfold Px.bytes; rw [e1]; rfl
    have eX : p.bit I = -1 := by unfold Px.bit; rw [e1]; rfl
    rw [eT] at ht; rw [eY] at hb; rw [eX] at hx; rw [e1] at hr hrr
    clear e1 eT eY eX
    have CR := Lib.hid hr; have CRR := Lib.hid hrr; have CT := Lib.hid ht; have CB := Lib.hid hb; have CX := Lib.hid hx
    clear hr hrr ht hb hx
    go_enter Tryd.func5, Tryd.ntmps5
    go_wp2_with (with_reducible refine wpList_mark (o := ⟨some 11, _, _, _, _, _⟩) ?_)
    generalize (w.alloc (.cells p.row 30)).alloc (.cells q.row 30) = w1 at *
    refine Marked.intro ?_
    refine wpList_run rfl (exec_load_whole rfl rfl (HELD.out (w.heap.size, p) (by simp))) ?_
    go_wp2_with fail
    refine (CRR.out _).mono ?_
    rintro e w2 ⟨rfl, hb⟩
    have HELD' := Lib.hid (HELD.out.b hb); have HT' := Lib.hid (HT.out.below hb); have HB' := Lib.hid (bn HB.out hb)
    clear HELD HT HB hb; have HELD := HELD'; have HT := HT'; have HB := HB'; clear HELD' HT' HB'
    go_wp2_with fail
    have kA : ∀ d os, Calls Tryd.prog 9 #[] (Sort.grow (redrawn w2 d) os) fun e w'' => e = .returned (.bool true) ∧ Lib.Grows (Sort.grow (redrawn w2 d) os) w'' := fun d os => Lib.Calls.grows_of (cA _ (HT.out.below (below_regrown w2 d os)))
    have kR : ∀ d os, Calls Tryd.prog 21 #[.agg p.row] (Sort.grow (redrawn w2 d) os) fun e w'' => e = .returned (.bool false) ∧ Lib.Grows (Sort.grow (redrawn w2 d) os) w'' := fun d os => Lib.Calls.grows_of (CR.out _)
    have kM : ∀ d os, Calls Tryd.prog 22 #[.agg p.row, .agg q.row] (Sort.grow (redrawn w2 d) os) fun e w'' => e = .returned (.int .i64 M) ∧ Lib.Grows (Sort.grow (redrawn w2 d) os) w'' := fun d os => Lib.Calls.grows_of (CM.out _)
    have kN : ∀ d os, Calls Tryd.prog 23 #[.agg p.row, .agg q.row] (Sort.grow (redrawn w2 d) os) fun e w'' => e = .returned (.int .i64 M) ∧ Lib.Grows (Sort.grow (redrawn w2 d) os) w'' := fun d os => Lib.Calls.grows_of (CN.out _)
    have kK : ∀ d os, Calls Tryd.prog 24 #[.agg p.row, .agg q.row] (Sort.grow (redrawn w2 d) os) fun e w'' => e = .returned (.bool K0) ∧ Lib.Grows (Sort.grow (redrawn w2 d) os) w'' := fun d os => Lib.Calls.grows_of (CK.out _)
    have kL : ∀ d os, Calls Tryd.prog 25 #[.agg p.row, .agg q.row] (Sort.grow (redrawn w2 d) os) fun e w'' => e = .returned (.bool K0) ∧ Lib.Grows (Sort.grow (redrawn w2 d) os) w'' := fun d os => Lib.Calls.grows_of (CL.out _)
    have kO : ∀ d os, Calls Tryd.prog 26 #[.agg p.row, .agg q.row] (Sort.grow (redrawn w2 d) os) fun e w'' => e = .returned (.int .i64 O) ∧ Lib.Grows (Sort.grow (redrawn w2 d) os) w'' := fun d os => Lib.Calls.grows_of (CO.out _)
    have kP : ∀ d os, Calls Tryd.prog 27 #[.agg p.row, .agg q.row] (Sort.grow (redrawn w2 d) os) fun e w'' => e = .returned (.int .i64 O) ∧ Lib.Grows (Sort.grow (redrawn w2 d) os) w'' := fun d os => Lib.Calls.grows_of (CP.out _)
    have kT : ∀ d os, Calls Tryd.prog 18 #[.agg p.row] (Sort.grow (redrawn w2 d) os) fun e w'' => e = .returned (.string ⟨#[]⟩) ∧ Lib.Grows (Sort.grow (redrawn w2 d) os) w'' := fun d os => Lib.Calls.grows_of (CT.out _ (HT.out.below (below_regrown w2 d os)))
    have kB : ∀ d os, Calls Tryd.prog 17 #[.agg p.row] (Sort.grow (redrawn w2 d) os) fun e w'' => e = .returned (.string ⟨#[]⟩) ∧ Lib.Grows (Sort.grow (redrawn w2 d) os) w'' := fun d os => Lib.Calls.grows_of (CB.out _)
    have kX : ∀ d os, Calls Tryd.prog 28 #[.agg p.row, .int .i64 I] (Sort.grow (redrawn w2 d) os) fun e w'' => e = .returned (.int .i64 (-1)) ∧ Lib.Grows (Sort.grow (redrawn w2 d) os) w'' := fun d os => Lib.Calls.grows_of (CX.out _)
    clear cA CR CM CN CK CL CO CP CT CB CX
    refine Lib.wp_region_made 54 (fun _ => none) (by kernel_rfl) (by kernel_rfl) Lib.stabP_none ?_
    simp only [List.take_succ_cons, List.take_zero, List.drop_succ_cons, List.drop_zero]
    repeat (first | refine Lib.wpML_val _ (by rfl) (by rfl) (fun w' hw' => exec_load_whole rfl rfl ((HELD.out (w.heap.size, p) (by simp)).b hw')) ?_ | refine Lib.wpML_val _ (by rfl) (by rfl) (fun w' hw' => exec_load_whole rfl rfl ((HELD.out (w.heap.size + 1, q) (by simp)).b hw')) ?_ | (refine Lib.wpML_step (by rfl) (fun K hK => ?_); go_simp; first | (refine hK _ ?_; clear hK K) | (apply Exists.intro; refine ⟨fun _ => ?_, hK _ ?_⟩; (first | (refine ⟨?_, by with_reducible exact kA _ _⟩; exact Lib.noInit (by kernel_rfl)) | (refine ⟨?_, by with_reducible exact kR _ _⟩; exact Lib.noInit (by kernel_rfl)) | (refine ⟨?_, by with_reducible exact kM _ _⟩; exact Lib.noInit (by kernel_rfl)) | (refine ⟨?_, by with_reducible exact kN _ _⟩; exact Lib.noInit (by kernel_rfl)) | (refine ⟨?_, by with_reducible exact kK _ _⟩; exact Lib.noInit (by kernel_rfl)) | (refine ⟨?_, by with_reducible exact kL _ _⟩; exact Lib.noInit (by kernel_rfl)) | (refine ⟨?_, by with_reducible exact kO _ _⟩; exact Lib.noInit (by kernel_rfl)) | (refine ⟨?_, by with_reducible exact kP _ _⟩; exact Lib.noInit (by kernel_rfl)) | (refine ⟨?_, by with_reducible exact kT _ _⟩; exact Lib.noInit (by kernel_rfl)) | (refine ⟨?_, by with_reducible exact kB _ _⟩; exact Lib.noInit (by kernel_rfl)) | (refine ⟨?_, by with_reducible exact kX _ _⟩; exact Lib.noInit (by kernel_rfl))); clear hK K)))
    refine Lib.wpML_nil ?_
    intro wN hw2 _
    have hb := Lib.Behind.below hw2
    clear hw2 kA kR kM kN kK kL kO kP kT kB kX
    have HELD' := Lib.hid (HELD.out.b hb); have HT' := Lib.hid (HT.out.below hb); have HB' := Lib.hid (bn HB.out hb)
    clear HELD HT HB hb; have HELD := HELD'; have HT := HT'; have HB := HB'; clear HELD' HT' HB'
    go_wp2
    go_ret
    exact ⟨rfl, HB.out⟩

  | true =>
    have htt := fun w => RText_calls w p hp e1
    have hbb := fun w => RBytes_calls w p hp e1
    obtain ⟨n, hn, hn2⟩ := Px.right_n e1
    have hw := widthN_le p.six
    have hn128 : n ≤ 128 := by omega
    have hX : p.bit I = (if decide (0 ≤ I) && decide (I < (n : Int)) then ((bitN p.A I.toNat : Nat) : Int) else -1) := by unfold Px.bit; rw [e1, hn]; rfl
    have HX := Lib.hid hX
    have HN := Lib.hid hn
    clear hX hn hn2 hw
    rw [e1] at hr hrr
    clear e1
    generalize p.text = T at *
    generalize p.bytes = Y at *
    have CR := Lib.hid hr; have CRR := Lib.hid hrr; have CT := Lib.hid ht; have CB := Lib.hid hb; have CTT := Lib.hid htt; have CBB := Lib.hid hbb
    clear hr hrr ht hb htt hbb
    by_cases h1 : 0 ≤ I
    · obtain ⟨j, rfl⟩ := Int.eq_ofNat_of_zero_le h1
      have d1 : decide ((0 : Int) ≤ (j : Int)) = true := decide_eq_true h1
      by_cases h2 : j < n
      · have d2 : decide ((j : Int) < (n : Int)) = true := decide_eq_true (by omega)
        have eX : p.bit (j : Int) = ((p.A.getD (j / 8) 0 / 2 ^ (7 - j % 8) % 2 : Nat) : Int) := by rw [HX.out, d1, d2]; rfl
        rw [eX] at hx
        clear eX HX
        have CX := Lib.hid hx; clear hx
        go_enter Tryd.func5, Tryd.ntmps5
        go_wp2_with (with_reducible refine wpList_mark (o := ⟨some 11, _, _, _, _, _⟩) ?_)
        generalize (w.alloc (.cells p.row 30)).alloc (.cells q.row 30) = w1 at *
        refine Marked.intro ?_
        refine wpList_run rfl (exec_load_whole rfl rfl (HELD.out (w.heap.size, p) (by simp))) ?_
        go_wp2_with fail
        refine (CRR.out _).mono ?_
        rintro e w2 ⟨rfl, hb⟩
        have HELD' := Lib.hid (HELD.out.b hb); have HT' := Lib.hid (HT.out.below hb); have HB' := Lib.hid (bn HB.out hb)
        clear HELD HT HB hb; have HELD := HELD'; have HT := HT'; have HB := HB'; clear HELD' HT' HB'
        go_wp2_with fail
        have kT : ∀ d os, Calls Tryd.prog 19 #[.agg p.row] (Sort.grow (redrawn w2 d) os) fun e w'' => e = .returned (.string T) ∧ Lib.Grows (Sort.grow (redrawn w2 d) os) w'' := fun d os => Lib.Calls.grows_of (CTT.out _)
        have kB : ∀ d os, Calls Tryd.prog 20 #[.agg p.row] (Sort.grow (redrawn w2 d) os) fun e w'' => e = .returned (.string Y) ∧ Lib.Grows (Sort.grow (redrawn w2 d) os) w'' := fun d os => Lib.Calls.grows_of (CBB.out _)
        refine Lib.wp_region_made 6 (fun _ => none) (by kernel_rfl) (by kernel_rfl) Lib.stabP_none ?_
        simp only [List.take_succ_cons, List.take_zero, List.drop_succ_cons, List.drop_zero]
        repeat (first | refine Lib.wpML_val _ (by rfl) (by rfl) (fun w' hw' => exec_load_whole rfl rfl ((HELD.out (w.heap.size, p) (by simp)).b hw')) ?_ | (refine Lib.wpML_step (by rfl) (fun K hK => ?_); go_simp; first | (refine hK _ ?_; clear hK K) | (apply Exists.intro; refine ⟨fun _ => ?_, hK _ ?_⟩; (first | (refine ⟨?_, by with_reducible exact kT _ _⟩; exact Lib.noInit (by kernel_rfl)) | (refine ⟨?_, by with_reducible exact kB _ _⟩; exact Lib.noInit (by kernel_rfl))); clear hK K)))
        refine Lib.wpML_nil ?_
        intro w3 hw2 _
        have hb := Lib.Behind.below hw2
        clear hw2 kT kB
        have HELD' := Lib.hid (HELD.out.b hb); have HT' := Lib.hid (HT.out.below hb); have HB' := Lib.hid (bn HB.out hb)
        clear HELD HT HB hb; have HELD := HELD'; have HT := HT'; have HB := HB'; clear HELD' HT' HB'
        have cn := (HELD.out (w.heap.size, p) (by simp)).len
        rw [HN.out] at cn
        have hc := (HELD.out (w.heap.size, p) (by simp)).byte (j / 8) (by omega)
        have hx := hp.small (j / 8)
        have hq : IntKind.i64.wrap ((j : Int) / 8) = ((j / 8 : Nat) : Int) := by
          rw [show (j : Int) / 8 = ((j / 8 : Nat) : Int) by simp]; exact IntWalk.i64_in _ (by omega)
        have hr : Int.tmod (j : Int) 8 = ((j % 8 : Nat) : Int) := rfl
        have hq16 : j / 8 < 16 := by omega
        have hr8 : j % 8 < 8 := by omega
        generalize p.A.getD (j / 8) 0 = x at *
        generalize j / 8 = u at *
        generalize j % 8 = v at *
        have huI : (u : Int) < 16 := by omega
        have ha := and_one x v hx
        generalize x / 2 ^ (7 - v) % 2 = y at *
        go_wp2_with fail
        have kA : ∀ d os, Calls Tryd.prog 9 #[] (Sort.grow (redrawn w3 d) os) fun e w'' => e = .returned (.bool true) ∧ Lib.Grows (Sort.grow (redrawn w3 d) os) w'' := fun d os => Lib.Calls.grows_of (cA _ (HT.out.below (below_regrown w3 d os)))
        have kR : ∀ d os, Calls Tryd.prog 21 #[.agg p.row] (Sort.grow (redrawn w3 d) os) fun e w'' => e = .returned (.bool true) ∧ Lib.Grows (Sort.grow (redrawn w3 d) os) w'' := fun d os => Lib.Calls.grows_of (CR.out _)
        have kM : ∀ d os, Calls Tryd.prog 22 #[.agg p.row, .agg q.row] (Sort.grow (redrawn w3 d) os) fun e w'' => e = .returned (.int .i64 M) ∧ Lib.Grows (Sort.grow (redrawn w3 d) os) w'' := fun d os => Lib.Calls.grows_of (CM.out _)
        have kN : ∀ d os, Calls Tryd.prog 23 #[.agg p.row, .agg q.row] (Sort.grow (redrawn w3 d) os) fun e w'' => e = .returned (.int .i64 M) ∧ Lib.Grows (Sort.grow (redrawn w3 d) os) w'' := fun d os => Lib.Calls.grows_of (CN.out _)
        have kK : ∀ d os, Calls Tryd.prog 24 #[.agg p.row, .agg q.row] (Sort.grow (redrawn w3 d) os) fun e w'' => e = .returned (.bool K0) ∧ Lib.Grows (Sort.grow (redrawn w3 d) os) w'' := fun d os => Lib.Calls.grows_of (CK.out _)
        have kL : ∀ d os, Calls Tryd.prog 25 #[.agg p.row, .agg q.row] (Sort.grow (redrawn w3 d) os) fun e w'' => e = .returned (.bool K0) ∧ Lib.Grows (Sort.grow (redrawn w3 d) os) w'' := fun d os => Lib.Calls.grows_of (CL.out _)
        have kO : ∀ d os, Calls Tryd.prog 26 #[.agg p.row, .agg q.row] (Sort.grow (redrawn w3 d) os) fun e w'' => e = .returned (.int .i64 O) ∧ Lib.Grows (Sort.grow (redrawn w3 d) os) w'' := fun d os => Lib.Calls.grows_of (CO.out _)
        have kP : ∀ d os, Calls Tryd.prog 27 #[.agg p.row, .agg q.row] (Sort.grow (redrawn w3 d) os) fun e w'' => e = .returned (.int .i64 O) ∧ Lib.Grows (Sort.grow (redrawn w3 d) os) w'' := fun d os => Lib.Calls.grows_of (CP.out _)
        have kT : ∀ d os, Calls Tryd.prog 18 #[.agg p.row] (Sort.grow (redrawn w3 d) os) fun e w'' => e = .returned (.string T) ∧ Lib.Grows (Sort.grow (redrawn w3 d) os) w'' := fun d os => Lib.Calls.grows_of (CT.out _ (HT.out.below (below_regrown w3 d os)))
        have kB : ∀ d os, Calls Tryd.prog 17 #[.agg p.row] (Sort.grow (redrawn w3 d) os) fun e w'' => e = .returned (.string Y) ∧ Lib.Grows (Sort.grow (redrawn w3 d) os) w'' := fun d os => Lib.Calls.grows_of (CB.out _)
        have kX : ∀ d os, Calls Tryd.prog 28 #[.agg p.row, .int .i64 (j : Int)] (Sort.grow (redrawn w3 d) os) fun e w'' => e = .returned (.int .i64 (y : Int)) ∧ Lib.Grows (Sort.grow (redrawn w3 d) os) w'' := fun d os => Lib.Calls.grows_of (CX.out _)
        clear cA CR CM CN CK CL CO CP CT CB CX
        refine Lib.wp_region_made 54 (fun _ => none) (by kernel_rfl) (by kernel_rfl) Lib.stabP_none ?_
        simp only [List.take_succ_cons, List.take_zero, List.drop_succ_cons, List.drop_zero]
        repeat (first | refine Lib.wpML_val _ (by rfl) (by rfl) (fun w' hw' => exec_load_whole rfl rfl ((HELD.out (w.heap.size, p) (by simp)).b hw')) ?_ | refine Lib.wpML_val _ (by rfl) (by rfl) (fun w' hw' => exec_load_whole rfl rfl ((HELD.out (w.heap.size + 1, q) (by simp)).b hw')) ?_ | (refine Lib.wpML_step (by rfl) (fun K hK => ?_); go_simp; first | (refine hK _ ?_; clear hK K) | (apply Exists.intro; refine ⟨fun _ => ?_, hK _ ?_⟩; (first | (refine ⟨?_, by with_reducible exact kA _ _⟩; exact Lib.noInit (by kernel_rfl)) | (refine ⟨?_, by with_reducible exact kR _ _⟩; exact Lib.noInit (by kernel_rfl)) | (refine ⟨?_, by with_reducible exact kM _ _⟩; exact Lib.noInit (by kernel_rfl)) | (refine ⟨?_, by with_reducible exact kN _ _⟩; exact Lib.noInit (by kernel_rfl)) | (refine ⟨?_, by with_reducible exact kK _ _⟩; exact Lib.noInit (by kernel_rfl)) | (refine ⟨?_, by with_reducible exact kL _ _⟩; exact Lib.noInit (by kernel_rfl)) | (refine ⟨?_, by with_reducible exact kO _ _⟩; exact Lib.noInit (by kernel_rfl)) | (refine ⟨?_, by with_reducible exact kP _ _⟩; exact Lib.noInit (by kernel_rfl)) | (refine ⟨?_, by with_reducible exact kT _ _⟩; exact Lib.noInit (by kernel_rfl)) | (refine ⟨?_, by with_reducible exact kB _ _⟩; exact Lib.noInit (by kernel_rfl)) | (refine ⟨?_, by with_reducible exact kX _ _⟩; exact Lib.noInit (by kernel_rfl))); clear hK K)))
        refine Lib.wpML_nil ?_
        intro wN hw2 _
        have hb := Lib.Behind.below hw2
        clear hw2 kA kR kM kN kK kL kO kP kT kB kX
        have HELD' := Lib.hid (HELD.out.b hb); have HT' := Lib.hid (HT.out.below hb); have HB' := Lib.hid (bn HB.out hb)
        clear HELD HT HB hb; have HELD := HELD'; have HT := HT'; have HB := HB'; clear HELD' HT' HB'
        go_wp2
        go_ret
        exact ⟨rfl, HB.out⟩

      · have d2 : decide ((j : Int) < (n : Int)) = false := decide_eq_false (by omega)
        have eX : p.bit (j : Int) = -1 := by rw [HX.out, d1, d2]; rfl
        rw [eX] at hx
        clear eX HX
        have CX := Lib.hid hx; clear hx
        go_enter Tryd.func5, Tryd.ntmps5
        go_wp2_with (with_reducible refine wpList_mark (o := ⟨some 11, _, _, _, _, _⟩) ?_)
        generalize (w.alloc (.cells p.row 30)).alloc (.cells q.row 30) = w1 at *
        refine Marked.intro ?_
        refine wpList_run rfl (exec_load_whole rfl rfl (HELD.out (w.heap.size, p) (by simp))) ?_
        go_wp2_with fail
        refine (CRR.out _).mono ?_
        rintro e w2 ⟨rfl, hb⟩
        have HELD' := Lib.hid (HELD.out.b hb); have HT' := Lib.hid (HT.out.below hb); have HB' := Lib.hid (bn HB.out hb)
        clear HELD HT HB hb; have HELD := HELD'; have HT := HT'; have HB := HB'; clear HELD' HT' HB'
        go_wp2_with fail
        have kT : ∀ d os, Calls Tryd.prog 19 #[.agg p.row] (Sort.grow (redrawn w2 d) os) fun e w'' => e = .returned (.string T) ∧ Lib.Grows (Sort.grow (redrawn w2 d) os) w'' := fun d os => Lib.Calls.grows_of (CTT.out _)
        have kB : ∀ d os, Calls Tryd.prog 20 #[.agg p.row] (Sort.grow (redrawn w2 d) os) fun e w'' => e = .returned (.string Y) ∧ Lib.Grows (Sort.grow (redrawn w2 d) os) w'' := fun d os => Lib.Calls.grows_of (CBB.out _)
        refine Lib.wp_region_made 6 (fun _ => none) (by kernel_rfl) (by kernel_rfl) Lib.stabP_none ?_
        simp only [List.take_succ_cons, List.take_zero, List.drop_succ_cons, List.drop_zero]
        repeat (first | refine Lib.wpML_val _ (by rfl) (by rfl) (fun w' hw' => exec_load_whole rfl rfl ((HELD.out (w.heap.size, p) (by simp)).b hw')) ?_ | (refine Lib.wpML_step (by rfl) (fun K hK => ?_); go_simp; first | (refine hK _ ?_; clear hK K) | (apply Exists.intro; refine ⟨fun _ => ?_, hK _ ?_⟩; (first | (refine ⟨?_, by with_reducible exact kT _ _⟩; exact Lib.noInit (by kernel_rfl)) | (refine ⟨?_, by with_reducible exact kB _ _⟩; exact Lib.noInit (by kernel_rfl))); clear hK K)))
        refine Lib.wpML_nil ?_
        intro w3 hw2 _
        have hb := Lib.Behind.below hw2
        clear hw2 kT kB
        have HELD' := Lib.hid (HELD.out.b hb); have HT' := Lib.hid (HT.out.below hb); have HB' := Lib.hid (bn HB.out hb)
        clear HELD HT HB hb; have HELD := HELD'; have HT := HT'; have HB := HB'; clear HELD' HT' HB'
        have cn := (HELD.out (w.heap.size, p) (by simp)).len
        rw [HN.out] at cn
        go_wp2_with fail
        have kA : ∀ d os, Calls Tryd.prog 9 #[] (Sort.grow (redrawn w3 d) os) fun e w'' => e = .returned (.bool true) ∧ Lib.Grows (Sort.grow (redrawn w3 d) os) w'' := fun d os => Lib.Calls.grows_of (cA _ (HT.out.below (below_regrown w3 d os)))
        have kR : ∀ d os, Calls Tryd.prog 21 #[.agg p.row] (Sort.grow (redrawn w3 d) os) fun e w'' => e = .returned (.bool true) ∧ Lib.Grows (Sort.grow (redrawn w3 d) os) w'' := fun d os => Lib.Calls.grows_of (CR.out _)
        have kM : ∀ d os, Calls Tryd.prog 22 #[.agg p.row, .agg q.row] (Sort.grow (redrawn w3 d) os) fun e w'' => e = .returned (.int .i64 M) ∧ Lib.Grows (Sort.grow (redrawn w3 d) os) w'' := fun d os => Lib.Calls.grows_of (CM.out _)
        have kN : ∀ d os, Calls Tryd.prog 23 #[.agg p.row, .agg q.row] (Sort.grow (redrawn w3 d) os) fun e w'' => e = .returned (.int .i64 M) ∧ Lib.Grows (Sort.grow (redrawn w3 d) os) w'' := fun d os => Lib.Calls.grows_of (CN.out _)
        have kK : ∀ d os, Calls Tryd.prog 24 #[.agg p.row, .agg q.row] (Sort.grow (redrawn w3 d) os) fun e w'' => e = .returned (.bool K0) ∧ Lib.Grows (Sort.grow (redrawn w3 d) os) w'' := fun d os => Lib.Calls.grows_of (CK.out _)
        have kL : ∀ d os, Calls Tryd.prog 25 #[.agg p.row, .agg q.row] (Sort.grow (redrawn w3 d) os) fun e w'' => e = .returned (.bool K0) ∧ Lib.Grows (Sort.grow (redrawn w3 d) os) w'' := fun d os => Lib.Calls.grows_of (CL.out _)
        have kO : ∀ d os, Calls Tryd.prog 26 #[.agg p.row, .agg q.row] (Sort.grow (redrawn w3 d) os) fun e w'' => e = .returned (.int .i64 O) ∧ Lib.Grows (Sort.grow (redrawn w3 d) os) w'' := fun d os => Lib.Calls.grows_of (CO.out _)
        have kP : ∀ d os, Calls Tryd.prog 27 #[.agg p.row, .agg q.row] (Sort.grow (redrawn w3 d) os) fun e w'' => e = .returned (.int .i64 O) ∧ Lib.Grows (Sort.grow (redrawn w3 d) os) w'' := fun d os => Lib.Calls.grows_of (CP.out _)
        have kT : ∀ d os, Calls Tryd.prog 18 #[.agg p.row] (Sort.grow (redrawn w3 d) os) fun e w'' => e = .returned (.string T) ∧ Lib.Grows (Sort.grow (redrawn w3 d) os) w'' := fun d os => Lib.Calls.grows_of (CT.out _ (HT.out.below (below_regrown w3 d os)))
        have kB : ∀ d os, Calls Tryd.prog 17 #[.agg p.row] (Sort.grow (redrawn w3 d) os) fun e w'' => e = .returned (.string Y) ∧ Lib.Grows (Sort.grow (redrawn w3 d) os) w'' := fun d os => Lib.Calls.grows_of (CB.out _)
        have kX : ∀ d os, Calls Tryd.prog 28 #[.agg p.row, .int .i64 (j : Int)] (Sort.grow (redrawn w3 d) os) fun e w'' => e = .returned (.int .i64 (-1)) ∧ Lib.Grows (Sort.grow (redrawn w3 d) os) w'' := fun d os => Lib.Calls.grows_of (CX.out _)
        clear cA CR CM CN CK CL CO CP CT CB CX
        refine Lib.wp_region_made 54 (fun _ => none) (by kernel_rfl) (by kernel_rfl) Lib.stabP_none ?_
        simp only [List.take_succ_cons, List.take_zero, List.drop_succ_cons, List.drop_zero]
        repeat (first | refine Lib.wpML_val _ (by rfl) (by rfl) (fun w' hw' => exec_load_whole rfl rfl ((HELD.out (w.heap.size, p) (by simp)).b hw')) ?_ | refine Lib.wpML_val _ (by rfl) (by rfl) (fun w' hw' => exec_load_whole rfl rfl ((HELD.out (w.heap.size + 1, q) (by simp)).b hw')) ?_ | (refine Lib.wpML_step (by rfl) (fun K hK => ?_); go_simp; first | (refine hK _ ?_; clear hK K) | (apply Exists.intro; refine ⟨fun _ => ?_, hK _ ?_⟩; (first | (refine ⟨?_, by with_reducible exact kA _ _⟩; exact Lib.noInit (by kernel_rfl)) | (refine ⟨?_, by with_reducible exact kR _ _⟩; exact Lib.noInit (by kernel_rfl)) | (refine ⟨?_, by with_reducible exact kM _ _⟩; exact Lib.noInit (by kernel_rfl)) | (refine ⟨?_, by with_reducible exact kN _ _⟩; exact Lib.noInit (by kernel_rfl)) | (refine ⟨?_, by with_reducible exact kK _ _⟩; exact Lib.noInit (by kernel_rfl)) | (refine ⟨?_, by with_reducible exact kL _ _⟩; exact Lib.noInit (by kernel_rfl)) | (refine ⟨?_, by with_reducible exact kO _ _⟩; exact Lib.noInit (by kernel_rfl)) | (refine ⟨?_, by with_reducible exact kP _ _⟩; exact Lib.noInit (by kernel_rfl)) | (refine ⟨?_, by with_reducible exact kT _ _⟩; exact Lib.noInit (by kernel_rfl)) | (refine ⟨?_, by with_reducible exact kB _ _⟩; exact Lib.noInit (by kernel_rfl)) | (refine ⟨?_, by with_reducible exact kX _ _⟩; exact Lib.noInit (by kernel_rfl))); clear hK K)))
        refine Lib.wpML_nil ?_
        intro wN hw2 _
        have hb := Lib.Behind.below hw2
        clear hw2 kA kR kM kN kK kL kO kP kT kB kX
        have HELD' := Lib.hid (HELD.out.b hb); have HT' := Lib.hid (HT.out.below hb); have HB' := Lib.hid (bn HB.out hb)
        clear HELD HT HB hb; have HELD := HELD'; have HT := HT'; have HB := HB'; clear HELD' HT' HB'
        go_wp2
        go_ret
        exact ⟨rfl, HB.out⟩

    · have d1 : decide ((0 : Int) ≤ I) = false := decide_eq_false h1
      have eX : p.bit I = -1 := by rw [HX.out, d1]; rfl
      rw [eX] at hx
      clear eX HX
      have CX := Lib.hid hx; clear hx
      go_enter Tryd.func5, Tryd.ntmps5
      go_wp2_with (with_reducible refine wpList_mark (o := ⟨some 11, _, _, _, _, _⟩) ?_)
      generalize (w.alloc (.cells p.row 30)).alloc (.cells q.row 30) = w1 at *
      refine Marked.intro ?_
      refine wpList_run rfl (exec_load_whole rfl rfl (HELD.out (w.heap.size, p) (by simp))) ?_
      go_wp2_with fail
      refine (CRR.out _).mono ?_
      rintro e w2 ⟨rfl, hb⟩
      have HELD' := Lib.hid (HELD.out.b hb); have HT' := Lib.hid (HT.out.below hb); have HB' := Lib.hid (bn HB.out hb)
      clear HELD HT HB hb; have HELD := HELD'; have HT := HT'; have HB := HB'; clear HELD' HT' HB'
      go_wp2_with fail
      have kT : ∀ d os, Calls Tryd.prog 19 #[.agg p.row] (Sort.grow (redrawn w2 d) os) fun e w'' => e = .returned (.string T) ∧ Lib.Grows (Sort.grow (redrawn w2 d) os) w'' := fun d os => Lib.Calls.grows_of (CTT.out _)
      have kB : ∀ d os, Calls Tryd.prog 20 #[.agg p.row] (Sort.grow (redrawn w2 d) os) fun e w'' => e = .returned (.string Y) ∧ Lib.Grows (Sort.grow (redrawn w2 d) os) w'' := fun d os => Lib.Calls.grows_of (CBB.out _)
      refine Lib.wp_region_made 6 (fun _ => none) (by kernel_rfl) (by kernel_rfl) Lib.stabP_none ?_
      simp only [List.take_succ_cons, List.take_zero, List.drop_succ_cons, List.drop_zero]
      repeat (first | refine Lib.wpML_val _ (by rfl) (by rfl) (fun w' hw' => exec_load_whole rfl rfl ((HELD.out (w.heap.size, p) (by simp)).b hw')) ?_ | (refine Lib.wpML_step (by rfl) (fun K hK => ?_); go_simp; first | (refine hK _ ?_; clear hK K) | (apply Exists.intro; refine ⟨fun _ => ?_, hK _ ?_⟩; (first | (refine ⟨?_, by with_reducible exact kT _ _⟩; exact Lib.noInit (by kernel_rfl)) | (refine ⟨?_, by with_reducible exact kB _ _⟩; exact Lib.noInit (by kernel_rfl))); clear hK K)))
      refine Lib.wpML_nil ?_
      intro w3 hw2 _
      have hb := Lib.Behind.below hw2
      clear hw2 kT kB
      have HELD' := Lib.hid (HELD.out.b hb); have HT' := Lib.hid (HT.out.below hb); have HB' := Lib.hid (bn HB.out hb)
      clear HELD HT HB hb; have HELD := HELD'; have HT := HT'; have HB := HB'; clear HELD' HT' HB'
      have cn := (HELD.out (w.heap.size, p) (by simp)).len
      rw [HN.out] at cn
      go_wp2_with fail
      have kA : ∀ d os, Calls Tryd.prog 9 #[] (Sort.grow (redrawn w3 d) os) fun e w'' => e = .returned (.bool true) ∧ Lib.Grows (Sort.grow (redrawn w3 d) os) w'' := fun d os => Lib.Calls.grows_of (cA _ (HT.out.below (below_regrown w3 d os)))
      have kR : ∀ d os, Calls Tryd.prog 21 #[.agg p.row] (Sort.grow (redrawn w3 d) os) fun e w'' => e = .returned (.bool true) ∧ Lib.Grows (Sort.grow (redrawn w3 d) os) w'' := fun d os => Lib.Calls.grows_of (CR.out _)
      have kM : ∀ d os, Calls Tryd.prog 22 #[.agg p.row, .agg q.row] (Sort.grow (redrawn w3 d) os) fun e w'' => e = .returned (.int .i64 M) ∧ Lib.Grows (Sort.grow (redrawn w3 d) os) w'' := fun d os => Lib.Calls.grows_of (CM.out _)
      have kN : ∀ d os, Calls Tryd.prog 23 #[.agg p.row, .agg q.row] (Sort.grow (redrawn w3 d) os) fun e w'' => e = .returned (.int .i64 M) ∧ Lib.Grows (Sort.grow (redrawn w3 d) os) w'' := fun d os => Lib.Calls.grows_of (CN.out _)
      have kK : ∀ d os, Calls Tryd.prog 24 #[.agg p.row, .agg q.row] (Sort.grow (redrawn w3 d) os) fun e w'' => e = .returned (.bool K0) ∧ Lib.Grows (Sort.grow (redrawn w3 d) os) w'' := fun d os => Lib.Calls.grows_of (CK.out _)
      have kL : ∀ d os, Calls Tryd.prog 25 #[.agg p.row, .agg q.row] (Sort.grow (redrawn w3 d) os) fun e w'' => e = .returned (.bool K0) ∧ Lib.Grows (Sort.grow (redrawn w3 d) os) w'' := fun d os => Lib.Calls.grows_of (CL.out _)
      have kO : ∀ d os, Calls Tryd.prog 26 #[.agg p.row, .agg q.row] (Sort.grow (redrawn w3 d) os) fun e w'' => e = .returned (.int .i64 O) ∧ Lib.Grows (Sort.grow (redrawn w3 d) os) w'' := fun d os => Lib.Calls.grows_of (CO.out _)
      have kP : ∀ d os, Calls Tryd.prog 27 #[.agg p.row, .agg q.row] (Sort.grow (redrawn w3 d) os) fun e w'' => e = .returned (.int .i64 O) ∧ Lib.Grows (Sort.grow (redrawn w3 d) os) w'' := fun d os => Lib.Calls.grows_of (CP.out _)
      have kT : ∀ d os, Calls Tryd.prog 18 #[.agg p.row] (Sort.grow (redrawn w3 d) os) fun e w'' => e = .returned (.string T) ∧ Lib.Grows (Sort.grow (redrawn w3 d) os) w'' := fun d os => Lib.Calls.grows_of (CT.out _ (HT.out.below (below_regrown w3 d os)))
      have kB : ∀ d os, Calls Tryd.prog 17 #[.agg p.row] (Sort.grow (redrawn w3 d) os) fun e w'' => e = .returned (.string Y) ∧ Lib.Grows (Sort.grow (redrawn w3 d) os) w'' := fun d os => Lib.Calls.grows_of (CB.out _)
      have kX : ∀ d os, Calls Tryd.prog 28 #[.agg p.row, .int .i64 I] (Sort.grow (redrawn w3 d) os) fun e w'' => e = .returned (.int .i64 (-1)) ∧ Lib.Grows (Sort.grow (redrawn w3 d) os) w'' := fun d os => Lib.Calls.grows_of (CX.out _)
      clear cA CR CM CN CK CL CO CP CT CB CX
      refine Lib.wp_region_made 54 (fun _ => none) (by kernel_rfl) (by kernel_rfl) Lib.stabP_none ?_
      simp only [List.take_succ_cons, List.take_zero, List.drop_succ_cons, List.drop_zero]
      repeat (first | refine Lib.wpML_val _ (by rfl) (by rfl) (fun w' hw' => exec_load_whole rfl rfl ((HELD.out (w.heap.size, p) (by simp)).b hw')) ?_ | refine Lib.wpML_val _ (by rfl) (by rfl) (fun w' hw' => exec_load_whole rfl rfl ((HELD.out (w.heap.size + 1, q) (by simp)).b hw')) ?_ | (refine Lib.wpML_step (by rfl) (fun K hK => ?_); go_simp; first | (refine hK _ ?_; clear hK K) | (apply Exists.intro; refine ⟨fun _ => ?_, hK _ ?_⟩; (first | (refine ⟨?_, by with_reducible exact kA _ _⟩; exact Lib.noInit (by kernel_rfl)) | (refine ⟨?_, by with_reducible exact kR _ _⟩; exact Lib.noInit (by kernel_rfl)) | (refine ⟨?_, by with_reducible exact kM _ _⟩; exact Lib.noInit (by kernel_rfl)) | (refine ⟨?_, by with_reducible exact kN _ _⟩; exact Lib.noInit (by kernel_rfl)) | (refine ⟨?_, by with_reducible exact kK _ _⟩; exact Lib.noInit (by kernel_rfl)) | (refine ⟨?_, by with_reducible exact kL _ _⟩; exact Lib.noInit (by kernel_rfl)) | (refine ⟨?_, by with_reducible exact kO _ _⟩; exact Lib.noInit (by kernel_rfl)) | (refine ⟨?_, by with_reducible exact kP _ _⟩; exact Lib.noInit (by kernel_rfl)) | (refine ⟨?_, by with_reducible exact kT _ _⟩; exact Lib.noInit (by kernel_rfl)) | (refine ⟨?_, by with_reducible exact kB _ _⟩; exact Lib.noInit (by kernel_rfl)) | (refine ⟨?_, by with_reducible exact kX _ _⟩; exact Lib.noInit (by kernel_rfl))); clear hK K)))
      refine Lib.wpML_nil ?_
      intro wN hw2 _
      have hb := Lib.Behind.below hw2
      clear hw2 kA kR kM kN kK kL kO kP kT kB kX
      have HELD' := Lib.hid (HELD.out.b hb); have HT' := Lib.hid (HT.out.below hb); have HB' := Lib.hid (bn HB.out hb)
      clear HELD HT HB hb; have HELD := HELD'; have HT := HT'; have HB := HB'; clear HELD' HT' HB'
      go_wp2
      go_ret
      exact ⟨rfl, HB.out⟩

end Go.Proofs.YtmccnmccegbdjaaDoor
