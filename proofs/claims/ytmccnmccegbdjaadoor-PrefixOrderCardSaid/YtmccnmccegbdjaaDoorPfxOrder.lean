/- The walk of the law PrefixOrder. (Printed by wip/print/pfxorder.py.) -/
import Derived.Test.YtmccnmccegbdjaaDoorPfxOrd
namespace Go.Proofs.YtmccnmccegbdjaaDoor
open Go.RowKit Go.Sort
set_option linter.unusedVariables false
set_option linter.unusedSimpArgs false
theorem boxes3 (w : World) (p q r : Px) (hp : p.A.length = 16) (hq : q.A.length = 16) (hr : r.A.length = 16) : Held [(w.heap.size, p), (w.heap.size + 1, q), (w.heap.size + 1 + 1, r)] (((w.alloc (.cells p.row 30)).alloc (.cells q.row 30)).alloc (.cells r.row 30)) ∧ Below w.heap.size w (((w.alloc (.cells p.row 30)).alloc (.cells q.row 30)).alloc (.cells r.row 30)) := by
  obtain ⟨h1, h2⟩ := boxes2 w p q hp hq
  have hsz : ((w.alloc (.cells p.row 30)).alloc (.cells q.row 30)).heap.size = w.heap.size + 1 + 1 := by simp
  have hr3 := PxAt.new ((w.alloc (.cells p.row 30)).alloc (.cells q.row 30)) r hr
  rw [hsz] at hr3
  have h3 := h1.b ((Below.refl _ _).alloc (Nat.le_refl _) (.cells r.row 30))
  refine ⟨fun x hx => ?_, h2.alloc (by rw [hsz]; omega) _⟩
  simp only [List.mem_cons, List.not_mem_nil, or_false] at hx
  rcases hx with rfl | rfl | rfl
  · exact h3 _ (by simp)
  · exact h3 _ (by simp)
  · exact hr3
set_option maxRecDepth 100000 in
set_option maxHeartbeats 64000000 in
theorem PrefixOrder_walk (p q r : Px) (hp : p.wf) (hq : q.wf) (hr : r.wf) (w : World) (ht : Tab w) : Calls Tryd.prog 6 #[.agg p.row, .agg q.row, .agg r.row] w fun e w' => e = .returned (.bool true) ∧ Below w.heap.size w w' := by
  obtain ⟨hh, hb0⟩ := boxes3 w p q r hp.len hq.len hr.len
  have HELD := Lib.hid hh; have HB := Lib.hid hb0; have HT := Lib.hid (ht.below hb0); clear hh hb0 ht
  have cA := fun w h => awake_calls w h
  have cPQ := fun w => Compare_calls w p q hp hq
  have cQP := fun w => Compare_calls w q p hq hp
  have cQR := fun w => Compare_calls w q r hq hr
  have cPR := fun w => Compare_calls w p r hp hr
  have cC := fun w => Contains_calls w p r hp hr
  have cD := fun w => Contains_calls w p q hp hq
  have cRQ := fun w => RRight_calls w q hq
  have hE : ∀ w', (Op.equalIn 10000 30 (.agg p.row) (.agg q.row)).run Tryd.prog w' = .ok (decide (p = q)) w' := fun w' => run_eql_px w' 9997 p q hp.len hq.len
  have hG : Tryd.prog.eqGuardType Tryd.prog.depth 30 = false := by kernel_rfl
  have h1 : (p.compare q = 0 ∧ q.compare p = 0 ∧ decide (p = q) = true) ∨ (p.compare q = -1 ∧ q.compare p = 1 ∧ decide (p = q) = false) ∨ (p.compare q = 1 ∧ q.compare p = -1 ∧ decide (p = q) = false) := by
    have hs := compare_swap p q
    have hz := compare_zero hp.len hq.len
    rcases compare_cases p q with ⟨e, _⟩ | ⟨e, _⟩ | ⟨e, _⟩
    · exact .inl ⟨e, by omega, decide_eq_true (hz.1 e)⟩
    · exact .inr (.inl ⟨e, by omega, decide_eq_false (fun h => by have := hz.2 h; omega)⟩)
    · exact .inr (.inr ⟨e, by omega, decide_eq_false (fun h => by have := hz.2 h; omega)⟩)
  have h2 : q.compare r = 0 ∨ q.compare r = -1 ∨ q.compare r = 1 := by
    rcases compare_cases q r with ⟨e, _⟩ | ⟨e, _⟩ | ⟨e, _⟩
    · exact .inl e
    · exact .inr (.inl e)
    · exact .inr (.inr e)
  have h3 : p.compare r = 0 ∨ p.compare r = -1 ∨ p.compare r = 1 := by
    rcases compare_cases p r with ⟨e, _⟩ | ⟨e, _⟩ | ⟨e, _⟩
    · exact .inl e
    · exact .inr (.inl e)
    · exact .inr (.inr e)
  have t1 : p.compare q ≤ 0 → q.compare r ≤ 0 → p.compare r ≤ 0 := compare_trans
  have t2 : 0 ≤ p.compare q → 0 ≤ q.compare r → 0 ≤ p.compare r := fun a b => by
    have s1 := compare_swap p q
    have s2 := compare_swap q r
    have s3 := compare_swap p r
    have := compare_trans (p := r) (q := q) (r := p) (by omega) (by omega)
    omega
  have k1 : p.contains r = true → p.compare r ≤ 0 := contains_le hr
  have k2 : p.contains r = true → p.compare q ≤ 0 → q.compare r ≤ 0 → q.right = true → p.contains q = true := contains_between hp hq hr
  obtain ⟨x, hx⟩ : ∃ x, p.compare q = x := ⟨_, rfl⟩
  obtain ⟨xx, hxx⟩ : ∃ x, q.compare p = x := ⟨_, rfl⟩
  obtain ⟨y, hy⟩ : ∃ x, q.compare r = x := ⟨_, rfl⟩
  obtain ⟨z, hz⟩ : ∃ x, p.compare r = x := ⟨_, rfl⟩
  obtain ⟨ee, hee⟩ : ∃ x, decide (p = q) = x := ⟨_, rfl⟩
  obtain ⟨c, hc⟩ : ∃ x, p.contains r = x := ⟨_, rfl⟩
  obtain ⟨cd, hcd⟩ : ∃ x, p.contains q = x := ⟨_, rfl⟩
  obtain ⟨rq, hrq⟩ : ∃ x, q.right = x := ⟨_, rfl⟩
  rw [hx] at cPQ h1 t1 t2 k2
  rw [hxx] at cQP h1
  rw [hy] at cQR h2 t1 t2 k2
  rw [hz] at cPR h3 t1 t2 k1
  rw [hc] at cC k1 k2
  rw [hcd] at cD k2
  rw [hrq] at cRQ k2
  rw [hee] at h1
  simp only [hee] at hE
  have HH1 := Lib.hid h1; have HH2 := Lib.hid h2; have HH3 := Lib.hid h3; have HT1 := Lib.hid t1; have HT2 := Lib.hid t2; have HK1 := Lib.hid k1; have HK2 := Lib.hid k2
  have HE := Lib.hid hE; have HG := Lib.hid hG
  clear hx hxx hy hz hee hc hcd hrq h1 h2 h3 t1 t2 k1 k2 hE hG
  go_enter Tryd.func6, Tryd.ntmps6
  go_wp2_with fail
  generalize ((w.alloc (.cells p.row 30)).alloc (.cells q.row 30)).alloc (.cells r.row 30) = w1 at *
  have c1 : ∀ d os, Calls Tryd.prog 22 #[.agg p.row, .agg q.row] (Sort.grow (redrawn w1 d) os) fun e w'' => e = .returned (.int .i64 x) ∧ Lib.Grows (Sort.grow (redrawn w1 d) os) w'' := fun d os => Lib.Calls.grows_of (cPQ _)
  have c2 : ∀ d os, Calls Tryd.prog 22 #[.agg q.row, .agg r.row] (Sort.grow (redrawn w1 d) os) fun e w'' => e = .returned (.int .i64 y) ∧ Lib.Grows (Sort.grow (redrawn w1 d) os) w'' := fun d os => Lib.Calls.grows_of (cQR _)
  have c3 : ∀ d os, Calls Tryd.prog 22 #[.agg p.row, .agg r.row] (Sort.grow (redrawn w1 d) os) fun e w'' => e = .returned (.int .i64 z) ∧ Lib.Grows (Sort.grow (redrawn w1 d) os) w'' := fun d os => Lib.Calls.grows_of (cPR _)
  refine Lib.wp_region_made 12 (fun _ => none) (by kernel_rfl) (by kernel_rfl) Lib.stabP_none ?_
  simp only [List.take_succ_cons, List.take_zero, List.drop_succ_cons, List.drop_zero]
  repeat (first | refine Lib.wpML_val _ (by rfl) (by rfl) (fun w' hw' => exec_load_whole rfl rfl ((HELD.out (w.heap.size, p) (by simp)).b hw')) ?_ | refine Lib.wpML_val _ (by rfl) (by rfl) (fun w' hw' => exec_load_whole rfl rfl ((HELD.out (w.heap.size + 1, q) (by simp)).b hw')) ?_ | refine Lib.wpML_val _ (by rfl) (by rfl) (fun w' hw' => exec_load_whole rfl rfl ((HELD.out (w.heap.size + 1 + 1, r) (by simp)).b hw')) ?_ | (refine Lib.wpML_step (by rfl) (fun K hK => ?_); go_simp; first | (refine hK _ ?_; clear hK K) | (apply Exists.intro; refine ⟨fun _ => ?_, hK _ ?_⟩; (first | (refine ⟨?_, by with_reducible exact c1 _ _⟩; exact Lib.noInit (by kernel_rfl)) | (refine ⟨?_, by with_reducible exact c2 _ _⟩; exact Lib.noInit (by kernel_rfl)) | (refine ⟨?_, by with_reducible exact c3 _ _⟩; exact Lib.noInit (by kernel_rfl))); clear hK K)))
  refine Lib.wpML_nil ?_
  intro wN hw2 _
  have hb := Lib.Behind.below hw2
  clear hw2 c1 c2 c3
  have HELD' := Lib.hid (HELD.out.b hb); have HT' := Lib.hid (HT.out.below hb); have HB' := Lib.hid (bn HB.out hb)
  clear HELD HT HB hb; have HELD := HELD'; have HT := HT'; have HB := HB'; clear HELD' HT' HB'
  rcases HH1.out with ⟨rfl, rfl, rfl⟩ | ⟨rfl, rfl, rfl⟩ | ⟨rfl, rfl, rfl⟩
  · rcases HH2.out with rfl | rfl | rfl
    · rcases HH3.out with rfl | rfl | rfl
      · clear HH1 HH2 HH3 HT1 HT2
        have hcc := HK1.out
        cases c with
        | false =>
          clear hcc
          go_wp2_with fail
          refine (cA _ HT.out).mono ?_
          rintro e wN ⟨rfl, hb⟩
          have HELD' := Lib.hid (HELD.out.b hb); have HT' := Lib.hid (HT.out.below hb); have HB' := Lib.hid (bn HB.out hb)
          clear HELD HT HB hb; have HELD := HELD'; have HT := HT'; have HB := HB'; clear HELD' HT' HB'
          go_wp2_with (with_reducible refine wpList_mark (o := ⟨some 23, _, _, _, _, _⟩) ?_)
          refine Marked.intro ?_
          refine Lib.wpList_runG (by rfl) (exec_load_whole rfl rfl (HELD.out (w.heap.size + 1, q) (by simp))) ?_
          go_wp2_with (with_reducible refine wpList_mark (o := ⟨some 24, _, _, _, _, _⟩) ?_)
          refine Marked.intro ?_
          refine Lib.wpList_runG (by rfl) (exec_load_whole rfl rfl (HELD.out (w.heap.size, p) (by simp))) ?_
          go_wp2_with fail
          refine (cQP _).mono ?_
          rintro e wN ⟨rfl, hb⟩
          have HELD' := Lib.hid (HELD.out.b hb); have HT' := Lib.hid (HT.out.below hb); have HB' := Lib.hid (bn HB.out hb)
          clear HELD HT HB hb; have HELD := HELD'; have HT := HT'; have HB := HB'; clear HELD' HT' HB'
          go_wp2_with (with_reducible refine wpList_mark (o := ⟨some 32, _, _, _, _, _⟩) ?_)
          refine Marked.intro ?_
          refine Lib.wpList_runG (by rfl) (exec_load_whole rfl rfl (HELD.out (w.heap.size, p) (by simp))) ?_
          go_wp2_with (with_reducible refine wpList_mark (o := ⟨some 33, _, _, _, _, _⟩) ?_)
          refine Marked.intro ?_
          refine Lib.wpList_runG (by rfl) (exec_load_whole rfl rfl (HELD.out (w.heap.size + 1, q) (by simp))) ?_
          have hE := HE.out
          have hG := HG.out
          go_wp2_with (with_reducible refine wpList_mark (o := ⟨some 61, _, _, _, _, _⟩) ?_)
          refine Marked.intro ?_
          refine wpList_run rfl (exec_load_whole rfl rfl (HELD.out (w.heap.size, p) (by simp))) ?_
          clear hE hG
          go_wp2_with (with_reducible refine wpList_mark (o := ⟨some 62, _, _, _, _, _⟩) ?_)
          refine Marked.intro ?_
          refine wpList_run rfl (exec_load_whole rfl rfl (HELD.out (w.heap.size + 1 + 1, r) (by simp))) ?_
          go_wp2_with fail
          refine (cC _).mono ?_
          rintro e wN ⟨rfl, hb⟩
          have HELD' := Lib.hid (HELD.out.b hb); have HT' := Lib.hid (HT.out.below hb); have HB' := Lib.hid (bn HB.out hb)
          clear HELD HT HB hb; have HELD := HELD'; have HT := HT'; have HB := HB'; clear HELD' HT' HB'
          go_wp2
          go_ret
          exact ⟨rfl, HB.out⟩

        | true =>
          clear hcc
          have hk := HK2.out rfl (by decide) (by decide)
          cases rq with
          | false =>
            clear hk
            go_wp2_with fail
            refine (cA _ HT.out).mono ?_
            rintro e wN ⟨rfl, hb⟩
            have HELD' := Lib.hid (HELD.out.b hb); have HT' := Lib.hid (HT.out.below hb); have HB' := Lib.hid (bn HB.out hb)
            clear HELD HT HB hb; have HELD := HELD'; have HT := HT'; have HB := HB'; clear HELD' HT' HB'
            go_wp2_with (with_reducible refine wpList_mark (o := ⟨some 23, _, _, _, _, _⟩) ?_)
            refine Marked.intro ?_
            refine Lib.wpList_runG (by rfl) (exec_load_whole rfl rfl (HELD.out (w.heap.size + 1, q) (by simp))) ?_
            go_wp2_with (with_reducible refine wpList_mark (o := ⟨some 24, _, _, _, _, _⟩) ?_)
            refine Marked.intro ?_
            refine Lib.wpList_runG (by rfl) (exec_load_whole rfl rfl (HELD.out (w.heap.size, p) (by simp))) ?_
            go_wp2_with fail
            refine (cQP _).mono ?_
            rintro e wN ⟨rfl, hb⟩
            have HELD' := Lib.hid (HELD.out.b hb); have HT' := Lib.hid (HT.out.below hb); have HB' := Lib.hid (bn HB.out hb)
            clear HELD HT HB hb; have HELD := HELD'; have HT := HT'; have HB := HB'; clear HELD' HT' HB'
            go_wp2_with (with_reducible refine wpList_mark (o := ⟨some 32, _, _, _, _, _⟩) ?_)
            refine Marked.intro ?_
            refine Lib.wpList_runG (by rfl) (exec_load_whole rfl rfl (HELD.out (w.heap.size, p) (by simp))) ?_
            go_wp2_with (with_reducible refine wpList_mark (o := ⟨some 33, _, _, _, _, _⟩) ?_)
            refine Marked.intro ?_
            refine Lib.wpList_runG (by rfl) (exec_load_whole rfl rfl (HELD.out (w.heap.size + 1, q) (by simp))) ?_
            have hE := HE.out
            have hG := HG.out
            go_wp2_with (with_reducible refine wpList_mark (o := ⟨some 61, _, _, _, _, _⟩) ?_)
            refine Marked.intro ?_
            refine wpList_run rfl (exec_load_whole rfl rfl (HELD.out (w.heap.size, p) (by simp))) ?_
            clear hE hG
            go_wp2_with (with_reducible refine wpList_mark (o := ⟨some 62, _, _, _, _, _⟩) ?_)
            refine Marked.intro ?_
            refine wpList_run rfl (exec_load_whole rfl rfl (HELD.out (w.heap.size + 1 + 1, r) (by simp))) ?_
            go_wp2_with fail
            refine (cC _).mono ?_
            rintro e wN ⟨rfl, hb⟩
            have HELD' := Lib.hid (HELD.out.b hb); have HT' := Lib.hid (HT.out.below hb); have HB' := Lib.hid (bn HB.out hb)
            clear HELD HT HB hb; have HELD := HELD'; have HT := HT'; have HB := HB'; clear HELD' HT' HB'
            go_wp2_with (with_reducible refine wpList_mark (o := ⟨some 75, _, _, _, _, _⟩) ?_)
            refine Marked.intro ?_
            refine Lib.wpList_runG (by rfl) (exec_load_whole rfl rfl (HELD.out (w.heap.size + 1, q) (by simp))) ?_
            go_wp2_with fail
            refine (cRQ _).mono ?_
            rintro e wN ⟨rfl, hb⟩
            have HELD' := Lib.hid (HELD.out.b hb); have HT' := Lib.hid (HT.out.below hb); have HB' := Lib.hid (bn HB.out hb)
            clear HELD HT HB hb; have HELD := HELD'; have HT := HT'; have HB := HB'; clear HELD' HT' HB'
            go_wp2
            go_ret
            exact ⟨rfl, HB.out⟩

          | true =>
            have hcd := hk rfl
            subst hcd
            clear hk
            go_wp2_with fail
            refine (cA _ HT.out).mono ?_
            rintro e wN ⟨rfl, hb⟩
            have HELD' := Lib.hid (HELD.out.b hb); have HT' := Lib.hid (HT.out.below hb); have HB' := Lib.hid (bn HB.out hb)
            clear HELD HT HB hb; have HELD := HELD'; have HT := HT'; have HB := HB'; clear HELD' HT' HB'
            go_wp2_with (with_reducible refine wpList_mark (o := ⟨some 23, _, _, _, _, _⟩) ?_)
            refine Marked.intro ?_
            refine Lib.wpList_runG (by rfl) (exec_load_whole rfl rfl (HELD.out (w.heap.size + 1, q) (by simp))) ?_
            go_wp2_with (with_reducible refine wpList_mark (o := ⟨some 24, _, _, _, _, _⟩) ?_)
            refine Marked.intro ?_
            refine Lib.wpList_runG (by rfl) (exec_load_whole rfl rfl (HELD.out (w.heap.size, p) (by simp))) ?_
            go_wp2_with fail
            refine (cQP _).mono ?_
            rintro e wN ⟨rfl, hb⟩
            have HELD' := Lib.hid (HELD.out.b hb); have HT' := Lib.hid (HT.out.below hb); have HB' := Lib.hid (bn HB.out hb)
            clear HELD HT HB hb; have HELD := HELD'; have HT := HT'; have HB := HB'; clear HELD' HT' HB'
            go_wp2_with (with_reducible refine wpList_mark (o := ⟨some 32, _, _, _, _, _⟩) ?_)
            refine Marked.intro ?_
            refine Lib.wpList_runG (by rfl) (exec_load_whole rfl rfl (HELD.out (w.heap.size, p) (by simp))) ?_
            go_wp2_with (with_reducible refine wpList_mark (o := ⟨some 33, _, _, _, _, _⟩) ?_)
            refine Marked.intro ?_
            refine Lib.wpList_runG (by rfl) (exec_load_whole rfl rfl (HELD.out (w.heap.size + 1, q) (by simp))) ?_
            have hE := HE.out
            have hG := HG.out
            go_wp2_with (with_reducible refine wpList_mark (o := ⟨some 61, _, _, _, _, _⟩) ?_)
            refine Marked.intro ?_
            refine wpList_run rfl (exec_load_whole rfl rfl (HELD.out (w.heap.size, p) (by simp))) ?_
            clear hE hG
            go_wp2_with (with_reducible refine wpList_mark (o := ⟨some 62, _, _, _, _, _⟩) ?_)
            refine Marked.intro ?_
            refine wpList_run rfl (exec_load_whole rfl rfl (HELD.out (w.heap.size + 1 + 1, r) (by simp))) ?_
            go_wp2_with fail
            refine (cC _).mono ?_
            rintro e wN ⟨rfl, hb⟩
            have HELD' := Lib.hid (HELD.out.b hb); have HT' := Lib.hid (HT.out.below hb); have HB' := Lib.hid (bn HB.out hb)
            clear HELD HT HB hb; have HELD := HELD'; have HT := HT'; have HB := HB'; clear HELD' HT' HB'
            go_wp2_with (with_reducible refine wpList_mark (o := ⟨some 75, _, _, _, _, _⟩) ?_)
            refine Marked.intro ?_
            refine Lib.wpList_runG (by rfl) (exec_load_whole rfl rfl (HELD.out (w.heap.size + 1, q) (by simp))) ?_
            go_wp2_with fail
            refine (cRQ _).mono ?_
            rintro e wN ⟨rfl, hb⟩
            have HELD' := Lib.hid (HELD.out.b hb); have HT' := Lib.hid (HT.out.below hb); have HB' := Lib.hid (bn HB.out hb)
            clear HELD HT HB hb; have HELD := HELD'; have HT := HT'; have HB := HB'; clear HELD' HT' HB'
            go_wp2_with (with_reducible refine wpList_mark (o := ⟨some 80, _, _, _, _, _⟩) ?_)
            refine Marked.intro ?_
            refine Lib.wpList_runG (by rfl) (exec_load_whole rfl rfl (HELD.out (w.heap.size, p) (by simp))) ?_
            go_wp2_with (with_reducible refine wpList_mark (o := ⟨some 81, _, _, _, _, _⟩) ?_)
            refine Marked.intro ?_
            refine Lib.wpList_runG (by rfl) (exec_load_whole rfl rfl (HELD.out (w.heap.size + 1, q) (by simp))) ?_
            go_wp2_with fail
            refine (cD _).mono ?_
            rintro e wN ⟨rfl, hb⟩
            have HELD' := Lib.hid (HELD.out.b hb); have HT' := Lib.hid (HT.out.below hb); have HB' := Lib.hid (bn HB.out hb)
            clear HELD HT HB hb; have HELD := HELD'; have HT := HT'; have HB := HB'; clear HELD' HT' HB'
            go_wp2
            go_ret
            exact ⟨rfl, HB.out⟩
      · exact absurd (HT2.out (by decide) (by decide)) (by decide)
      · exact absurd (HT1.out (by decide) (by decide)) (by decide)
    · rcases HH3.out with rfl | rfl | rfl
      · clear HH1 HH2 HH3 HT1 HT2
        have hcc := HK1.out
        cases c with
        | false =>
          clear hcc
          go_wp2_with fail
          refine (cA _ HT.out).mono ?_
          rintro e wN ⟨rfl, hb⟩
          have HELD' := Lib.hid (HELD.out.b hb); have HT' := Lib.hid (HT.out.below hb); have HB' := Lib.hid (bn HB.out hb)
          clear HELD HT HB hb; have HELD := HELD'; have HT := HT'; have HB := HB'; clear HELD' HT' HB'
          go_wp2_with (with_reducible refine wpList_mark (o := ⟨some 23, _, _, _, _, _⟩) ?_)
          refine Marked.intro ?_
          refine Lib.wpList_runG (by rfl) (exec_load_whole rfl rfl (HELD.out (w.heap.size + 1, q) (by simp))) ?_
          go_wp2_with (with_reducible refine wpList_mark (o := ⟨some 24, _, _, _, _, _⟩) ?_)
          refine Marked.intro ?_
          refine Lib.wpList_runG (by rfl) (exec_load_whole rfl rfl (HELD.out (w.heap.size, p) (by simp))) ?_
          go_wp2_with fail
          refine (cQP _).mono ?_
          rintro e wN ⟨rfl, hb⟩
          have HELD' := Lib.hid (HELD.out.b hb); have HT' := Lib.hid (HT.out.below hb); have HB' := Lib.hid (bn HB.out hb)
          clear HELD HT HB hb; have HELD := HELD'; have HT := HT'; have HB := HB'; clear HELD' HT' HB'
          go_wp2_with (with_reducible refine wpList_mark (o := ⟨some 32, _, _, _, _, _⟩) ?_)
          refine Marked.intro ?_
          refine Lib.wpList_runG (by rfl) (exec_load_whole rfl rfl (HELD.out (w.heap.size, p) (by simp))) ?_
          go_wp2_with (with_reducible refine wpList_mark (o := ⟨some 33, _, _, _, _, _⟩) ?_)
          refine Marked.intro ?_
          refine Lib.wpList_runG (by rfl) (exec_load_whole rfl rfl (HELD.out (w.heap.size + 1, q) (by simp))) ?_
          have hE := HE.out
          have hG := HG.out
          go_wp2_with (with_reducible refine wpList_mark (o := ⟨some 61, _, _, _, _, _⟩) ?_)
          refine Marked.intro ?_
          refine wpList_run rfl (exec_load_whole rfl rfl (HELD.out (w.heap.size, p) (by simp))) ?_
          clear hE hG
          go_wp2_with (with_reducible refine wpList_mark (o := ⟨some 62, _, _, _, _, _⟩) ?_)
          refine Marked.intro ?_
          refine wpList_run rfl (exec_load_whole rfl rfl (HELD.out (w.heap.size + 1 + 1, r) (by simp))) ?_
          go_wp2_with fail
          refine (cC _).mono ?_
          rintro e wN ⟨rfl, hb⟩
          have HELD' := Lib.hid (HELD.out.b hb); have HT' := Lib.hid (HT.out.below hb); have HB' := Lib.hid (bn HB.out hb)
          clear HELD HT HB hb; have HELD := HELD'; have HT := HT'; have HB := HB'; clear HELD' HT' HB'
          go_wp2
          go_ret
          exact ⟨rfl, HB.out⟩

        | true =>
          clear hcc
          have hk := HK2.out rfl (by decide) (by decide)
          cases rq with
          | false =>
            clear hk
            go_wp2_with fail
            refine (cA _ HT.out).mono ?_
            rintro e wN ⟨rfl, hb⟩
            have HELD' := Lib.hid (HELD.out.b hb); have HT' := Lib.hid (HT.out.below hb); have HB' := Lib.hid (bn HB.out hb)
            clear HELD HT HB hb; have HELD := HELD'; have HT := HT'; have HB := HB'; clear HELD' HT' HB'
            go_wp2_with (with_reducible refine wpList_mark (o := ⟨some 23, _, _, _, _, _⟩) ?_)
            refine Marked.intro ?_
            refine Lib.wpList_runG (by rfl) (exec_load_whole rfl rfl (HELD.out (w.heap.size + 1, q) (by simp))) ?_
            go_wp2_with (with_reducible refine wpList_mark (o := ⟨some 24, _, _, _, _, _⟩) ?_)
            refine Marked.intro ?_
            refine Lib.wpList_runG (by rfl) (exec_load_whole rfl rfl (HELD.out (w.heap.size, p) (by simp))) ?_
            go_wp2_with fail
            refine (cQP _).mono ?_
            rintro e wN ⟨rfl, hb⟩
            have HELD' := Lib.hid (HELD.out.b hb); have HT' := Lib.hid (HT.out.below hb); have HB' := Lib.hid (bn HB.out hb)
            clear HELD HT HB hb; have HELD := HELD'; have HT := HT'; have HB := HB'; clear HELD' HT' HB'
            go_wp2_with (with_reducible refine wpList_mark (o := ⟨some 32, _, _, _, _, _⟩) ?_)
            refine Marked.intro ?_
            refine Lib.wpList_runG (by rfl) (exec_load_whole rfl rfl (HELD.out (w.heap.size, p) (by simp))) ?_
            go_wp2_with (with_reducible refine wpList_mark (o := ⟨some 33, _, _, _, _, _⟩) ?_)
            refine Marked.intro ?_
            refine Lib.wpList_runG (by rfl) (exec_load_whole rfl rfl (HELD.out (w.heap.size + 1, q) (by simp))) ?_
            have hE := HE.out
            have hG := HG.out
            go_wp2_with (with_reducible refine wpList_mark (o := ⟨some 61, _, _, _, _, _⟩) ?_)
            refine Marked.intro ?_
            refine wpList_run rfl (exec_load_whole rfl rfl (HELD.out (w.heap.size, p) (by simp))) ?_
            clear hE hG
            go_wp2_with (with_reducible refine wpList_mark (o := ⟨some 62, _, _, _, _, _⟩) ?_)
            refine Marked.intro ?_
            refine wpList_run rfl (exec_load_whole rfl rfl (HELD.out (w.heap.size + 1 + 1, r) (by simp))) ?_
            go_wp2_with fail
            refine (cC _).mono ?_
            rintro e wN ⟨rfl, hb⟩
            have HELD' := Lib.hid (HELD.out.b hb); have HT' := Lib.hid (HT.out.below hb); have HB' := Lib.hid (bn HB.out hb)
            clear HELD HT HB hb; have HELD := HELD'; have HT := HT'; have HB := HB'; clear HELD' HT' HB'
            go_wp2_with (with_reducible refine wpList_mark (o := ⟨some 75, _, _, _, _, _⟩) ?_)
            refine Marked.intro ?_
            refine Lib.wpList_runG (by rfl) (exec_load_whole rfl rfl (HELD.out (w.heap.size + 1, q) (by simp))) ?_
            go_wp2_with fail
            refine (cRQ _).mono ?_
            rintro e wN ⟨rfl, hb⟩
            have HELD' := Lib.hid (HELD.out.b hb); have HT' := Lib.hid (HT.out.below hb); have HB' := Lib.hid (bn HB.out hb)
            clear HELD HT HB hb; have HELD := HELD'; have HT := HT'; have HB := HB'; clear HELD' HT' HB'
            go_wp2
            go_ret
            exact ⟨rfl, HB.out⟩

          | true =>
            have hcd := hk rfl
            subst hcd
            clear hk
            go_wp2_with fail
            refine (cA _ HT.out).mono ?_
            rintro e wN ⟨rfl, hb⟩
            have HELD' := Lib.hid (HELD.out.b hb); have HT' := Lib.hid (HT.out.below hb); have HB' := Lib.hid (bn HB.out hb)
            clear HELD HT HB hb; have HELD := HELD'; have HT := HT'; have HB := HB'; clear HELD' HT' HB'
            go_wp2_with (with_reducible refine wpList_mark (o := ⟨some 23, _, _, _, _, _⟩) ?_)
            refine Marked.intro ?_
            refine Lib.wpList_runG (by rfl) (exec_load_whole rfl rfl (HELD.out (w.heap.size + 1, q) (by simp))) ?_
            go_wp2_with (with_reducible refine wpList_mark (o := ⟨some 24, _, _, _, _, _⟩) ?_)
            refine Marked.intro ?_
            refine Lib.wpList_runG (by rfl) (exec_load_whole rfl rfl (HELD.out (w.heap.size, p) (by simp))) ?_
            go_wp2_with fail
            refine (cQP _).mono ?_
            rintro e wN ⟨rfl, hb⟩
            have HELD' := Lib.hid (HELD.out.b hb); have HT' := Lib.hid (HT.out.below hb); have HB' := Lib.hid (bn HB.out hb)
            clear HELD HT HB hb; have HELD := HELD'; have HT := HT'; have HB := HB'; clear HELD' HT' HB'
            go_wp2_with (with_reducible refine wpList_mark (o := ⟨some 32, _, _, _, _, _⟩) ?_)
            refine Marked.intro ?_
            refine Lib.wpList_runG (by rfl) (exec_load_whole rfl rfl (HELD.out (w.heap.size, p) (by simp))) ?_
            go_wp2_with (with_reducible refine wpList_mark (o := ⟨some 33, _, _, _, _, _⟩) ?_)
            refine Marked.intro ?_
            refine Lib.wpList_runG (by rfl) (exec_load_whole rfl rfl (HELD.out (w.heap.size + 1, q) (by simp))) ?_
            have hE := HE.out
            have hG := HG.out
            go_wp2_with (with_reducible refine wpList_mark (o := ⟨some 61, _, _, _, _, _⟩) ?_)
            refine Marked.intro ?_
            refine wpList_run rfl (exec_load_whole rfl rfl (HELD.out (w.heap.size, p) (by simp))) ?_
            clear hE hG
            go_wp2_with (with_reducible refine wpList_mark (o := ⟨some 62, _, _, _, _, _⟩) ?_)
            refine Marked.intro ?_
            refine wpList_run rfl (exec_load_whole rfl rfl (HELD.out (w.heap.size + 1 + 1, r) (by simp))) ?_
            go_wp2_with fail
            refine (cC _).mono ?_
            rintro e wN ⟨rfl, hb⟩
            have HELD' := Lib.hid (HELD.out.b hb); have HT' := Lib.hid (HT.out.below hb); have HB' := Lib.hid (bn HB.out hb)
            clear HELD HT HB hb; have HELD := HELD'; have HT := HT'; have HB := HB'; clear HELD' HT' HB'
            go_wp2_with (with_reducible refine wpList_mark (o := ⟨some 75, _, _, _, _, _⟩) ?_)
            refine Marked.intro ?_
            refine Lib.wpList_runG (by rfl) (exec_load_whole rfl rfl (HELD.out (w.heap.size + 1, q) (by simp))) ?_
            go_wp2_with fail
            refine (cRQ _).mono ?_
            rintro e wN ⟨rfl, hb⟩
            have HELD' := Lib.hid (HELD.out.b hb); have HT' := Lib.hid (HT.out.below hb); have HB' := Lib.hid (bn HB.out hb)
            clear HELD HT HB hb; have HELD := HELD'; have HT := HT'; have HB := HB'; clear HELD' HT' HB'
            go_wp2_with (with_reducible refine wpList_mark (o := ⟨some 80, _, _, _, _, _⟩) ?_)
            refine Marked.intro ?_
            refine Lib.wpList_runG (by rfl) (exec_load_whole rfl rfl (HELD.out (w.heap.size, p) (by simp))) ?_
            go_wp2_with (with_reducible refine wpList_mark (o := ⟨some 81, _, _, _, _, _⟩) ?_)
            refine Marked.intro ?_
            refine Lib.wpList_runG (by rfl) (exec_load_whole rfl rfl (HELD.out (w.heap.size + 1, q) (by simp))) ?_
            go_wp2_with fail
            refine (cD _).mono ?_
            rintro e wN ⟨rfl, hb⟩
            have HELD' := Lib.hid (HELD.out.b hb); have HT' := Lib.hid (HT.out.below hb); have HB' := Lib.hid (bn HB.out hb)
            clear HELD HT HB hb; have HELD := HELD'; have HT := HT'; have HB := HB'; clear HELD' HT' HB'
            go_wp2
            go_ret
            exact ⟨rfl, HB.out⟩
      · clear HH1 HH2 HH3 HT1 HT2
        have hcc := HK1.out
        cases c with
        | false =>
          clear hcc
          go_wp2_with fail
          refine (cA _ HT.out).mono ?_
          rintro e wN ⟨rfl, hb⟩
          have HELD' := Lib.hid (HELD.out.b hb); have HT' := Lib.hid (HT.out.below hb); have HB' := Lib.hid (bn HB.out hb)
          clear HELD HT HB hb; have HELD := HELD'; have HT := HT'; have HB := HB'; clear HELD' HT' HB'
          go_wp2_with (with_reducible refine wpList_mark (o := ⟨some 23, _, _, _, _, _⟩) ?_)
          refine Marked.intro ?_
          refine Lib.wpList_runG (by rfl) (exec_load_whole rfl rfl (HELD.out (w.heap.size + 1, q) (by simp))) ?_
          go_wp2_with (with_reducible refine wpList_mark (o := ⟨some 24, _, _, _, _, _⟩) ?_)
          refine Marked.intro ?_
          refine Lib.wpList_runG (by rfl) (exec_load_whole rfl rfl (HELD.out (w.heap.size, p) (by simp))) ?_
          go_wp2_with fail
          refine (cQP _).mono ?_
          rintro e wN ⟨rfl, hb⟩
          have HELD' := Lib.hid (HELD.out.b hb); have HT' := Lib.hid (HT.out.below hb); have HB' := Lib.hid (bn HB.out hb)
          clear HELD HT HB hb; have HELD := HELD'; have HT := HT'; have HB := HB'; clear HELD' HT' HB'
          go_wp2_with (with_reducible refine wpList_mark (o := ⟨some 32, _, _, _, _, _⟩) ?_)
          refine Marked.intro ?_
          refine Lib.wpList_runG (by rfl) (exec_load_whole rfl rfl (HELD.out (w.heap.size, p) (by simp))) ?_
          go_wp2_with (with_reducible refine wpList_mark (o := ⟨some 33, _, _, _, _, _⟩) ?_)
          refine Marked.intro ?_
          refine Lib.wpList_runG (by rfl) (exec_load_whole rfl rfl (HELD.out (w.heap.size + 1, q) (by simp))) ?_
          have hE := HE.out
          have hG := HG.out
          go_wp2_with (with_reducible refine wpList_mark (o := ⟨some 61, _, _, _, _, _⟩) ?_)
          refine Marked.intro ?_
          refine wpList_run rfl (exec_load_whole rfl rfl (HELD.out (w.heap.size, p) (by simp))) ?_
          clear hE hG
          go_wp2_with (with_reducible refine wpList_mark (o := ⟨some 62, _, _, _, _, _⟩) ?_)
          refine Marked.intro ?_
          refine wpList_run rfl (exec_load_whole rfl rfl (HELD.out (w.heap.size + 1 + 1, r) (by simp))) ?_
          go_wp2_with fail
          refine (cC _).mono ?_
          rintro e wN ⟨rfl, hb⟩
          have HELD' := Lib.hid (HELD.out.b hb); have HT' := Lib.hid (HT.out.below hb); have HB' := Lib.hid (bn HB.out hb)
          clear HELD HT HB hb; have HELD := HELD'; have HT := HT'; have HB := HB'; clear HELD' HT' HB'
          go_wp2
          go_ret
          exact ⟨rfl, HB.out⟩

        | true =>
          clear hcc
          have hk := HK2.out rfl (by decide) (by decide)
          cases rq with
          | false =>
            clear hk
            go_wp2_with fail
            refine (cA _ HT.out).mono ?_
            rintro e wN ⟨rfl, hb⟩
            have HELD' := Lib.hid (HELD.out.b hb); have HT' := Lib.hid (HT.out.below hb); have HB' := Lib.hid (bn HB.out hb)
            clear HELD HT HB hb; have HELD := HELD'; have HT := HT'; have HB := HB'; clear HELD' HT' HB'
            go_wp2_with (with_reducible refine wpList_mark (o := ⟨some 23, _, _, _, _, _⟩) ?_)
            refine Marked.intro ?_
            refine Lib.wpList_runG (by rfl) (exec_load_whole rfl rfl (HELD.out (w.heap.size + 1, q) (by simp))) ?_
            go_wp2_with (with_reducible refine wpList_mark (o := ⟨some 24, _, _, _, _, _⟩) ?_)
            refine Marked.intro ?_
            refine Lib.wpList_runG (by rfl) (exec_load_whole rfl rfl (HELD.out (w.heap.size, p) (by simp))) ?_
            go_wp2_with fail
            refine (cQP _).mono ?_
            rintro e wN ⟨rfl, hb⟩
            have HELD' := Lib.hid (HELD.out.b hb); have HT' := Lib.hid (HT.out.below hb); have HB' := Lib.hid (bn HB.out hb)
            clear HELD HT HB hb; have HELD := HELD'; have HT := HT'; have HB := HB'; clear HELD' HT' HB'
            go_wp2_with (with_reducible refine wpList_mark (o := ⟨some 32, _, _, _, _, _⟩) ?_)
            refine Marked.intro ?_
            refine Lib.wpList_runG (by rfl) (exec_load_whole rfl rfl (HELD.out (w.heap.size, p) (by simp))) ?_
            go_wp2_with (with_reducible refine wpList_mark (o := ⟨some 33, _, _, _, _, _⟩) ?_)
            refine Marked.intro ?_
            refine Lib.wpList_runG (by rfl) (exec_load_whole rfl rfl (HELD.out (w.heap.size + 1, q) (by simp))) ?_
            have hE := HE.out
            have hG := HG.out
            go_wp2_with (with_reducible refine wpList_mark (o := ⟨some 61, _, _, _, _, _⟩) ?_)
            refine Marked.intro ?_
            refine wpList_run rfl (exec_load_whole rfl rfl (HELD.out (w.heap.size, p) (by simp))) ?_
            clear hE hG
            go_wp2_with (with_reducible refine wpList_mark (o := ⟨some 62, _, _, _, _, _⟩) ?_)
            refine Marked.intro ?_
            refine wpList_run rfl (exec_load_whole rfl rfl (HELD.out (w.heap.size + 1 + 1, r) (by simp))) ?_
            go_wp2_with fail
            refine (cC _).mono ?_
            rintro e wN ⟨rfl, hb⟩
            have HELD' := Lib.hid (HELD.out.b hb); have HT' := Lib.hid (HT.out.below hb); have HB' := Lib.hid (bn HB.out hb)
            clear HELD HT HB hb; have HELD := HELD'; have HT := HT'; have HB := HB'; clear HELD' HT' HB'
            go_wp2_with (with_reducible refine wpList_mark (o := ⟨some 75, _, _, _, _, _⟩) ?_)
            refine Marked.intro ?_
            refine Lib.wpList_runG (by rfl) (exec_load_whole rfl rfl (HELD.out (w.heap.size + 1, q) (by simp))) ?_
            go_wp2_with fail
            refine (cRQ _).mono ?_
            rintro e wN ⟨rfl, hb⟩
            have HELD' := Lib.hid (HELD.out.b hb); have HT' := Lib.hid (HT.out.below hb); have HB' := Lib.hid (bn HB.out hb)
            clear HELD HT HB hb; have HELD := HELD'; have HT := HT'; have HB := HB'; clear HELD' HT' HB'
            go_wp2
            go_ret
            exact ⟨rfl, HB.out⟩

          | true =>
            have hcd := hk rfl
            subst hcd
            clear hk
            go_wp2_with fail
            refine (cA _ HT.out).mono ?_
            rintro e wN ⟨rfl, hb⟩
            have HELD' := Lib.hid (HELD.out.b hb); have HT' := Lib.hid (HT.out.below hb); have HB' := Lib.hid (bn HB.out hb)
            clear HELD HT HB hb; have HELD := HELD'; have HT := HT'; have HB := HB'; clear HELD' HT' HB'
            go_wp2_with (with_reducible refine wpList_mark (o := ⟨some 23, _, _, _, _, _⟩) ?_)
            refine Marked.intro ?_
            refine Lib.wpList_runG (by rfl) (exec_load_whole rfl rfl (HELD.out (w.heap.size + 1, q) (by simp))) ?_
            go_wp2_with (with_reducible refine wpList_mark (o := ⟨some 24, _, _, _, _, _⟩) ?_)
            refine Marked.intro ?_
            refine Lib.wpList_runG (by rfl) (exec_load_whole rfl rfl (HELD.out (w.heap.size, p) (by simp))) ?_
            go_wp2_with fail
            refine (cQP _).mono ?_
            rintro e wN ⟨rfl, hb⟩
            have HELD' := Lib.hid (HELD.out.b hb); have HT' := Lib.hid (HT.out.below hb); have HB' := Lib.hid (bn HB.out hb)
            clear HELD HT HB hb; have HELD := HELD'; have HT := HT'; have HB := HB'; clear HELD' HT' HB'
            go_wp2_with (with_reducible refine wpList_mark (o := ⟨some 32, _, _, _, _, _⟩) ?_)
            refine Marked.intro ?_
            refine Lib.wpList_runG (by rfl) (exec_load_whole rfl rfl (HELD.out (w.heap.size, p) (by simp))) ?_
            go_wp2_with (with_reducible refine wpList_mark (o := ⟨some 33, _, _, _, _, _⟩) ?_)
            refine Marked.intro ?_
            refine Lib.wpList_runG (by rfl) (exec_load_whole rfl rfl (HELD.out (w.heap.size + 1, q) (by simp))) ?_
            have hE := HE.out
            have hG := HG.out
            go_wp2_with (with_reducible refine wpList_mark (o := ⟨some 61, _, _, _, _, _⟩) ?_)
            refine Marked.intro ?_
            refine wpList_run rfl (exec_load_whole rfl rfl (HELD.out (w.heap.size, p) (by simp))) ?_
            clear hE hG
            go_wp2_with (with_reducible refine wpList_mark (o := ⟨some 62, _, _, _, _, _⟩) ?_)
            refine Marked.intro ?_
            refine wpList_run rfl (exec_load_whole rfl rfl (HELD.out (w.heap.size + 1 + 1, r) (by simp))) ?_
            go_wp2_with fail
            refine (cC _).mono ?_
            rintro e wN ⟨rfl, hb⟩
            have HELD' := Lib.hid (HELD.out.b hb); have HT' := Lib.hid (HT.out.below hb); have HB' := Lib.hid (bn HB.out hb)
            clear HELD HT HB hb; have HELD := HELD'; have HT := HT'; have HB := HB'; clear HELD' HT' HB'
            go_wp2_with (with_reducible refine wpList_mark (o := ⟨some 75, _, _, _, _, _⟩) ?_)
            refine Marked.intro ?_
            refine Lib.wpList_runG (by rfl) (exec_load_whole rfl rfl (HELD.out (w.heap.size + 1, q) (by simp))) ?_
            go_wp2_with fail
            refine (cRQ _).mono ?_
            rintro e wN ⟨rfl, hb⟩
            have HELD' := Lib.hid (HELD.out.b hb); have HT' := Lib.hid (HT.out.below hb); have HB' := Lib.hid (bn HB.out hb)
            clear HELD HT HB hb; have HELD := HELD'; have HT := HT'; have HB := HB'; clear HELD' HT' HB'
            go_wp2_with (with_reducible refine wpList_mark (o := ⟨some 80, _, _, _, _, _⟩) ?_)
            refine Marked.intro ?_
            refine Lib.wpList_runG (by rfl) (exec_load_whole rfl rfl (HELD.out (w.heap.size, p) (by simp))) ?_
            go_wp2_with (with_reducible refine wpList_mark (o := ⟨some 81, _, _, _, _, _⟩) ?_)
            refine Marked.intro ?_
            refine Lib.wpList_runG (by rfl) (exec_load_whole rfl rfl (HELD.out (w.heap.size + 1, q) (by simp))) ?_
            go_wp2_with fail
            refine (cD _).mono ?_
            rintro e wN ⟨rfl, hb⟩
            have HELD' := Lib.hid (HELD.out.b hb); have HT' := Lib.hid (HT.out.below hb); have HB' := Lib.hid (bn HB.out hb)
            clear HELD HT HB hb; have HELD := HELD'; have HT := HT'; have HB := HB'; clear HELD' HT' HB'
            go_wp2
            go_ret
            exact ⟨rfl, HB.out⟩
      · exact absurd (HT1.out (by decide) (by decide)) (by decide)
    · rcases HH3.out with rfl | rfl | rfl
      · clear HH1 HH2 HH3 HT1 HT2
        have hcc := HK1.out
        cases c with
        | false =>
          clear hcc
          go_wp2_with fail
          refine (cA _ HT.out).mono ?_
          rintro e wN ⟨rfl, hb⟩
          have HELD' := Lib.hid (HELD.out.b hb); have HT' := Lib.hid (HT.out.below hb); have HB' := Lib.hid (bn HB.out hb)
          clear HELD HT HB hb; have HELD := HELD'; have HT := HT'; have HB := HB'; clear HELD' HT' HB'
          go_wp2_with (with_reducible refine wpList_mark (o := ⟨some 23, _, _, _, _, _⟩) ?_)
          refine Marked.intro ?_
          refine Lib.wpList_runG (by rfl) (exec_load_whole rfl rfl (HELD.out (w.heap.size + 1, q) (by simp))) ?_
          go_wp2_with (with_reducible refine wpList_mark (o := ⟨some 24, _, _, _, _, _⟩) ?_)
          refine Marked.intro ?_
          refine Lib.wpList_runG (by rfl) (exec_load_whole rfl rfl (HELD.out (w.heap.size, p) (by simp))) ?_
          go_wp2_with fail
          refine (cQP _).mono ?_
          rintro e wN ⟨rfl, hb⟩
          have HELD' := Lib.hid (HELD.out.b hb); have HT' := Lib.hid (HT.out.below hb); have HB' := Lib.hid (bn HB.out hb)
          clear HELD HT HB hb; have HELD := HELD'; have HT := HT'; have HB := HB'; clear HELD' HT' HB'
          go_wp2_with (with_reducible refine wpList_mark (o := ⟨some 32, _, _, _, _, _⟩) ?_)
          refine Marked.intro ?_
          refine Lib.wpList_runG (by rfl) (exec_load_whole rfl rfl (HELD.out (w.heap.size, p) (by simp))) ?_
          go_wp2_with (with_reducible refine wpList_mark (o := ⟨some 33, _, _, _, _, _⟩) ?_)
          refine Marked.intro ?_
          refine Lib.wpList_runG (by rfl) (exec_load_whole rfl rfl (HELD.out (w.heap.size + 1, q) (by simp))) ?_
          have hE := HE.out
          have hG := HG.out
          go_wp2_with (with_reducible refine wpList_mark (o := ⟨some 61, _, _, _, _, _⟩) ?_)
          refine Marked.intro ?_
          refine wpList_run rfl (exec_load_whole rfl rfl (HELD.out (w.heap.size, p) (by simp))) ?_
          clear hE hG
          go_wp2_with (with_reducible refine wpList_mark (o := ⟨some 62, _, _, _, _, _⟩) ?_)
          refine Marked.intro ?_
          refine wpList_run rfl (exec_load_whole rfl rfl (HELD.out (w.heap.size + 1 + 1, r) (by simp))) ?_
          go_wp2_with fail
          refine (cC _).mono ?_
          rintro e wN ⟨rfl, hb⟩
          have HELD' := Lib.hid (HELD.out.b hb); have HT' := Lib.hid (HT.out.below hb); have HB' := Lib.hid (bn HB.out hb)
          clear HELD HT HB hb; have HELD := HELD'; have HT := HT'; have HB := HB'; clear HELD' HT' HB'
          go_wp2
          go_ret
          exact ⟨rfl, HB.out⟩

        | true =>
          clear hcc
          go_wp2_with fail
          refine (cA _ HT.out).mono ?_
          rintro e wN ⟨rfl, hb⟩
          have HELD' := Lib.hid (HELD.out.b hb); have HT' := Lib.hid (HT.out.below hb); have HB' := Lib.hid (bn HB.out hb)
          clear HELD HT HB hb; have HELD := HELD'; have HT := HT'; have HB := HB'; clear HELD' HT' HB'
          go_wp2_with (with_reducible refine wpList_mark (o := ⟨some 23, _, _, _, _, _⟩) ?_)
          refine Marked.intro ?_
          refine Lib.wpList_runG (by rfl) (exec_load_whole rfl rfl (HELD.out (w.heap.size + 1, q) (by simp))) ?_
          go_wp2_with (with_reducible refine wpList_mark (o := ⟨some 24, _, _, _, _, _⟩) ?_)
          refine Marked.intro ?_
          refine Lib.wpList_runG (by rfl) (exec_load_whole rfl rfl (HELD.out (w.heap.size, p) (by simp))) ?_
          go_wp2_with fail
          refine (cQP _).mono ?_
          rintro e wN ⟨rfl, hb⟩
          have HELD' := Lib.hid (HELD.out.b hb); have HT' := Lib.hid (HT.out.below hb); have HB' := Lib.hid (bn HB.out hb)
          clear HELD HT HB hb; have HELD := HELD'; have HT := HT'; have HB := HB'; clear HELD' HT' HB'
          go_wp2_with (with_reducible refine wpList_mark (o := ⟨some 32, _, _, _, _, _⟩) ?_)
          refine Marked.intro ?_
          refine Lib.wpList_runG (by rfl) (exec_load_whole rfl rfl (HELD.out (w.heap.size, p) (by simp))) ?_
          go_wp2_with (with_reducible refine wpList_mark (o := ⟨some 33, _, _, _, _, _⟩) ?_)
          refine Marked.intro ?_
          refine Lib.wpList_runG (by rfl) (exec_load_whole rfl rfl (HELD.out (w.heap.size + 1, q) (by simp))) ?_
          have hE := HE.out
          have hG := HG.out
          go_wp2_with (with_reducible refine wpList_mark (o := ⟨some 61, _, _, _, _, _⟩) ?_)
          refine Marked.intro ?_
          refine wpList_run rfl (exec_load_whole rfl rfl (HELD.out (w.heap.size, p) (by simp))) ?_
          clear hE hG
          go_wp2_with (with_reducible refine wpList_mark (o := ⟨some 62, _, _, _, _, _⟩) ?_)
          refine Marked.intro ?_
          refine wpList_run rfl (exec_load_whole rfl rfl (HELD.out (w.heap.size + 1 + 1, r) (by simp))) ?_
          go_wp2_with fail
          refine (cC _).mono ?_
          rintro e wN ⟨rfl, hb⟩
          have HELD' := Lib.hid (HELD.out.b hb); have HT' := Lib.hid (HT.out.below hb); have HB' := Lib.hid (bn HB.out hb)
          clear HELD HT HB hb; have HELD := HELD'; have HT := HT'; have HB := HB'; clear HELD' HT' HB'
          go_wp2
          go_ret
          exact ⟨rfl, HB.out⟩
      · exact absurd (HT2.out (by decide) (by decide)) (by decide)
      · clear HH1 HH2 HH3 HT1 HT2
        have hcc := HK1.out
        cases c with
        | false =>
          clear hcc
          go_wp2_with fail
          refine (cA _ HT.out).mono ?_
          rintro e wN ⟨rfl, hb⟩
          have HELD' := Lib.hid (HELD.out.b hb); have HT' := Lib.hid (HT.out.below hb); have HB' := Lib.hid (bn HB.out hb)
          clear HELD HT HB hb; have HELD := HELD'; have HT := HT'; have HB := HB'; clear HELD' HT' HB'
          go_wp2_with (with_reducible refine wpList_mark (o := ⟨some 23, _, _, _, _, _⟩) ?_)
          refine Marked.intro ?_
          refine Lib.wpList_runG (by rfl) (exec_load_whole rfl rfl (HELD.out (w.heap.size + 1, q) (by simp))) ?_
          go_wp2_with (with_reducible refine wpList_mark (o := ⟨some 24, _, _, _, _, _⟩) ?_)
          refine Marked.intro ?_
          refine Lib.wpList_runG (by rfl) (exec_load_whole rfl rfl (HELD.out (w.heap.size, p) (by simp))) ?_
          go_wp2_with fail
          refine (cQP _).mono ?_
          rintro e wN ⟨rfl, hb⟩
          have HELD' := Lib.hid (HELD.out.b hb); have HT' := Lib.hid (HT.out.below hb); have HB' := Lib.hid (bn HB.out hb)
          clear HELD HT HB hb; have HELD := HELD'; have HT := HT'; have HB := HB'; clear HELD' HT' HB'
          go_wp2_with (with_reducible refine wpList_mark (o := ⟨some 32, _, _, _, _, _⟩) ?_)
          refine Marked.intro ?_
          refine Lib.wpList_runG (by rfl) (exec_load_whole rfl rfl (HELD.out (w.heap.size, p) (by simp))) ?_
          go_wp2_with (with_reducible refine wpList_mark (o := ⟨some 33, _, _, _, _, _⟩) ?_)
          refine Marked.intro ?_
          refine Lib.wpList_runG (by rfl) (exec_load_whole rfl rfl (HELD.out (w.heap.size + 1, q) (by simp))) ?_
          have hE := HE.out
          have hG := HG.out
          go_wp2_with (with_reducible refine wpList_mark (o := ⟨some 61, _, _, _, _, _⟩) ?_)
          refine Marked.intro ?_
          refine wpList_run rfl (exec_load_whole rfl rfl (HELD.out (w.heap.size, p) (by simp))) ?_
          clear hE hG
          go_wp2_with (with_reducible refine wpList_mark (o := ⟨some 62, _, _, _, _, _⟩) ?_)
          refine Marked.intro ?_
          refine wpList_run rfl (exec_load_whole rfl rfl (HELD.out (w.heap.size + 1 + 1, r) (by simp))) ?_
          go_wp2_with fail
          refine (cC _).mono ?_
          rintro e wN ⟨rfl, hb⟩
          have HELD' := Lib.hid (HELD.out.b hb); have HT' := Lib.hid (HT.out.below hb); have HB' := Lib.hid (bn HB.out hb)
          clear HELD HT HB hb; have HELD := HELD'; have HT := HT'; have HB := HB'; clear HELD' HT' HB'
          go_wp2
          go_ret
          exact ⟨rfl, HB.out⟩

        | true =>
          exact absurd (hcc rfl) (by decide)
  · rcases HH2.out with rfl | rfl | rfl
    · rcases HH3.out with rfl | rfl | rfl
      · clear HH1 HH2 HH3 HT1 HT2
        have hcc := HK1.out
        cases c with
        | false =>
          clear hcc
          go_wp2_with fail
          refine (cA _ HT.out).mono ?_
          rintro e wN ⟨rfl, hb⟩
          have HELD' := Lib.hid (HELD.out.b hb); have HT' := Lib.hid (HT.out.below hb); have HB' := Lib.hid (bn HB.out hb)
          clear HELD HT HB hb; have HELD := HELD'; have HT := HT'; have HB := HB'; clear HELD' HT' HB'
          go_wp2_with (with_reducible refine wpList_mark (o := ⟨some 23, _, _, _, _, _⟩) ?_)
          refine Marked.intro ?_
          refine Lib.wpList_runG (by rfl) (exec_load_whole rfl rfl (HELD.out (w.heap.size + 1, q) (by simp))) ?_
          go_wp2_with (with_reducible refine wpList_mark (o := ⟨some 24, _, _, _, _, _⟩) ?_)
          refine Marked.intro ?_
          refine Lib.wpList_runG (by rfl) (exec_load_whole rfl rfl (HELD.out (w.heap.size, p) (by simp))) ?_
          go_wp2_with fail
          refine (cQP _).mono ?_
          rintro e wN ⟨rfl, hb⟩
          have HELD' := Lib.hid (HELD.out.b hb); have HT' := Lib.hid (HT.out.below hb); have HB' := Lib.hid (bn HB.out hb)
          clear HELD HT HB hb; have HELD := HELD'; have HT := HT'; have HB := HB'; clear HELD' HT' HB'
          go_wp2_with (with_reducible refine wpList_mark (o := ⟨some 32, _, _, _, _, _⟩) ?_)
          refine Marked.intro ?_
          refine Lib.wpList_runG (by rfl) (exec_load_whole rfl rfl (HELD.out (w.heap.size, p) (by simp))) ?_
          go_wp2_with (with_reducible refine wpList_mark (o := ⟨some 33, _, _, _, _, _⟩) ?_)
          refine Marked.intro ?_
          refine Lib.wpList_runG (by rfl) (exec_load_whole rfl rfl (HELD.out (w.heap.size + 1, q) (by simp))) ?_
          have hE := HE.out
          have hG := HG.out
          go_wp2_with (with_reducible refine wpList_mark (o := ⟨some 61, _, _, _, _, _⟩) ?_)
          refine Marked.intro ?_
          refine wpList_run rfl (exec_load_whole rfl rfl (HELD.out (w.heap.size, p) (by simp))) ?_
          clear hE hG
          go_wp2_with (with_reducible refine wpList_mark (o := ⟨some 62, _, _, _, _, _⟩) ?_)
          refine Marked.intro ?_
          refine wpList_run rfl (exec_load_whole rfl rfl (HELD.out (w.heap.size + 1 + 1, r) (by simp))) ?_
          go_wp2_with fail
          refine (cC _).mono ?_
          rintro e wN ⟨rfl, hb⟩
          have HELD' := Lib.hid (HELD.out.b hb); have HT' := Lib.hid (HT.out.below hb); have HB' := Lib.hid (bn HB.out hb)
          clear HELD HT HB hb; have HELD := HELD'; have HT := HT'; have HB := HB'; clear HELD' HT' HB'
          go_wp2
          go_ret
          exact ⟨rfl, HB.out⟩

        | true =>
          clear hcc
          have hk := HK2.out rfl (by decide) (by decide)
          cases rq with
          | false =>
            clear hk
            go_wp2_with fail
            refine (cA _ HT.out).mono ?_
            rintro e wN ⟨rfl, hb⟩
            have HELD' := Lib.hid (HELD.out.b hb); have HT' := Lib.hid (HT.out.below hb); have HB' := Lib.hid (bn HB.out hb)
            clear HELD HT HB hb; have HELD := HELD'; have HT := HT'; have HB := HB'; clear HELD' HT' HB'
            go_wp2_with (with_reducible refine wpList_mark (o := ⟨some 23, _, _, _, _, _⟩) ?_)
            refine Marked.intro ?_
            refine Lib.wpList_runG (by rfl) (exec_load_whole rfl rfl (HELD.out (w.heap.size + 1, q) (by simp))) ?_
            go_wp2_with (with_reducible refine wpList_mark (o := ⟨some 24, _, _, _, _, _⟩) ?_)
            refine Marked.intro ?_
            refine Lib.wpList_runG (by rfl) (exec_load_whole rfl rfl (HELD.out (w.heap.size, p) (by simp))) ?_
            go_wp2_with fail
            refine (cQP _).mono ?_
            rintro e wN ⟨rfl, hb⟩
            have HELD' := Lib.hid (HELD.out.b hb); have HT' := Lib.hid (HT.out.below hb); have HB' := Lib.hid (bn HB.out hb)
            clear HELD HT HB hb; have HELD := HELD'; have HT := HT'; have HB := HB'; clear HELD' HT' HB'
            go_wp2_with (with_reducible refine wpList_mark (o := ⟨some 32, _, _, _, _, _⟩) ?_)
            refine Marked.intro ?_
            refine Lib.wpList_runG (by rfl) (exec_load_whole rfl rfl (HELD.out (w.heap.size, p) (by simp))) ?_
            go_wp2_with (with_reducible refine wpList_mark (o := ⟨some 33, _, _, _, _, _⟩) ?_)
            refine Marked.intro ?_
            refine Lib.wpList_runG (by rfl) (exec_load_whole rfl rfl (HELD.out (w.heap.size + 1, q) (by simp))) ?_
            have hE := HE.out
            have hG := HG.out
            go_wp2_with (with_reducible refine wpList_mark (o := ⟨some 61, _, _, _, _, _⟩) ?_)
            refine Marked.intro ?_
            refine wpList_run rfl (exec_load_whole rfl rfl (HELD.out (w.heap.size, p) (by simp))) ?_
            clear hE hG
            go_wp2_with (with_reducible refine wpList_mark (o := ⟨some 62, _, _, _, _, _⟩) ?_)
            refine Marked.intro ?_
            refine wpList_run rfl (exec_load_whole rfl rfl (HELD.out (w.heap.size + 1 + 1, r) (by simp))) ?_
            go_wp2_with fail
            refine (cC _).mono ?_
            rintro e wN ⟨rfl, hb⟩
            have HELD' := Lib.hid (HELD.out.b hb); have HT' := Lib.hid (HT.out.below hb); have HB' := Lib.hid (bn HB.out hb)
            clear HELD HT HB hb; have HELD := HELD'; have HT := HT'; have HB := HB'; clear HELD' HT' HB'
            go_wp2_with (with_reducible refine wpList_mark (o := ⟨some 75, _, _, _, _, _⟩) ?_)
            refine Marked.intro ?_
            refine Lib.wpList_runG (by rfl) (exec_load_whole rfl rfl (HELD.out (w.heap.size + 1, q) (by simp))) ?_
            go_wp2_with fail
            refine (cRQ _).mono ?_
            rintro e wN ⟨rfl, hb⟩
            have HELD' := Lib.hid (HELD.out.b hb); have HT' := Lib.hid (HT.out.below hb); have HB' := Lib.hid (bn HB.out hb)
            clear HELD HT HB hb; have HELD := HELD'; have HT := HT'; have HB := HB'; clear HELD' HT' HB'
            go_wp2
            go_ret
            exact ⟨rfl, HB.out⟩

          | true =>
            have hcd := hk rfl
            subst hcd
            clear hk
            go_wp2_with fail
            refine (cA _ HT.out).mono ?_
            rintro e wN ⟨rfl, hb⟩
            have HELD' := Lib.hid (HELD.out.b hb); have HT' := Lib.hid (HT.out.below hb); have HB' := Lib.hid (bn HB.out hb)
            clear HELD HT HB hb; have HELD := HELD'; have HT := HT'; have HB := HB'; clear HELD' HT' HB'
            go_wp2_with (with_reducible refine wpList_mark (o := ⟨some 23, _, _, _, _, _⟩) ?_)
            refine Marked.intro ?_
            refine Lib.wpList_runG (by rfl) (exec_load_whole rfl rfl (HELD.out (w.heap.size + 1, q) (by simp))) ?_
            go_wp2_with (with_reducible refine wpList_mark (o := ⟨some 24, _, _, _, _, _⟩) ?_)
            refine Marked.intro ?_
            refine Lib.wpList_runG (by rfl) (exec_load_whole rfl rfl (HELD.out (w.heap.size, p) (by simp))) ?_
            go_wp2_with fail
            refine (cQP _).mono ?_
            rintro e wN ⟨rfl, hb⟩
            have HELD' := Lib.hid (HELD.out.b hb); have HT' := Lib.hid (HT.out.below hb); have HB' := Lib.hid (bn HB.out hb)
            clear HELD HT HB hb; have HELD := HELD'; have HT := HT'; have HB := HB'; clear HELD' HT' HB'
            go_wp2_with (with_reducible refine wpList_mark (o := ⟨some 32, _, _, _, _, _⟩) ?_)
            refine Marked.intro ?_
            refine Lib.wpList_runG (by rfl) (exec_load_whole rfl rfl (HELD.out (w.heap.size, p) (by simp))) ?_
            go_wp2_with (with_reducible refine wpList_mark (o := ⟨some 33, _, _, _, _, _⟩) ?_)
            refine Marked.intro ?_
            refine Lib.wpList_runG (by rfl) (exec_load_whole rfl rfl (HELD.out (w.heap.size + 1, q) (by simp))) ?_
            have hE := HE.out
            have hG := HG.out
            go_wp2_with (with_reducible refine wpList_mark (o := ⟨some 61, _, _, _, _, _⟩) ?_)
            refine Marked.intro ?_
            refine wpList_run rfl (exec_load_whole rfl rfl (HELD.out (w.heap.size, p) (by simp))) ?_
            clear hE hG
            go_wp2_with (with_reducible refine wpList_mark (o := ⟨some 62, _, _, _, _, _⟩) ?_)
            refine Marked.intro ?_
            refine wpList_run rfl (exec_load_whole rfl rfl (HELD.out (w.heap.size + 1 + 1, r) (by simp))) ?_
            go_wp2_with fail
            refine (cC _).mono ?_
            rintro e wN ⟨rfl, hb⟩
            have HELD' := Lib.hid (HELD.out.b hb); have HT' := Lib.hid (HT.out.below hb); have HB' := Lib.hid (bn HB.out hb)
            clear HELD HT HB hb; have HELD := HELD'; have HT := HT'; have HB := HB'; clear HELD' HT' HB'
            go_wp2_with (with_reducible refine wpList_mark (o := ⟨some 75, _, _, _, _, _⟩) ?_)
            refine Marked.intro ?_
            refine Lib.wpList_runG (by rfl) (exec_load_whole rfl rfl (HELD.out (w.heap.size + 1, q) (by simp))) ?_
            go_wp2_with fail
            refine (cRQ _).mono ?_
            rintro e wN ⟨rfl, hb⟩
            have HELD' := Lib.hid (HELD.out.b hb); have HT' := Lib.hid (HT.out.below hb); have HB' := Lib.hid (bn HB.out hb)
            clear HELD HT HB hb; have HELD := HELD'; have HT := HT'; have HB := HB'; clear HELD' HT' HB'
            go_wp2_with (with_reducible refine wpList_mark (o := ⟨some 80, _, _, _, _, _⟩) ?_)
            refine Marked.intro ?_
            refine Lib.wpList_runG (by rfl) (exec_load_whole rfl rfl (HELD.out (w.heap.size, p) (by simp))) ?_
            go_wp2_with (with_reducible refine wpList_mark (o := ⟨some 81, _, _, _, _, _⟩) ?_)
            refine Marked.intro ?_
            refine Lib.wpList_runG (by rfl) (exec_load_whole rfl rfl (HELD.out (w.heap.size + 1, q) (by simp))) ?_
            go_wp2_with fail
            refine (cD _).mono ?_
            rintro e wN ⟨rfl, hb⟩
            have HELD' := Lib.hid (HELD.out.b hb); have HT' := Lib.hid (HT.out.below hb); have HB' := Lib.hid (bn HB.out hb)
            clear HELD HT HB hb; have HELD := HELD'; have HT := HT'; have HB := HB'; clear HELD' HT' HB'
            go_wp2
            go_ret
            exact ⟨rfl, HB.out⟩
      · clear HH1 HH2 HH3 HT1 HT2
        have hcc := HK1.out
        cases c with
        | false =>
          clear hcc
          go_wp2_with fail
          refine (cA _ HT.out).mono ?_
          rintro e wN ⟨rfl, hb⟩
          have HELD' := Lib.hid (HELD.out.b hb); have HT' := Lib.hid (HT.out.below hb); have HB' := Lib.hid (bn HB.out hb)
          clear HELD HT HB hb; have HELD := HELD'; have HT := HT'; have HB := HB'; clear HELD' HT' HB'
          go_wp2_with (with_reducible refine wpList_mark (o := ⟨some 23, _, _, _, _, _⟩) ?_)
          refine Marked.intro ?_
          refine Lib.wpList_runG (by rfl) (exec_load_whole rfl rfl (HELD.out (w.heap.size + 1, q) (by simp))) ?_
          go_wp2_with (with_reducible refine wpList_mark (o := ⟨some 24, _, _, _, _, _⟩) ?_)
          refine Marked.intro ?_
          refine Lib.wpList_runG (by rfl) (exec_load_whole rfl rfl (HELD.out (w.heap.size, p) (by simp))) ?_
          go_wp2_with fail
          refine (cQP _).mono ?_
          rintro e wN ⟨rfl, hb⟩
          have HELD' := Lib.hid (HELD.out.b hb); have HT' := Lib.hid (HT.out.below hb); have HB' := Lib.hid (bn HB.out hb)
          clear HELD HT HB hb; have HELD := HELD'; have HT := HT'; have HB := HB'; clear HELD' HT' HB'
          go_wp2_with (with_reducible refine wpList_mark (o := ⟨some 32, _, _, _, _, _⟩) ?_)
          refine Marked.intro ?_
          refine Lib.wpList_runG (by rfl) (exec_load_whole rfl rfl (HELD.out (w.heap.size, p) (by simp))) ?_
          go_wp2_with (with_reducible refine wpList_mark (o := ⟨some 33, _, _, _, _, _⟩) ?_)
          refine Marked.intro ?_
          refine Lib.wpList_runG (by rfl) (exec_load_whole rfl rfl (HELD.out (w.heap.size + 1, q) (by simp))) ?_
          have hE := HE.out
          have hG := HG.out
          go_wp2_with (with_reducible refine wpList_mark (o := ⟨some 61, _, _, _, _, _⟩) ?_)
          refine Marked.intro ?_
          refine wpList_run rfl (exec_load_whole rfl rfl (HELD.out (w.heap.size, p) (by simp))) ?_
          clear hE hG
          go_wp2_with (with_reducible refine wpList_mark (o := ⟨some 62, _, _, _, _, _⟩) ?_)
          refine Marked.intro ?_
          refine wpList_run rfl (exec_load_whole rfl rfl (HELD.out (w.heap.size + 1 + 1, r) (by simp))) ?_
          go_wp2_with fail
          refine (cC _).mono ?_
          rintro e wN ⟨rfl, hb⟩
          have HELD' := Lib.hid (HELD.out.b hb); have HT' := Lib.hid (HT.out.below hb); have HB' := Lib.hid (bn HB.out hb)
          clear HELD HT HB hb; have HELD := HELD'; have HT := HT'; have HB := HB'; clear HELD' HT' HB'
          go_wp2
          go_ret
          exact ⟨rfl, HB.out⟩

        | true =>
          clear hcc
          have hk := HK2.out rfl (by decide) (by decide)
          cases rq with
          | false =>
            clear hk
            go_wp2_with fail
            refine (cA _ HT.out).mono ?_
            rintro e wN ⟨rfl, hb⟩
            have HELD' := Lib.hid (HELD.out.b hb); have HT' := Lib.hid (HT.out.below hb); have HB' := Lib.hid (bn HB.out hb)
            clear HELD HT HB hb; have HELD := HELD'; have HT := HT'; have HB := HB'; clear HELD' HT' HB'
            go_wp2_with (with_reducible refine wpList_mark (o := ⟨some 23, _, _, _, _, _⟩) ?_)
            refine Marked.intro ?_
            refine Lib.wpList_runG (by rfl) (exec_load_whole rfl rfl (HELD.out (w.heap.size + 1, q) (by simp))) ?_
            go_wp2_with (with_reducible refine wpList_mark (o := ⟨some 24, _, _, _, _, _⟩) ?_)
            refine Marked.intro ?_
            refine Lib.wpList_runG (by rfl) (exec_load_whole rfl rfl (HELD.out (w.heap.size, p) (by simp))) ?_
            go_wp2_with fail
            refine (cQP _).mono ?_
            rintro e wN ⟨rfl, hb⟩
            have HELD' := Lib.hid (HELD.out.b hb); have HT' := Lib.hid (HT.out.below hb); have HB' := Lib.hid (bn HB.out hb)
            clear HELD HT HB hb; have HELD := HELD'; have HT := HT'; have HB := HB'; clear HELD' HT' HB'
            go_wp2_with (with_reducible refine wpList_mark (o := ⟨some 32, _, _, _, _, _⟩) ?_)
            refine Marked.intro ?_
            refine Lib.wpList_runG (by rfl) (exec_load_whole rfl rfl (HELD.out (w.heap.size, p) (by simp))) ?_
            go_wp2_with (with_reducible refine wpList_mark (o := ⟨some 33, _, _, _, _, _⟩) ?_)
            refine Marked.intro ?_
            refine Lib.wpList_runG (by rfl) (exec_load_whole rfl rfl (HELD.out (w.heap.size + 1, q) (by simp))) ?_
            have hE := HE.out
            have hG := HG.out
            go_wp2_with (with_reducible refine wpList_mark (o := ⟨some 61, _, _, _, _, _⟩) ?_)
            refine Marked.intro ?_
            refine wpList_run rfl (exec_load_whole rfl rfl (HELD.out (w.heap.size, p) (by simp))) ?_
            clear hE hG
            go_wp2_with (with_reducible refine wpList_mark (o := ⟨some 62, _, _, _, _, _⟩) ?_)
            refine Marked.intro ?_
            refine wpList_run rfl (exec_load_whole rfl rfl (HELD.out (w.heap.size + 1 + 1, r) (by simp))) ?_
            go_wp2_with fail
            refine (cC _).mono ?_
            rintro e wN ⟨rfl, hb⟩
            have HELD' := Lib.hid (HELD.out.b hb); have HT' := Lib.hid (HT.out.below hb); have HB' := Lib.hid (bn HB.out hb)
            clear HELD HT HB hb; have HELD := HELD'; have HT := HT'; have HB := HB'; clear HELD' HT' HB'
            go_wp2_with (with_reducible refine wpList_mark (o := ⟨some 75, _, _, _, _, _⟩) ?_)
            refine Marked.intro ?_
            refine Lib.wpList_runG (by rfl) (exec_load_whole rfl rfl (HELD.out (w.heap.size + 1, q) (by simp))) ?_
            go_wp2_with fail
            refine (cRQ _).mono ?_
            rintro e wN ⟨rfl, hb⟩
            have HELD' := Lib.hid (HELD.out.b hb); have HT' := Lib.hid (HT.out.below hb); have HB' := Lib.hid (bn HB.out hb)
            clear HELD HT HB hb; have HELD := HELD'; have HT := HT'; have HB := HB'; clear HELD' HT' HB'
            go_wp2
            go_ret
            exact ⟨rfl, HB.out⟩

          | true =>
            have hcd := hk rfl
            subst hcd
            clear hk
            go_wp2_with fail
            refine (cA _ HT.out).mono ?_
            rintro e wN ⟨rfl, hb⟩
            have HELD' := Lib.hid (HELD.out.b hb); have HT' := Lib.hid (HT.out.below hb); have HB' := Lib.hid (bn HB.out hb)
            clear HELD HT HB hb; have HELD := HELD'; have HT := HT'; have HB := HB'; clear HELD' HT' HB'
            go_wp2_with (with_reducible refine wpList_mark (o := ⟨some 23, _, _, _, _, _⟩) ?_)
            refine Marked.intro ?_
            refine Lib.wpList_runG (by rfl) (exec_load_whole rfl rfl (HELD.out (w.heap.size + 1, q) (by simp))) ?_
            go_wp2_with (with_reducible refine wpList_mark (o := ⟨some 24, _, _, _, _, _⟩) ?_)
            refine Marked.intro ?_
            refine Lib.wpList_runG (by rfl) (exec_load_whole rfl rfl (HELD.out (w.heap.size, p) (by simp))) ?_
            go_wp2_with fail
            refine (cQP _).mono ?_
            rintro e wN ⟨rfl, hb⟩
            have HELD' := Lib.hid (HELD.out.b hb); have HT' := Lib.hid (HT.out.below hb); have HB' := Lib.hid (bn HB.out hb)
            clear HELD HT HB hb; have HELD := HELD'; have HT := HT'; have HB := HB'; clear HELD' HT' HB'
            go_wp2_with (with_reducible refine wpList_mark (o := ⟨some 32, _, _, _, _, _⟩) ?_)
            refine Marked.intro ?_
            refine Lib.wpList_runG (by rfl) (exec_load_whole rfl rfl (HELD.out (w.heap.size, p) (by simp))) ?_
            go_wp2_with (with_reducible refine wpList_mark (o := ⟨some 33, _, _, _, _, _⟩) ?_)
            refine Marked.intro ?_
            refine Lib.wpList_runG (by rfl) (exec_load_whole rfl rfl (HELD.out (w.heap.size + 1, q) (by simp))) ?_
            have hE := HE.out
            have hG := HG.out
            go_wp2_with (with_reducible refine wpList_mark (o := ⟨some 61, _, _, _, _, _⟩) ?_)
            refine Marked.intro ?_
            refine wpList_run rfl (exec_load_whole rfl rfl (HELD.out (w.heap.size, p) (by simp))) ?_
            clear hE hG
            go_wp2_with (with_reducible refine wpList_mark (o := ⟨some 62, _, _, _, _, _⟩) ?_)
            refine Marked.intro ?_
            refine wpList_run rfl (exec_load_whole rfl rfl (HELD.out (w.heap.size + 1 + 1, r) (by simp))) ?_
            go_wp2_with fail
            refine (cC _).mono ?_
            rintro e wN ⟨rfl, hb⟩
            have HELD' := Lib.hid (HELD.out.b hb); have HT' := Lib.hid (HT.out.below hb); have HB' := Lib.hid (bn HB.out hb)
            clear HELD HT HB hb; have HELD := HELD'; have HT := HT'; have HB := HB'; clear HELD' HT' HB'
            go_wp2_with (with_reducible refine wpList_mark (o := ⟨some 75, _, _, _, _, _⟩) ?_)
            refine Marked.intro ?_
            refine Lib.wpList_runG (by rfl) (exec_load_whole rfl rfl (HELD.out (w.heap.size + 1, q) (by simp))) ?_
            go_wp2_with fail
            refine (cRQ _).mono ?_
            rintro e wN ⟨rfl, hb⟩
            have HELD' := Lib.hid (HELD.out.b hb); have HT' := Lib.hid (HT.out.below hb); have HB' := Lib.hid (bn HB.out hb)
            clear HELD HT HB hb; have HELD := HELD'; have HT := HT'; have HB := HB'; clear HELD' HT' HB'
            go_wp2_with (with_reducible refine wpList_mark (o := ⟨some 80, _, _, _, _, _⟩) ?_)
            refine Marked.intro ?_
            refine Lib.wpList_runG (by rfl) (exec_load_whole rfl rfl (HELD.out (w.heap.size, p) (by simp))) ?_
            go_wp2_with (with_reducible refine wpList_mark (o := ⟨some 81, _, _, _, _, _⟩) ?_)
            refine Marked.intro ?_
            refine Lib.wpList_runG (by rfl) (exec_load_whole rfl rfl (HELD.out (w.heap.size + 1, q) (by simp))) ?_
            go_wp2_with fail
            refine (cD _).mono ?_
            rintro e wN ⟨rfl, hb⟩
            have HELD' := Lib.hid (HELD.out.b hb); have HT' := Lib.hid (HT.out.below hb); have HB' := Lib.hid (bn HB.out hb)
            clear HELD HT HB hb; have HELD := HELD'; have HT := HT'; have HB := HB'; clear HELD' HT' HB'
            go_wp2
            go_ret
            exact ⟨rfl, HB.out⟩
      · exact absurd (HT1.out (by decide) (by decide)) (by decide)
    · rcases HH3.out with rfl | rfl | rfl
      · clear HH1 HH2 HH3 HT1 HT2
        have hcc := HK1.out
        cases c with
        | false =>
          clear hcc
          go_wp2_with fail
          refine (cA _ HT.out).mono ?_
          rintro e wN ⟨rfl, hb⟩
          have HELD' := Lib.hid (HELD.out.b hb); have HT' := Lib.hid (HT.out.below hb); have HB' := Lib.hid (bn HB.out hb)
          clear HELD HT HB hb; have HELD := HELD'; have HT := HT'; have HB := HB'; clear HELD' HT' HB'
          go_wp2_with (with_reducible refine wpList_mark (o := ⟨some 23, _, _, _, _, _⟩) ?_)
          refine Marked.intro ?_
          refine Lib.wpList_runG (by rfl) (exec_load_whole rfl rfl (HELD.out (w.heap.size + 1, q) (by simp))) ?_
          go_wp2_with (with_reducible refine wpList_mark (o := ⟨some 24, _, _, _, _, _⟩) ?_)
          refine Marked.intro ?_
          refine Lib.wpList_runG (by rfl) (exec_load_whole rfl rfl (HELD.out (w.heap.size, p) (by simp))) ?_
          go_wp2_with fail
          refine (cQP _).mono ?_
          rintro e wN ⟨rfl, hb⟩
          have HELD' := Lib.hid (HELD.out.b hb); have HT' := Lib.hid (HT.out.below hb); have HB' := Lib.hid (bn HB.out hb)
          clear HELD HT HB hb; have HELD := HELD'; have HT := HT'; have HB := HB'; clear HELD' HT' HB'
          go_wp2_with (with_reducible refine wpList_mark (o := ⟨some 32, _, _, _, _, _⟩) ?_)
          refine Marked.intro ?_
          refine Lib.wpList_runG (by rfl) (exec_load_whole rfl rfl (HELD.out (w.heap.size, p) (by simp))) ?_
          go_wp2_with (with_reducible refine wpList_mark (o := ⟨some 33, _, _, _, _, _⟩) ?_)
          refine Marked.intro ?_
          refine Lib.wpList_runG (by rfl) (exec_load_whole rfl rfl (HELD.out (w.heap.size + 1, q) (by simp))) ?_
          have hE := HE.out
          have hG := HG.out
          go_wp2_with (with_reducible refine wpList_mark (o := ⟨some 61, _, _, _, _, _⟩) ?_)
          refine Marked.intro ?_
          refine wpList_run rfl (exec_load_whole rfl rfl (HELD.out (w.heap.size, p) (by simp))) ?_
          clear hE hG
          go_wp2_with (with_reducible refine wpList_mark (o := ⟨some 62, _, _, _, _, _⟩) ?_)
          refine Marked.intro ?_
          refine wpList_run rfl (exec_load_whole rfl rfl (HELD.out (w.heap.size + 1 + 1, r) (by simp))) ?_
          go_wp2_with fail
          refine (cC _).mono ?_
          rintro e wN ⟨rfl, hb⟩
          have HELD' := Lib.hid (HELD.out.b hb); have HT' := Lib.hid (HT.out.below hb); have HB' := Lib.hid (bn HB.out hb)
          clear HELD HT HB hb; have HELD := HELD'; have HT := HT'; have HB := HB'; clear HELD' HT' HB'
          go_wp2
          go_ret
          exact ⟨rfl, HB.out⟩

        | true =>
          clear hcc
          have hk := HK2.out rfl (by decide) (by decide)
          cases rq with
          | false =>
            clear hk
            go_wp2_with fail
            refine (cA _ HT.out).mono ?_
            rintro e wN ⟨rfl, hb⟩
            have HELD' := Lib.hid (HELD.out.b hb); have HT' := Lib.hid (HT.out.below hb); have HB' := Lib.hid (bn HB.out hb)
            clear HELD HT HB hb; have HELD := HELD'; have HT := HT'; have HB := HB'; clear HELD' HT' HB'
            go_wp2_with (with_reducible refine wpList_mark (o := ⟨some 23, _, _, _, _, _⟩) ?_)
            refine Marked.intro ?_
            refine Lib.wpList_runG (by rfl) (exec_load_whole rfl rfl (HELD.out (w.heap.size + 1, q) (by simp))) ?_
            go_wp2_with (with_reducible refine wpList_mark (o := ⟨some 24, _, _, _, _, _⟩) ?_)
            refine Marked.intro ?_
            refine Lib.wpList_runG (by rfl) (exec_load_whole rfl rfl (HELD.out (w.heap.size, p) (by simp))) ?_
            go_wp2_with fail
            refine (cQP _).mono ?_
            rintro e wN ⟨rfl, hb⟩
            have HELD' := Lib.hid (HELD.out.b hb); have HT' := Lib.hid (HT.out.below hb); have HB' := Lib.hid (bn HB.out hb)
            clear HELD HT HB hb; have HELD := HELD'; have HT := HT'; have HB := HB'; clear HELD' HT' HB'
            go_wp2_with (with_reducible refine wpList_mark (o := ⟨some 32, _, _, _, _, _⟩) ?_)
            refine Marked.intro ?_
            refine Lib.wpList_runG (by rfl) (exec_load_whole rfl rfl (HELD.out (w.heap.size, p) (by simp))) ?_
            go_wp2_with (with_reducible refine wpList_mark (o := ⟨some 33, _, _, _, _, _⟩) ?_)
            refine Marked.intro ?_
            refine Lib.wpList_runG (by rfl) (exec_load_whole rfl rfl (HELD.out (w.heap.size + 1, q) (by simp))) ?_
            have hE := HE.out
            have hG := HG.out
            go_wp2_with (with_reducible refine wpList_mark (o := ⟨some 61, _, _, _, _, _⟩) ?_)
            refine Marked.intro ?_
            refine wpList_run rfl (exec_load_whole rfl rfl (HELD.out (w.heap.size, p) (by simp))) ?_
            clear hE hG
            go_wp2_with (with_reducible refine wpList_mark (o := ⟨some 62, _, _, _, _, _⟩) ?_)
            refine Marked.intro ?_
            refine wpList_run rfl (exec_load_whole rfl rfl (HELD.out (w.heap.size + 1 + 1, r) (by simp))) ?_
            go_wp2_with fail
            refine (cC _).mono ?_
            rintro e wN ⟨rfl, hb⟩
            have HELD' := Lib.hid (HELD.out.b hb); have HT' := Lib.hid (HT.out.below hb); have HB' := Lib.hid (bn HB.out hb)
            clear HELD HT HB hb; have HELD := HELD'; have HT := HT'; have HB := HB'; clear HELD' HT' HB'
            go_wp2_with (with_reducible refine wpList_mark (o := ⟨some 75, _, _, _, _, _⟩) ?_)
            refine Marked.intro ?_
            refine Lib.wpList_runG (by rfl) (exec_load_whole rfl rfl (HELD.out (w.heap.size + 1, q) (by simp))) ?_
            go_wp2_with fail
            refine (cRQ _).mono ?_
            rintro e wN ⟨rfl, hb⟩
            have HELD' := Lib.hid (HELD.out.b hb); have HT' := Lib.hid (HT.out.below hb); have HB' := Lib.hid (bn HB.out hb)
            clear HELD HT HB hb; have HELD := HELD'; have HT := HT'; have HB := HB'; clear HELD' HT' HB'
            go_wp2
            go_ret
            exact ⟨rfl, HB.out⟩

          | true =>
            have hcd := hk rfl
            subst hcd
            clear hk
            go_wp2_with fail
            refine (cA _ HT.out).mono ?_
            rintro e wN ⟨rfl, hb⟩
            have HELD' := Lib.hid (HELD.out.b hb); have HT' := Lib.hid (HT.out.below hb); have HB' := Lib.hid (bn HB.out hb)
            clear HELD HT HB hb; have HELD := HELD'; have HT := HT'; have HB := HB'; clear HELD' HT' HB'
            go_wp2_with (with_reducible refine wpList_mark (o := ⟨some 23, _, _, _, _, _⟩) ?_)
            refine Marked.intro ?_
            refine Lib.wpList_runG (by rfl) (exec_load_whole rfl rfl (HELD.out (w.heap.size + 1, q) (by simp))) ?_
            go_wp2_with (with_reducible refine wpList_mark (o := ⟨some 24, _, _, _, _, _⟩) ?_)
            refine Marked.intro ?_
            refine Lib.wpList_runG (by rfl) (exec_load_whole rfl rfl (HELD.out (w.heap.size, p) (by simp))) ?_
            go_wp2_with fail
            refine (cQP _).mono ?_
            rintro e wN ⟨rfl, hb⟩
            have HELD' := Lib.hid (HELD.out.b hb); have HT' := Lib.hid (HT.out.below hb); have HB' := Lib.hid (bn HB.out hb)
            clear HELD HT HB hb; have HELD := HELD'; have HT := HT'; have HB := HB'; clear HELD' HT' HB'
            go_wp2_with (with_reducible refine wpList_mark (o := ⟨some 32, _, _, _, _, _⟩) ?_)
            refine Marked.intro ?_
            refine Lib.wpList_runG (by rfl) (exec_load_whole rfl rfl (HELD.out (w.heap.size, p) (by simp))) ?_
            go_wp2_with (with_reducible refine wpList_mark (o := ⟨some 33, _, _, _, _, _⟩) ?_)
            refine Marked.intro ?_
            refine Lib.wpList_runG (by rfl) (exec_load_whole rfl rfl (HELD.out (w.heap.size + 1, q) (by simp))) ?_
            have hE := HE.out
            have hG := HG.out
            go_wp2_with (with_reducible refine wpList_mark (o := ⟨some 61, _, _, _, _, _⟩) ?_)
            refine Marked.intro ?_
            refine wpList_run rfl (exec_load_whole rfl rfl (HELD.out (w.heap.size, p) (by simp))) ?_
            clear hE hG
            go_wp2_with (with_reducible refine wpList_mark (o := ⟨some 62, _, _, _, _, _⟩) ?_)
            refine Marked.intro ?_
            refine wpList_run rfl (exec_load_whole rfl rfl (HELD.out (w.heap.size + 1 + 1, r) (by simp))) ?_
            go_wp2_with fail
            refine (cC _).mono ?_
            rintro e wN ⟨rfl, hb⟩
            have HELD' := Lib.hid (HELD.out.b hb); have HT' := Lib.hid (HT.out.below hb); have HB' := Lib.hid (bn HB.out hb)
            clear HELD HT HB hb; have HELD := HELD'; have HT := HT'; have HB := HB'; clear HELD' HT' HB'
            go_wp2_with (with_reducible refine wpList_mark (o := ⟨some 75, _, _, _, _, _⟩) ?_)
            refine Marked.intro ?_
            refine Lib.wpList_runG (by rfl) (exec_load_whole rfl rfl (HELD.out (w.heap.size + 1, q) (by simp))) ?_
            go_wp2_with fail
            refine (cRQ _).mono ?_
            rintro e wN ⟨rfl, hb⟩
            have HELD' := Lib.hid (HELD.out.b hb); have HT' := Lib.hid (HT.out.below hb); have HB' := Lib.hid (bn HB.out hb)
            clear HELD HT HB hb; have HELD := HELD'; have HT := HT'; have HB := HB'; clear HELD' HT' HB'
            go_wp2_with (with_reducible refine wpList_mark (o := ⟨some 80, _, _, _, _, _⟩) ?_)
            refine Marked.intro ?_
            refine Lib.wpList_runG (by rfl) (exec_load_whole rfl rfl (HELD.out (w.heap.size, p) (by simp))) ?_
            go_wp2_with (with_reducible refine wpList_mark (o := ⟨some 81, _, _, _, _, _⟩) ?_)
            refine Marked.intro ?_
            refine Lib.wpList_runG (by rfl) (exec_load_whole rfl rfl (HELD.out (w.heap.size + 1, q) (by simp))) ?_
            go_wp2_with fail
            refine (cD _).mono ?_
            rintro e wN ⟨rfl, hb⟩
            have HELD' := Lib.hid (HELD.out.b hb); have HT' := Lib.hid (HT.out.below hb); have HB' := Lib.hid (bn HB.out hb)
            clear HELD HT HB hb; have HELD := HELD'; have HT := HT'; have HB := HB'; clear HELD' HT' HB'
            go_wp2
            go_ret
            exact ⟨rfl, HB.out⟩
      · clear HH1 HH2 HH3 HT1 HT2
        have hcc := HK1.out
        cases c with
        | false =>
          clear hcc
          go_wp2_with fail
          refine (cA _ HT.out).mono ?_
          rintro e wN ⟨rfl, hb⟩
          have HELD' := Lib.hid (HELD.out.b hb); have HT' := Lib.hid (HT.out.below hb); have HB' := Lib.hid (bn HB.out hb)
          clear HELD HT HB hb; have HELD := HELD'; have HT := HT'; have HB := HB'; clear HELD' HT' HB'
          go_wp2_with (with_reducible refine wpList_mark (o := ⟨some 23, _, _, _, _, _⟩) ?_)
          refine Marked.intro ?_
          refine Lib.wpList_runG (by rfl) (exec_load_whole rfl rfl (HELD.out (w.heap.size + 1, q) (by simp))) ?_
          go_wp2_with (with_reducible refine wpList_mark (o := ⟨some 24, _, _, _, _, _⟩) ?_)
          refine Marked.intro ?_
          refine Lib.wpList_runG (by rfl) (exec_load_whole rfl rfl (HELD.out (w.heap.size, p) (by simp))) ?_
          go_wp2_with fail
          refine (cQP _).mono ?_
          rintro e wN ⟨rfl, hb⟩
          have HELD' := Lib.hid (HELD.out.b hb); have HT' := Lib.hid (HT.out.below hb); have HB' := Lib.hid (bn HB.out hb)
          clear HELD HT HB hb; have HELD := HELD'; have HT := HT'; have HB := HB'; clear HELD' HT' HB'
          go_wp2_with (with_reducible refine wpList_mark (o := ⟨some 32, _, _, _, _, _⟩) ?_)
          refine Marked.intro ?_
          refine Lib.wpList_runG (by rfl) (exec_load_whole rfl rfl (HELD.out (w.heap.size, p) (by simp))) ?_
          go_wp2_with (with_reducible refine wpList_mark (o := ⟨some 33, _, _, _, _, _⟩) ?_)
          refine Marked.intro ?_
          refine Lib.wpList_runG (by rfl) (exec_load_whole rfl rfl (HELD.out (w.heap.size + 1, q) (by simp))) ?_
          have hE := HE.out
          have hG := HG.out
          go_wp2_with (with_reducible refine wpList_mark (o := ⟨some 61, _, _, _, _, _⟩) ?_)
          refine Marked.intro ?_
          refine wpList_run rfl (exec_load_whole rfl rfl (HELD.out (w.heap.size, p) (by simp))) ?_
          clear hE hG
          go_wp2_with (with_reducible refine wpList_mark (o := ⟨some 62, _, _, _, _, _⟩) ?_)
          refine Marked.intro ?_
          refine wpList_run rfl (exec_load_whole rfl rfl (HELD.out (w.heap.size + 1 + 1, r) (by simp))) ?_
          go_wp2_with fail
          refine (cC _).mono ?_
          rintro e wN ⟨rfl, hb⟩
          have HELD' := Lib.hid (HELD.out.b hb); have HT' := Lib.hid (HT.out.below hb); have HB' := Lib.hid (bn HB.out hb)
          clear HELD HT HB hb; have HELD := HELD'; have HT := HT'; have HB := HB'; clear HELD' HT' HB'
          go_wp2
          go_ret
          exact ⟨rfl, HB.out⟩

        | true =>
          clear hcc
          have hk := HK2.out rfl (by decide) (by decide)
          cases rq with
          | false =>
            clear hk
            go_wp2_with fail
            refine (cA _ HT.out).mono ?_
            rintro e wN ⟨rfl, hb⟩
            have HELD' := Lib.hid (HELD.out.b hb); have HT' := Lib.hid (HT.out.below hb); have HB' := Lib.hid (bn HB.out hb)
            clear HELD HT HB hb; have HELD := HELD'; have HT := HT'; have HB := HB'; clear HELD' HT' HB'
            go_wp2_with (with_reducible refine wpList_mark (o := ⟨some 23, _, _, _, _, _⟩) ?_)
            refine Marked.intro ?_
            refine Lib.wpList_runG (by rfl) (exec_load_whole rfl rfl (HELD.out (w.heap.size + 1, q) (by simp))) ?_
            go_wp2_with (with_reducible refine wpList_mark (o := ⟨some 24, _, _, _, _, _⟩) ?_)
            refine Marked.intro ?_
            refine Lib.wpList_runG (by rfl) (exec_load_whole rfl rfl (HELD.out (w.heap.size, p) (by simp))) ?_
            go_wp2_with fail
            refine (cQP _).mono ?_
            rintro e wN ⟨rfl, hb⟩
            have HELD' := Lib.hid (HELD.out.b hb); have HT' := Lib.hid (HT.out.below hb); have HB' := Lib.hid (bn HB.out hb)
            clear HELD HT HB hb; have HELD := HELD'; have HT := HT'; have HB := HB'; clear HELD' HT' HB'
            go_wp2_with (with_reducible refine wpList_mark (o := ⟨some 32, _, _, _, _, _⟩) ?_)
            refine Marked.intro ?_
            refine Lib.wpList_runG (by rfl) (exec_load_whole rfl rfl (HELD.out (w.heap.size, p) (by simp))) ?_
            go_wp2_with (with_reducible refine wpList_mark (o := ⟨some 33, _, _, _, _, _⟩) ?_)
            refine Marked.intro ?_
            refine Lib.wpList_runG (by rfl) (exec_load_whole rfl rfl (HELD.out (w.heap.size + 1, q) (by simp))) ?_
            have hE := HE.out
            have hG := HG.out
            go_wp2_with (with_reducible refine wpList_mark (o := ⟨some 61, _, _, _, _, _⟩) ?_)
            refine Marked.intro ?_
            refine wpList_run rfl (exec_load_whole rfl rfl (HELD.out (w.heap.size, p) (by simp))) ?_
            clear hE hG
            go_wp2_with (with_reducible refine wpList_mark (o := ⟨some 62, _, _, _, _, _⟩) ?_)
            refine Marked.intro ?_
            refine wpList_run rfl (exec_load_whole rfl rfl (HELD.out (w.heap.size + 1 + 1, r) (by simp))) ?_
            go_wp2_with fail
            refine (cC _).mono ?_
            rintro e wN ⟨rfl, hb⟩
            have HELD' := Lib.hid (HELD.out.b hb); have HT' := Lib.hid (HT.out.below hb); have HB' := Lib.hid (bn HB.out hb)
            clear HELD HT HB hb; have HELD := HELD'; have HT := HT'; have HB := HB'; clear HELD' HT' HB'
            go_wp2_with (with_reducible refine wpList_mark (o := ⟨some 75, _, _, _, _, _⟩) ?_)
            refine Marked.intro ?_
            refine Lib.wpList_runG (by rfl) (exec_load_whole rfl rfl (HELD.out (w.heap.size + 1, q) (by simp))) ?_
            go_wp2_with fail
            refine (cRQ _).mono ?_
            rintro e wN ⟨rfl, hb⟩
            have HELD' := Lib.hid (HELD.out.b hb); have HT' := Lib.hid (HT.out.below hb); have HB' := Lib.hid (bn HB.out hb)
            clear HELD HT HB hb; have HELD := HELD'; have HT := HT'; have HB := HB'; clear HELD' HT' HB'
            go_wp2
            go_ret
            exact ⟨rfl, HB.out⟩

          | true =>
            have hcd := hk rfl
            subst hcd
            clear hk
            go_wp2_with fail
            refine (cA _ HT.out).mono ?_
            rintro e wN ⟨rfl, hb⟩
            have HELD' := Lib.hid (HELD.out.b hb); have HT' := Lib.hid (HT.out.below hb); have HB' := Lib.hid (bn HB.out hb)
            clear HELD HT HB hb; have HELD := HELD'; have HT := HT'; have HB := HB'; clear HELD' HT' HB'
            go_wp2_with (with_reducible refine wpList_mark (o := ⟨some 23, _, _, _, _, _⟩) ?_)
            refine Marked.intro ?_
            refine Lib.wpList_runG (by rfl) (exec_load_whole rfl rfl (HELD.out (w.heap.size + 1, q) (by simp))) ?_
            go_wp2_with (with_reducible refine wpList_mark (o := ⟨some 24, _, _, _, _, _⟩) ?_)
            refine Marked.intro ?_
            refine Lib.wpList_runG (by rfl) (exec_load_whole rfl rfl (HELD.out (w.heap.size, p) (by simp))) ?_
            go_wp2_with fail
            refine (cQP _).mono ?_
            rintro e wN ⟨rfl, hb⟩
            have HELD' := Lib.hid (HELD.out.b hb); have HT' := Lib.hid (HT.out.below hb); have HB' := Lib.hid (bn HB.out hb)
            clear HELD HT HB hb; have HELD := HELD'; have HT := HT'; have HB := HB'; clear HELD' HT' HB'
            go_wp2_with (with_reducible refine wpList_mark (o := ⟨some 32, _, _, _, _, _⟩) ?_)
            refine Marked.intro ?_
            refine Lib.wpList_runG (by rfl) (exec_load_whole rfl rfl (HELD.out (w.heap.size, p) (by simp))) ?_
            go_wp2_with (with_reducible refine wpList_mark (o := ⟨some 33, _, _, _, _, _⟩) ?_)
            refine Marked.intro ?_
            refine Lib.wpList_runG (by rfl) (exec_load_whole rfl rfl (HELD.out (w.heap.size + 1, q) (by simp))) ?_
            have hE := HE.out
            have hG := HG.out
            go_wp2_with (with_reducible refine wpList_mark (o := ⟨some 61, _, _, _, _, _⟩) ?_)
            refine Marked.intro ?_
            refine wpList_run rfl (exec_load_whole rfl rfl (HELD.out (w.heap.size, p) (by simp))) ?_
            clear hE hG
            go_wp2_with (with_reducible refine wpList_mark (o := ⟨some 62, _, _, _, _, _⟩) ?_)
            refine Marked.intro ?_
            refine wpList_run rfl (exec_load_whole rfl rfl (HELD.out (w.heap.size + 1 + 1, r) (by simp))) ?_
            go_wp2_with fail
            refine (cC _).mono ?_
            rintro e wN ⟨rfl, hb⟩
            have HELD' := Lib.hid (HELD.out.b hb); have HT' := Lib.hid (HT.out.below hb); have HB' := Lib.hid (bn HB.out hb)
            clear HELD HT HB hb; have HELD := HELD'; have HT := HT'; have HB := HB'; clear HELD' HT' HB'
            go_wp2_with (with_reducible refine wpList_mark (o := ⟨some 75, _, _, _, _, _⟩) ?_)
            refine Marked.intro ?_
            refine Lib.wpList_runG (by rfl) (exec_load_whole rfl rfl (HELD.out (w.heap.size + 1, q) (by simp))) ?_
            go_wp2_with fail
            refine (cRQ _).mono ?_
            rintro e wN ⟨rfl, hb⟩
            have HELD' := Lib.hid (HELD.out.b hb); have HT' := Lib.hid (HT.out.below hb); have HB' := Lib.hid (bn HB.out hb)
            clear HELD HT HB hb; have HELD := HELD'; have HT := HT'; have HB := HB'; clear HELD' HT' HB'
            go_wp2_with (with_reducible refine wpList_mark (o := ⟨some 80, _, _, _, _, _⟩) ?_)
            refine Marked.intro ?_
            refine Lib.wpList_runG (by rfl) (exec_load_whole rfl rfl (HELD.out (w.heap.size, p) (by simp))) ?_
            go_wp2_with (with_reducible refine wpList_mark (o := ⟨some 81, _, _, _, _, _⟩) ?_)
            refine Marked.intro ?_
            refine Lib.wpList_runG (by rfl) (exec_load_whole rfl rfl (HELD.out (w.heap.size + 1, q) (by simp))) ?_
            go_wp2_with fail
            refine (cD _).mono ?_
            rintro e wN ⟨rfl, hb⟩
            have HELD' := Lib.hid (HELD.out.b hb); have HT' := Lib.hid (HT.out.below hb); have HB' := Lib.hid (bn HB.out hb)
            clear HELD HT HB hb; have HELD := HELD'; have HT := HT'; have HB := HB'; clear HELD' HT' HB'
            go_wp2
            go_ret
            exact ⟨rfl, HB.out⟩
      · exact absurd (HT1.out (by decide) (by decide)) (by decide)
    · rcases HH3.out with rfl | rfl | rfl
      · clear HH1 HH2 HH3 HT1 HT2
        have hcc := HK1.out
        cases c with
        | false =>
          clear hcc
          go_wp2_with fail
          refine (cA _ HT.out).mono ?_
          rintro e wN ⟨rfl, hb⟩
          have HELD' := Lib.hid (HELD.out.b hb); have HT' := Lib.hid (HT.out.below hb); have HB' := Lib.hid (bn HB.out hb)
          clear HELD HT HB hb; have HELD := HELD'; have HT := HT'; have HB := HB'; clear HELD' HT' HB'
          go_wp2_with (with_reducible refine wpList_mark (o := ⟨some 23, _, _, _, _, _⟩) ?_)
          refine Marked.intro ?_
          refine Lib.wpList_runG (by rfl) (exec_load_whole rfl rfl (HELD.out (w.heap.size + 1, q) (by simp))) ?_
          go_wp2_with (with_reducible refine wpList_mark (o := ⟨some 24, _, _, _, _, _⟩) ?_)
          refine Marked.intro ?_
          refine Lib.wpList_runG (by rfl) (exec_load_whole rfl rfl (HELD.out (w.heap.size, p) (by simp))) ?_
          go_wp2_with fail
          refine (cQP _).mono ?_
          rintro e wN ⟨rfl, hb⟩
          have HELD' := Lib.hid (HELD.out.b hb); have HT' := Lib.hid (HT.out.below hb); have HB' := Lib.hid (bn HB.out hb)
          clear HELD HT HB hb; have HELD := HELD'; have HT := HT'; have HB := HB'; clear HELD' HT' HB'
          go_wp2_with (with_reducible refine wpList_mark (o := ⟨some 32, _, _, _, _, _⟩) ?_)
          refine Marked.intro ?_
          refine Lib.wpList_runG (by rfl) (exec_load_whole rfl rfl (HELD.out (w.heap.size, p) (by simp))) ?_
          go_wp2_with (with_reducible refine wpList_mark (o := ⟨some 33, _, _, _, _, _⟩) ?_)
          refine Marked.intro ?_
          refine Lib.wpList_runG (by rfl) (exec_load_whole rfl rfl (HELD.out (w.heap.size + 1, q) (by simp))) ?_
          have hE := HE.out
          have hG := HG.out
          go_wp2_with (with_reducible refine wpList_mark (o := ⟨some 61, _, _, _, _, _⟩) ?_)
          refine Marked.intro ?_
          refine wpList_run rfl (exec_load_whole rfl rfl (HELD.out (w.heap.size, p) (by simp))) ?_
          clear hE hG
          go_wp2_with (with_reducible refine wpList_mark (o := ⟨some 62, _, _, _, _, _⟩) ?_)
          refine Marked.intro ?_
          refine wpList_run rfl (exec_load_whole rfl rfl (HELD.out (w.heap.size + 1 + 1, r) (by simp))) ?_
          go_wp2_with fail
          refine (cC _).mono ?_
          rintro e wN ⟨rfl, hb⟩
          have HELD' := Lib.hid (HELD.out.b hb); have HT' := Lib.hid (HT.out.below hb); have HB' := Lib.hid (bn HB.out hb)
          clear HELD HT HB hb; have HELD := HELD'; have HT := HT'; have HB := HB'; clear HELD' HT' HB'
          go_wp2
          go_ret
          exact ⟨rfl, HB.out⟩

        | true =>
          clear hcc
          go_wp2_with fail
          refine (cA _ HT.out).mono ?_
          rintro e wN ⟨rfl, hb⟩
          have HELD' := Lib.hid (HELD.out.b hb); have HT' := Lib.hid (HT.out.below hb); have HB' := Lib.hid (bn HB.out hb)
          clear HELD HT HB hb; have HELD := HELD'; have HT := HT'; have HB := HB'; clear HELD' HT' HB'
          go_wp2_with (with_reducible refine wpList_mark (o := ⟨some 23, _, _, _, _, _⟩) ?_)
          refine Marked.intro ?_
          refine Lib.wpList_runG (by rfl) (exec_load_whole rfl rfl (HELD.out (w.heap.size + 1, q) (by simp))) ?_
          go_wp2_with (with_reducible refine wpList_mark (o := ⟨some 24, _, _, _, _, _⟩) ?_)
          refine Marked.intro ?_
          refine Lib.wpList_runG (by rfl) (exec_load_whole rfl rfl (HELD.out (w.heap.size, p) (by simp))) ?_
          go_wp2_with fail
          refine (cQP _).mono ?_
          rintro e wN ⟨rfl, hb⟩
          have HELD' := Lib.hid (HELD.out.b hb); have HT' := Lib.hid (HT.out.below hb); have HB' := Lib.hid (bn HB.out hb)
          clear HELD HT HB hb; have HELD := HELD'; have HT := HT'; have HB := HB'; clear HELD' HT' HB'
          go_wp2_with (with_reducible refine wpList_mark (o := ⟨some 32, _, _, _, _, _⟩) ?_)
          refine Marked.intro ?_
          refine Lib.wpList_runG (by rfl) (exec_load_whole rfl rfl (HELD.out (w.heap.size, p) (by simp))) ?_
          go_wp2_with (with_reducible refine wpList_mark (o := ⟨some 33, _, _, _, _, _⟩) ?_)
          refine Marked.intro ?_
          refine Lib.wpList_runG (by rfl) (exec_load_whole rfl rfl (HELD.out (w.heap.size + 1, q) (by simp))) ?_
          have hE := HE.out
          have hG := HG.out
          go_wp2_with (with_reducible refine wpList_mark (o := ⟨some 61, _, _, _, _, _⟩) ?_)
          refine Marked.intro ?_
          refine wpList_run rfl (exec_load_whole rfl rfl (HELD.out (w.heap.size, p) (by simp))) ?_
          clear hE hG
          go_wp2_with (with_reducible refine wpList_mark (o := ⟨some 62, _, _, _, _, _⟩) ?_)
          refine Marked.intro ?_
          refine wpList_run rfl (exec_load_whole rfl rfl (HELD.out (w.heap.size + 1 + 1, r) (by simp))) ?_
          go_wp2_with fail
          refine (cC _).mono ?_
          rintro e wN ⟨rfl, hb⟩
          have HELD' := Lib.hid (HELD.out.b hb); have HT' := Lib.hid (HT.out.below hb); have HB' := Lib.hid (bn HB.out hb)
          clear HELD HT HB hb; have HELD := HELD'; have HT := HT'; have HB := HB'; clear HELD' HT' HB'
          go_wp2
          go_ret
          exact ⟨rfl, HB.out⟩
      · clear HH1 HH2 HH3 HT1 HT2
        have hcc := HK1.out
        cases c with
        | false =>
          clear hcc
          go_wp2_with fail
          refine (cA _ HT.out).mono ?_
          rintro e wN ⟨rfl, hb⟩
          have HELD' := Lib.hid (HELD.out.b hb); have HT' := Lib.hid (HT.out.below hb); have HB' := Lib.hid (bn HB.out hb)
          clear HELD HT HB hb; have HELD := HELD'; have HT := HT'; have HB := HB'; clear HELD' HT' HB'
          go_wp2_with (with_reducible refine wpList_mark (o := ⟨some 23, _, _, _, _, _⟩) ?_)
          refine Marked.intro ?_
          refine Lib.wpList_runG (by rfl) (exec_load_whole rfl rfl (HELD.out (w.heap.size + 1, q) (by simp))) ?_
          go_wp2_with (with_reducible refine wpList_mark (o := ⟨some 24, _, _, _, _, _⟩) ?_)
          refine Marked.intro ?_
          refine Lib.wpList_runG (by rfl) (exec_load_whole rfl rfl (HELD.out (w.heap.size, p) (by simp))) ?_
          go_wp2_with fail
          refine (cQP _).mono ?_
          rintro e wN ⟨rfl, hb⟩
          have HELD' := Lib.hid (HELD.out.b hb); have HT' := Lib.hid (HT.out.below hb); have HB' := Lib.hid (bn HB.out hb)
          clear HELD HT HB hb; have HELD := HELD'; have HT := HT'; have HB := HB'; clear HELD' HT' HB'
          go_wp2_with (with_reducible refine wpList_mark (o := ⟨some 32, _, _, _, _, _⟩) ?_)
          refine Marked.intro ?_
          refine Lib.wpList_runG (by rfl) (exec_load_whole rfl rfl (HELD.out (w.heap.size, p) (by simp))) ?_
          go_wp2_with (with_reducible refine wpList_mark (o := ⟨some 33, _, _, _, _, _⟩) ?_)
          refine Marked.intro ?_
          refine Lib.wpList_runG (by rfl) (exec_load_whole rfl rfl (HELD.out (w.heap.size + 1, q) (by simp))) ?_
          have hE := HE.out
          have hG := HG.out
          go_wp2_with (with_reducible refine wpList_mark (o := ⟨some 61, _, _, _, _, _⟩) ?_)
          refine Marked.intro ?_
          refine wpList_run rfl (exec_load_whole rfl rfl (HELD.out (w.heap.size, p) (by simp))) ?_
          clear hE hG
          go_wp2_with (with_reducible refine wpList_mark (o := ⟨some 62, _, _, _, _, _⟩) ?_)
          refine Marked.intro ?_
          refine wpList_run rfl (exec_load_whole rfl rfl (HELD.out (w.heap.size + 1 + 1, r) (by simp))) ?_
          go_wp2_with fail
          refine (cC _).mono ?_
          rintro e wN ⟨rfl, hb⟩
          have HELD' := Lib.hid (HELD.out.b hb); have HT' := Lib.hid (HT.out.below hb); have HB' := Lib.hid (bn HB.out hb)
          clear HELD HT HB hb; have HELD := HELD'; have HT := HT'; have HB := HB'; clear HELD' HT' HB'
          go_wp2
          go_ret
          exact ⟨rfl, HB.out⟩

        | true =>
          clear hcc
          go_wp2_with fail
          refine (cA _ HT.out).mono ?_
          rintro e wN ⟨rfl, hb⟩
          have HELD' := Lib.hid (HELD.out.b hb); have HT' := Lib.hid (HT.out.below hb); have HB' := Lib.hid (bn HB.out hb)
          clear HELD HT HB hb; have HELD := HELD'; have HT := HT'; have HB := HB'; clear HELD' HT' HB'
          go_wp2_with (with_reducible refine wpList_mark (o := ⟨some 23, _, _, _, _, _⟩) ?_)
          refine Marked.intro ?_
          refine Lib.wpList_runG (by rfl) (exec_load_whole rfl rfl (HELD.out (w.heap.size + 1, q) (by simp))) ?_
          go_wp2_with (with_reducible refine wpList_mark (o := ⟨some 24, _, _, _, _, _⟩) ?_)
          refine Marked.intro ?_
          refine Lib.wpList_runG (by rfl) (exec_load_whole rfl rfl (HELD.out (w.heap.size, p) (by simp))) ?_
          go_wp2_with fail
          refine (cQP _).mono ?_
          rintro e wN ⟨rfl, hb⟩
          have HELD' := Lib.hid (HELD.out.b hb); have HT' := Lib.hid (HT.out.below hb); have HB' := Lib.hid (bn HB.out hb)
          clear HELD HT HB hb; have HELD := HELD'; have HT := HT'; have HB := HB'; clear HELD' HT' HB'
          go_wp2_with (with_reducible refine wpList_mark (o := ⟨some 32, _, _, _, _, _⟩) ?_)
          refine Marked.intro ?_
          refine Lib.wpList_runG (by rfl) (exec_load_whole rfl rfl (HELD.out (w.heap.size, p) (by simp))) ?_
          go_wp2_with (with_reducible refine wpList_mark (o := ⟨some 33, _, _, _, _, _⟩) ?_)
          refine Marked.intro ?_
          refine Lib.wpList_runG (by rfl) (exec_load_whole rfl rfl (HELD.out (w.heap.size + 1, q) (by simp))) ?_
          have hE := HE.out
          have hG := HG.out
          go_wp2_with (with_reducible refine wpList_mark (o := ⟨some 61, _, _, _, _, _⟩) ?_)
          refine Marked.intro ?_
          refine wpList_run rfl (exec_load_whole rfl rfl (HELD.out (w.heap.size, p) (by simp))) ?_
          clear hE hG
          go_wp2_with (with_reducible refine wpList_mark (o := ⟨some 62, _, _, _, _, _⟩) ?_)
          refine Marked.intro ?_
          refine wpList_run rfl (exec_load_whole rfl rfl (HELD.out (w.heap.size + 1 + 1, r) (by simp))) ?_
          go_wp2_with fail
          refine (cC _).mono ?_
          rintro e wN ⟨rfl, hb⟩
          have HELD' := Lib.hid (HELD.out.b hb); have HT' := Lib.hid (HT.out.below hb); have HB' := Lib.hid (bn HB.out hb)
          clear HELD HT HB hb; have HELD := HELD'; have HT := HT'; have HB := HB'; clear HELD' HT' HB'
          go_wp2
          go_ret
          exact ⟨rfl, HB.out⟩
      · clear HH1 HH2 HH3 HT1 HT2
        have hcc := HK1.out
        cases c with
        | false =>
          clear hcc
          go_wp2_with fail
          refine (cA _ HT.out).mono ?_
          rintro e wN ⟨rfl, hb⟩
          have HELD' := Lib.hid (HELD.out.b hb); have HT' := Lib.hid (HT.out.below hb); have HB' := Lib.hid (bn HB.out hb)
          clear HELD HT HB hb; have HELD := HELD'; have HT := HT'; have HB := HB'; clear HELD' HT' HB'
          go_wp2_with (with_reducible refine wpList_mark (o := ⟨some 23, _, _, _, _, _⟩) ?_)
          refine Marked.intro ?_
          refine Lib.wpList_runG (by rfl) (exec_load_whole rfl rfl (HELD.out (w.heap.size + 1, q) (by simp))) ?_
          go_wp2_with (with_reducible refine wpList_mark (o := ⟨some 24, _, _, _, _, _⟩) ?_)
          refine Marked.intro ?_
          refine Lib.wpList_runG (by rfl) (exec_load_whole rfl rfl (HELD.out (w.heap.size, p) (by simp))) ?_
          go_wp2_with fail
          refine (cQP _).mono ?_
          rintro e wN ⟨rfl, hb⟩
          have HELD' := Lib.hid (HELD.out.b hb); have HT' := Lib.hid (HT.out.below hb); have HB' := Lib.hid (bn HB.out hb)
          clear HELD HT HB hb; have HELD := HELD'; have HT := HT'; have HB := HB'; clear HELD' HT' HB'
          go_wp2_with (with_reducible refine wpList_mark (o := ⟨some 32, _, _, _, _, _⟩) ?_)
          refine Marked.intro ?_
          refine Lib.wpList_runG (by rfl) (exec_load_whole rfl rfl (HELD.out (w.heap.size, p) (by simp))) ?_
          go_wp2_with (with_reducible refine wpList_mark (o := ⟨some 33, _, _, _, _, _⟩) ?_)
          refine Marked.intro ?_
          refine Lib.wpList_runG (by rfl) (exec_load_whole rfl rfl (HELD.out (w.heap.size + 1, q) (by simp))) ?_
          have hE := HE.out
          have hG := HG.out
          go_wp2_with (with_reducible refine wpList_mark (o := ⟨some 61, _, _, _, _, _⟩) ?_)
          refine Marked.intro ?_
          refine wpList_run rfl (exec_load_whole rfl rfl (HELD.out (w.heap.size, p) (by simp))) ?_
          clear hE hG
          go_wp2_with (with_reducible refine wpList_mark (o := ⟨some 62, _, _, _, _, _⟩) ?_)
          refine Marked.intro ?_
          refine wpList_run rfl (exec_load_whole rfl rfl (HELD.out (w.heap.size + 1 + 1, r) (by simp))) ?_
          go_wp2_with fail
          refine (cC _).mono ?_
          rintro e wN ⟨rfl, hb⟩
          have HELD' := Lib.hid (HELD.out.b hb); have HT' := Lib.hid (HT.out.below hb); have HB' := Lib.hid (bn HB.out hb)
          clear HELD HT HB hb; have HELD := HELD'; have HT := HT'; have HB := HB'; clear HELD' HT' HB'
          go_wp2
          go_ret
          exact ⟨rfl, HB.out⟩

        | true =>
          exact absurd (hcc rfl) (by decide)
  · rcases HH2.out with rfl | rfl | rfl
    · rcases HH3.out with rfl | rfl | rfl
      · clear HH1 HH2 HH3 HT1 HT2
        have hcc := HK1.out
        cases c with
        | false =>
          clear hcc
          go_wp2_with fail
          refine (cA _ HT.out).mono ?_
          rintro e wN ⟨rfl, hb⟩
          have HELD' := Lib.hid (HELD.out.b hb); have HT' := Lib.hid (HT.out.below hb); have HB' := Lib.hid (bn HB.out hb)
          clear HELD HT HB hb; have HELD := HELD'; have HT := HT'; have HB := HB'; clear HELD' HT' HB'
          go_wp2_with (with_reducible refine wpList_mark (o := ⟨some 23, _, _, _, _, _⟩) ?_)
          refine Marked.intro ?_
          refine Lib.wpList_runG (by rfl) (exec_load_whole rfl rfl (HELD.out (w.heap.size + 1, q) (by simp))) ?_
          go_wp2_with (with_reducible refine wpList_mark (o := ⟨some 24, _, _, _, _, _⟩) ?_)
          refine Marked.intro ?_
          refine Lib.wpList_runG (by rfl) (exec_load_whole rfl rfl (HELD.out (w.heap.size, p) (by simp))) ?_
          go_wp2_with fail
          refine (cQP _).mono ?_
          rintro e wN ⟨rfl, hb⟩
          have HELD' := Lib.hid (HELD.out.b hb); have HT' := Lib.hid (HT.out.below hb); have HB' := Lib.hid (bn HB.out hb)
          clear HELD HT HB hb; have HELD := HELD'; have HT := HT'; have HB := HB'; clear HELD' HT' HB'
          go_wp2_with (with_reducible refine wpList_mark (o := ⟨some 32, _, _, _, _, _⟩) ?_)
          refine Marked.intro ?_
          refine Lib.wpList_runG (by rfl) (exec_load_whole rfl rfl (HELD.out (w.heap.size, p) (by simp))) ?_
          go_wp2_with (with_reducible refine wpList_mark (o := ⟨some 33, _, _, _, _, _⟩) ?_)
          refine Marked.intro ?_
          refine Lib.wpList_runG (by rfl) (exec_load_whole rfl rfl (HELD.out (w.heap.size + 1, q) (by simp))) ?_
          have hE := HE.out
          have hG := HG.out
          go_wp2_with (with_reducible refine wpList_mark (o := ⟨some 61, _, _, _, _, _⟩) ?_)
          refine Marked.intro ?_
          refine wpList_run rfl (exec_load_whole rfl rfl (HELD.out (w.heap.size, p) (by simp))) ?_
          clear hE hG
          go_wp2_with (with_reducible refine wpList_mark (o := ⟨some 62, _, _, _, _, _⟩) ?_)
          refine Marked.intro ?_
          refine wpList_run rfl (exec_load_whole rfl rfl (HELD.out (w.heap.size + 1 + 1, r) (by simp))) ?_
          go_wp2_with fail
          refine (cC _).mono ?_
          rintro e wN ⟨rfl, hb⟩
          have HELD' := Lib.hid (HELD.out.b hb); have HT' := Lib.hid (HT.out.below hb); have HB' := Lib.hid (bn HB.out hb)
          clear HELD HT HB hb; have HELD := HELD'; have HT := HT'; have HB := HB'; clear HELD' HT' HB'
          go_wp2
          go_ret
          exact ⟨rfl, HB.out⟩

        | true =>
          clear hcc
          go_wp2_with fail
          refine (cA _ HT.out).mono ?_
          rintro e wN ⟨rfl, hb⟩
          have HELD' := Lib.hid (HELD.out.b hb); have HT' := Lib.hid (HT.out.below hb); have HB' := Lib.hid (bn HB.out hb)
          clear HELD HT HB hb; have HELD := HELD'; have HT := HT'; have HB := HB'; clear HELD' HT' HB'
          go_wp2_with (with_reducible refine wpList_mark (o := ⟨some 23, _, _, _, _, _⟩) ?_)
          refine Marked.intro ?_
          refine Lib.wpList_runG (by rfl) (exec_load_whole rfl rfl (HELD.out (w.heap.size + 1, q) (by simp))) ?_
          go_wp2_with (with_reducible refine wpList_mark (o := ⟨some 24, _, _, _, _, _⟩) ?_)
          refine Marked.intro ?_
          refine Lib.wpList_runG (by rfl) (exec_load_whole rfl rfl (HELD.out (w.heap.size, p) (by simp))) ?_
          go_wp2_with fail
          refine (cQP _).mono ?_
          rintro e wN ⟨rfl, hb⟩
          have HELD' := Lib.hid (HELD.out.b hb); have HT' := Lib.hid (HT.out.below hb); have HB' := Lib.hid (bn HB.out hb)
          clear HELD HT HB hb; have HELD := HELD'; have HT := HT'; have HB := HB'; clear HELD' HT' HB'
          go_wp2_with (with_reducible refine wpList_mark (o := ⟨some 32, _, _, _, _, _⟩) ?_)
          refine Marked.intro ?_
          refine Lib.wpList_runG (by rfl) (exec_load_whole rfl rfl (HELD.out (w.heap.size, p) (by simp))) ?_
          go_wp2_with (with_reducible refine wpList_mark (o := ⟨some 33, _, _, _, _, _⟩) ?_)
          refine Marked.intro ?_
          refine Lib.wpList_runG (by rfl) (exec_load_whole rfl rfl (HELD.out (w.heap.size + 1, q) (by simp))) ?_
          have hE := HE.out
          have hG := HG.out
          go_wp2_with (with_reducible refine wpList_mark (o := ⟨some 61, _, _, _, _, _⟩) ?_)
          refine Marked.intro ?_
          refine wpList_run rfl (exec_load_whole rfl rfl (HELD.out (w.heap.size, p) (by simp))) ?_
          clear hE hG
          go_wp2_with (with_reducible refine wpList_mark (o := ⟨some 62, _, _, _, _, _⟩) ?_)
          refine Marked.intro ?_
          refine wpList_run rfl (exec_load_whole rfl rfl (HELD.out (w.heap.size + 1 + 1, r) (by simp))) ?_
          go_wp2_with fail
          refine (cC _).mono ?_
          rintro e wN ⟨rfl, hb⟩
          have HELD' := Lib.hid (HELD.out.b hb); have HT' := Lib.hid (HT.out.below hb); have HB' := Lib.hid (bn HB.out hb)
          clear HELD HT HB hb; have HELD := HELD'; have HT := HT'; have HB := HB'; clear HELD' HT' HB'
          go_wp2
          go_ret
          exact ⟨rfl, HB.out⟩
      · exact absurd (HT2.out (by decide) (by decide)) (by decide)
      · clear HH1 HH2 HH3 HT1 HT2
        have hcc := HK1.out
        cases c with
        | false =>
          clear hcc
          go_wp2_with fail
          refine (cA _ HT.out).mono ?_
          rintro e wN ⟨rfl, hb⟩
          have HELD' := Lib.hid (HELD.out.b hb); have HT' := Lib.hid (HT.out.below hb); have HB' := Lib.hid (bn HB.out hb)
          clear HELD HT HB hb; have HELD := HELD'; have HT := HT'; have HB := HB'; clear HELD' HT' HB'
          go_wp2_with (with_reducible refine wpList_mark (o := ⟨some 23, _, _, _, _, _⟩) ?_)
          refine Marked.intro ?_
          refine Lib.wpList_runG (by rfl) (exec_load_whole rfl rfl (HELD.out (w.heap.size + 1, q) (by simp))) ?_
          go_wp2_with (with_reducible refine wpList_mark (o := ⟨some 24, _, _, _, _, _⟩) ?_)
          refine Marked.intro ?_
          refine Lib.wpList_runG (by rfl) (exec_load_whole rfl rfl (HELD.out (w.heap.size, p) (by simp))) ?_
          go_wp2_with fail
          refine (cQP _).mono ?_
          rintro e wN ⟨rfl, hb⟩
          have HELD' := Lib.hid (HELD.out.b hb); have HT' := Lib.hid (HT.out.below hb); have HB' := Lib.hid (bn HB.out hb)
          clear HELD HT HB hb; have HELD := HELD'; have HT := HT'; have HB := HB'; clear HELD' HT' HB'
          go_wp2_with (with_reducible refine wpList_mark (o := ⟨some 32, _, _, _, _, _⟩) ?_)
          refine Marked.intro ?_
          refine Lib.wpList_runG (by rfl) (exec_load_whole rfl rfl (HELD.out (w.heap.size, p) (by simp))) ?_
          go_wp2_with (with_reducible refine wpList_mark (o := ⟨some 33, _, _, _, _, _⟩) ?_)
          refine Marked.intro ?_
          refine Lib.wpList_runG (by rfl) (exec_load_whole rfl rfl (HELD.out (w.heap.size + 1, q) (by simp))) ?_
          have hE := HE.out
          have hG := HG.out
          go_wp2_with (with_reducible refine wpList_mark (o := ⟨some 61, _, _, _, _, _⟩) ?_)
          refine Marked.intro ?_
          refine wpList_run rfl (exec_load_whole rfl rfl (HELD.out (w.heap.size, p) (by simp))) ?_
          clear hE hG
          go_wp2_with (with_reducible refine wpList_mark (o := ⟨some 62, _, _, _, _, _⟩) ?_)
          refine Marked.intro ?_
          refine wpList_run rfl (exec_load_whole rfl rfl (HELD.out (w.heap.size + 1 + 1, r) (by simp))) ?_
          go_wp2_with fail
          refine (cC _).mono ?_
          rintro e wN ⟨rfl, hb⟩
          have HELD' := Lib.hid (HELD.out.b hb); have HT' := Lib.hid (HT.out.below hb); have HB' := Lib.hid (bn HB.out hb)
          clear HELD HT HB hb; have HELD := HELD'; have HT := HT'; have HB := HB'; clear HELD' HT' HB'
          go_wp2
          go_ret
          exact ⟨rfl, HB.out⟩

        | true =>
          exact absurd (hcc rfl) (by decide)
    · rcases HH3.out with rfl | rfl | rfl
      · clear HH1 HH2 HH3 HT1 HT2
        have hcc := HK1.out
        cases c with
        | false =>
          clear hcc
          go_wp2_with fail
          refine (cA _ HT.out).mono ?_
          rintro e wN ⟨rfl, hb⟩
          have HELD' := Lib.hid (HELD.out.b hb); have HT' := Lib.hid (HT.out.below hb); have HB' := Lib.hid (bn HB.out hb)
          clear HELD HT HB hb; have HELD := HELD'; have HT := HT'; have HB := HB'; clear HELD' HT' HB'
          go_wp2_with (with_reducible refine wpList_mark (o := ⟨some 23, _, _, _, _, _⟩) ?_)
          refine Marked.intro ?_
          refine Lib.wpList_runG (by rfl) (exec_load_whole rfl rfl (HELD.out (w.heap.size + 1, q) (by simp))) ?_
          go_wp2_with (with_reducible refine wpList_mark (o := ⟨some 24, _, _, _, _, _⟩) ?_)
          refine Marked.intro ?_
          refine Lib.wpList_runG (by rfl) (exec_load_whole rfl rfl (HELD.out (w.heap.size, p) (by simp))) ?_
          go_wp2_with fail
          refine (cQP _).mono ?_
          rintro e wN ⟨rfl, hb⟩
          have HELD' := Lib.hid (HELD.out.b hb); have HT' := Lib.hid (HT.out.below hb); have HB' := Lib.hid (bn HB.out hb)
          clear HELD HT HB hb; have HELD := HELD'; have HT := HT'; have HB := HB'; clear HELD' HT' HB'
          go_wp2_with (with_reducible refine wpList_mark (o := ⟨some 32, _, _, _, _, _⟩) ?_)
          refine Marked.intro ?_
          refine Lib.wpList_runG (by rfl) (exec_load_whole rfl rfl (HELD.out (w.heap.size, p) (by simp))) ?_
          go_wp2_with (with_reducible refine wpList_mark (o := ⟨some 33, _, _, _, _, _⟩) ?_)
          refine Marked.intro ?_
          refine Lib.wpList_runG (by rfl) (exec_load_whole rfl rfl (HELD.out (w.heap.size + 1, q) (by simp))) ?_
          have hE := HE.out
          have hG := HG.out
          go_wp2_with (with_reducible refine wpList_mark (o := ⟨some 61, _, _, _, _, _⟩) ?_)
          refine Marked.intro ?_
          refine wpList_run rfl (exec_load_whole rfl rfl (HELD.out (w.heap.size, p) (by simp))) ?_
          clear hE hG
          go_wp2_with (with_reducible refine wpList_mark (o := ⟨some 62, _, _, _, _, _⟩) ?_)
          refine Marked.intro ?_
          refine wpList_run rfl (exec_load_whole rfl rfl (HELD.out (w.heap.size + 1 + 1, r) (by simp))) ?_
          go_wp2_with fail
          refine (cC _).mono ?_
          rintro e wN ⟨rfl, hb⟩
          have HELD' := Lib.hid (HELD.out.b hb); have HT' := Lib.hid (HT.out.below hb); have HB' := Lib.hid (bn HB.out hb)
          clear HELD HT HB hb; have HELD := HELD'; have HT := HT'; have HB := HB'; clear HELD' HT' HB'
          go_wp2
          go_ret
          exact ⟨rfl, HB.out⟩

        | true =>
          clear hcc
          go_wp2_with fail
          refine (cA _ HT.out).mono ?_
          rintro e wN ⟨rfl, hb⟩
          have HELD' := Lib.hid (HELD.out.b hb); have HT' := Lib.hid (HT.out.below hb); have HB' := Lib.hid (bn HB.out hb)
          clear HELD HT HB hb; have HELD := HELD'; have HT := HT'; have HB := HB'; clear HELD' HT' HB'
          go_wp2_with (with_reducible refine wpList_mark (o := ⟨some 23, _, _, _, _, _⟩) ?_)
          refine Marked.intro ?_
          refine Lib.wpList_runG (by rfl) (exec_load_whole rfl rfl (HELD.out (w.heap.size + 1, q) (by simp))) ?_
          go_wp2_with (with_reducible refine wpList_mark (o := ⟨some 24, _, _, _, _, _⟩) ?_)
          refine Marked.intro ?_
          refine Lib.wpList_runG (by rfl) (exec_load_whole rfl rfl (HELD.out (w.heap.size, p) (by simp))) ?_
          go_wp2_with fail
          refine (cQP _).mono ?_
          rintro e wN ⟨rfl, hb⟩
          have HELD' := Lib.hid (HELD.out.b hb); have HT' := Lib.hid (HT.out.below hb); have HB' := Lib.hid (bn HB.out hb)
          clear HELD HT HB hb; have HELD := HELD'; have HT := HT'; have HB := HB'; clear HELD' HT' HB'
          go_wp2_with (with_reducible refine wpList_mark (o := ⟨some 32, _, _, _, _, _⟩) ?_)
          refine Marked.intro ?_
          refine Lib.wpList_runG (by rfl) (exec_load_whole rfl rfl (HELD.out (w.heap.size, p) (by simp))) ?_
          go_wp2_with (with_reducible refine wpList_mark (o := ⟨some 33, _, _, _, _, _⟩) ?_)
          refine Marked.intro ?_
          refine Lib.wpList_runG (by rfl) (exec_load_whole rfl rfl (HELD.out (w.heap.size + 1, q) (by simp))) ?_
          have hE := HE.out
          have hG := HG.out
          go_wp2_with (with_reducible refine wpList_mark (o := ⟨some 61, _, _, _, _, _⟩) ?_)
          refine Marked.intro ?_
          refine wpList_run rfl (exec_load_whole rfl rfl (HELD.out (w.heap.size, p) (by simp))) ?_
          clear hE hG
          go_wp2_with (with_reducible refine wpList_mark (o := ⟨some 62, _, _, _, _, _⟩) ?_)
          refine Marked.intro ?_
          refine wpList_run rfl (exec_load_whole rfl rfl (HELD.out (w.heap.size + 1 + 1, r) (by simp))) ?_
          go_wp2_with fail
          refine (cC _).mono ?_
          rintro e wN ⟨rfl, hb⟩
          have HELD' := Lib.hid (HELD.out.b hb); have HT' := Lib.hid (HT.out.below hb); have HB' := Lib.hid (bn HB.out hb)
          clear HELD HT HB hb; have HELD := HELD'; have HT := HT'; have HB := HB'; clear HELD' HT' HB'
          go_wp2
          go_ret
          exact ⟨rfl, HB.out⟩
      · clear HH1 HH2 HH3 HT1 HT2
        have hcc := HK1.out
        cases c with
        | false =>
          clear hcc
          go_wp2_with fail
          refine (cA _ HT.out).mono ?_
          rintro e wN ⟨rfl, hb⟩
          have HELD' := Lib.hid (HELD.out.b hb); have HT' := Lib.hid (HT.out.below hb); have HB' := Lib.hid (bn HB.out hb)
          clear HELD HT HB hb; have HELD := HELD'; have HT := HT'; have HB := HB'; clear HELD' HT' HB'
          go_wp2_with (with_reducible refine wpList_mark (o := ⟨some 23, _, _, _, _, _⟩) ?_)
          refine Marked.intro ?_
          refine Lib.wpList_runG (by rfl) (exec_load_whole rfl rfl (HELD.out (w.heap.size + 1, q) (by simp))) ?_
          go_wp2_with (with_reducible refine wpList_mark (o := ⟨some 24, _, _, _, _, _⟩) ?_)
          refine Marked.intro ?_
          refine Lib.wpList_runG (by rfl) (exec_load_whole rfl rfl (HELD.out (w.heap.size, p) (by simp))) ?_
          go_wp2_with fail
          refine (cQP _).mono ?_
          rintro e wN ⟨rfl, hb⟩
          have HELD' := Lib.hid (HELD.out.b hb); have HT' := Lib.hid (HT.out.below hb); have HB' := Lib.hid (bn HB.out hb)
          clear HELD HT HB hb; have HELD := HELD'; have HT := HT'; have HB := HB'; clear HELD' HT' HB'
          go_wp2_with (with_reducible refine wpList_mark (o := ⟨some 32, _, _, _, _, _⟩) ?_)
          refine Marked.intro ?_
          refine Lib.wpList_runG (by rfl) (exec_load_whole rfl rfl (HELD.out (w.heap.size, p) (by simp))) ?_
          go_wp2_with (with_reducible refine wpList_mark (o := ⟨some 33, _, _, _, _, _⟩) ?_)
          refine Marked.intro ?_
          refine Lib.wpList_runG (by rfl) (exec_load_whole rfl rfl (HELD.out (w.heap.size + 1, q) (by simp))) ?_
          have hE := HE.out
          have hG := HG.out
          go_wp2_with (with_reducible refine wpList_mark (o := ⟨some 61, _, _, _, _, _⟩) ?_)
          refine Marked.intro ?_
          refine wpList_run rfl (exec_load_whole rfl rfl (HELD.out (w.heap.size, p) (by simp))) ?_
          clear hE hG
          go_wp2_with (with_reducible refine wpList_mark (o := ⟨some 62, _, _, _, _, _⟩) ?_)
          refine Marked.intro ?_
          refine wpList_run rfl (exec_load_whole rfl rfl (HELD.out (w.heap.size + 1 + 1, r) (by simp))) ?_
          go_wp2_with fail
          refine (cC _).mono ?_
          rintro e wN ⟨rfl, hb⟩
          have HELD' := Lib.hid (HELD.out.b hb); have HT' := Lib.hid (HT.out.below hb); have HB' := Lib.hid (bn HB.out hb)
          clear HELD HT HB hb; have HELD := HELD'; have HT := HT'; have HB := HB'; clear HELD' HT' HB'
          go_wp2
          go_ret
          exact ⟨rfl, HB.out⟩

        | true =>
          clear hcc
          go_wp2_with fail
          refine (cA _ HT.out).mono ?_
          rintro e wN ⟨rfl, hb⟩
          have HELD' := Lib.hid (HELD.out.b hb); have HT' := Lib.hid (HT.out.below hb); have HB' := Lib.hid (bn HB.out hb)
          clear HELD HT HB hb; have HELD := HELD'; have HT := HT'; have HB := HB'; clear HELD' HT' HB'
          go_wp2_with (with_reducible refine wpList_mark (o := ⟨some 23, _, _, _, _, _⟩) ?_)
          refine Marked.intro ?_
          refine Lib.wpList_runG (by rfl) (exec_load_whole rfl rfl (HELD.out (w.heap.size + 1, q) (by simp))) ?_
          go_wp2_with (with_reducible refine wpList_mark (o := ⟨some 24, _, _, _, _, _⟩) ?_)
          refine Marked.intro ?_
          refine Lib.wpList_runG (by rfl) (exec_load_whole rfl rfl (HELD.out (w.heap.size, p) (by simp))) ?_
          go_wp2_with fail
          refine (cQP _).mono ?_
          rintro e wN ⟨rfl, hb⟩
          have HELD' := Lib.hid (HELD.out.b hb); have HT' := Lib.hid (HT.out.below hb); have HB' := Lib.hid (bn HB.out hb)
          clear HELD HT HB hb; have HELD := HELD'; have HT := HT'; have HB := HB'; clear HELD' HT' HB'
          go_wp2_with (with_reducible refine wpList_mark (o := ⟨some 32, _, _, _, _, _⟩) ?_)
          refine Marked.intro ?_
          refine Lib.wpList_runG (by rfl) (exec_load_whole rfl rfl (HELD.out (w.heap.size, p) (by simp))) ?_
          go_wp2_with (with_reducible refine wpList_mark (o := ⟨some 33, _, _, _, _, _⟩) ?_)
          refine Marked.intro ?_
          refine Lib.wpList_runG (by rfl) (exec_load_whole rfl rfl (HELD.out (w.heap.size + 1, q) (by simp))) ?_
          have hE := HE.out
          have hG := HG.out
          go_wp2_with (with_reducible refine wpList_mark (o := ⟨some 61, _, _, _, _, _⟩) ?_)
          refine Marked.intro ?_
          refine wpList_run rfl (exec_load_whole rfl rfl (HELD.out (w.heap.size, p) (by simp))) ?_
          clear hE hG
          go_wp2_with (with_reducible refine wpList_mark (o := ⟨some 62, _, _, _, _, _⟩) ?_)
          refine Marked.intro ?_
          refine wpList_run rfl (exec_load_whole rfl rfl (HELD.out (w.heap.size + 1 + 1, r) (by simp))) ?_
          go_wp2_with fail
          refine (cC _).mono ?_
          rintro e wN ⟨rfl, hb⟩
          have HELD' := Lib.hid (HELD.out.b hb); have HT' := Lib.hid (HT.out.below hb); have HB' := Lib.hid (bn HB.out hb)
          clear HELD HT HB hb; have HELD := HELD'; have HT := HT'; have HB := HB'; clear HELD' HT' HB'
          go_wp2
          go_ret
          exact ⟨rfl, HB.out⟩
      · clear HH1 HH2 HH3 HT1 HT2
        have hcc := HK1.out
        cases c with
        | false =>
          clear hcc
          go_wp2_with fail
          refine (cA _ HT.out).mono ?_
          rintro e wN ⟨rfl, hb⟩
          have HELD' := Lib.hid (HELD.out.b hb); have HT' := Lib.hid (HT.out.below hb); have HB' := Lib.hid (bn HB.out hb)
          clear HELD HT HB hb; have HELD := HELD'; have HT := HT'; have HB := HB'; clear HELD' HT' HB'
          go_wp2_with (with_reducible refine wpList_mark (o := ⟨some 23, _, _, _, _, _⟩) ?_)
          refine Marked.intro ?_
          refine Lib.wpList_runG (by rfl) (exec_load_whole rfl rfl (HELD.out (w.heap.size + 1, q) (by simp))) ?_
          go_wp2_with (with_reducible refine wpList_mark (o := ⟨some 24, _, _, _, _, _⟩) ?_)
          refine Marked.intro ?_
          refine Lib.wpList_runG (by rfl) (exec_load_whole rfl rfl (HELD.out (w.heap.size, p) (by simp))) ?_
          go_wp2_with fail
          refine (cQP _).mono ?_
          rintro e wN ⟨rfl, hb⟩
          have HELD' := Lib.hid (HELD.out.b hb); have HT' := Lib.hid (HT.out.below hb); have HB' := Lib.hid (bn HB.out hb)
          clear HELD HT HB hb; have HELD := HELD'; have HT := HT'; have HB := HB'; clear HELD' HT' HB'
          go_wp2_with (with_reducible refine wpList_mark (o := ⟨some 32, _, _, _, _, _⟩) ?_)
          refine Marked.intro ?_
          refine Lib.wpList_runG (by rfl) (exec_load_whole rfl rfl (HELD.out (w.heap.size, p) (by simp))) ?_
          go_wp2_with (with_reducible refine wpList_mark (o := ⟨some 33, _, _, _, _, _⟩) ?_)
          refine Marked.intro ?_
          refine Lib.wpList_runG (by rfl) (exec_load_whole rfl rfl (HELD.out (w.heap.size + 1, q) (by simp))) ?_
          have hE := HE.out
          have hG := HG.out
          go_wp2_with (with_reducible refine wpList_mark (o := ⟨some 61, _, _, _, _, _⟩) ?_)
          refine Marked.intro ?_
          refine wpList_run rfl (exec_load_whole rfl rfl (HELD.out (w.heap.size, p) (by simp))) ?_
          clear hE hG
          go_wp2_with (with_reducible refine wpList_mark (o := ⟨some 62, _, _, _, _, _⟩) ?_)
          refine Marked.intro ?_
          refine wpList_run rfl (exec_load_whole rfl rfl (HELD.out (w.heap.size + 1 + 1, r) (by simp))) ?_
          go_wp2_with fail
          refine (cC _).mono ?_
          rintro e wN ⟨rfl, hb⟩
          have HELD' := Lib.hid (HELD.out.b hb); have HT' := Lib.hid (HT.out.below hb); have HB' := Lib.hid (bn HB.out hb)
          clear HELD HT HB hb; have HELD := HELD'; have HT := HT'; have HB := HB'; clear HELD' HT' HB'
          go_wp2
          go_ret
          exact ⟨rfl, HB.out⟩

        | true =>
          exact absurd (hcc rfl) (by decide)
    · rcases HH3.out with rfl | rfl | rfl
      · clear HH1 HH2 HH3 HT1 HT2
        have hcc := HK1.out
        cases c with
        | false =>
          clear hcc
          go_wp2_with fail
          refine (cA _ HT.out).mono ?_
          rintro e wN ⟨rfl, hb⟩
          have HELD' := Lib.hid (HELD.out.b hb); have HT' := Lib.hid (HT.out.below hb); have HB' := Lib.hid (bn HB.out hb)
          clear HELD HT HB hb; have HELD := HELD'; have HT := HT'; have HB := HB'; clear HELD' HT' HB'
          go_wp2_with (with_reducible refine wpList_mark (o := ⟨some 23, _, _, _, _, _⟩) ?_)
          refine Marked.intro ?_
          refine Lib.wpList_runG (by rfl) (exec_load_whole rfl rfl (HELD.out (w.heap.size + 1, q) (by simp))) ?_
          go_wp2_with (with_reducible refine wpList_mark (o := ⟨some 24, _, _, _, _, _⟩) ?_)
          refine Marked.intro ?_
          refine Lib.wpList_runG (by rfl) (exec_load_whole rfl rfl (HELD.out (w.heap.size, p) (by simp))) ?_
          go_wp2_with fail
          refine (cQP _).mono ?_
          rintro e wN ⟨rfl, hb⟩
          have HELD' := Lib.hid (HELD.out.b hb); have HT' := Lib.hid (HT.out.below hb); have HB' := Lib.hid (bn HB.out hb)
          clear HELD HT HB hb; have HELD := HELD'; have HT := HT'; have HB := HB'; clear HELD' HT' HB'
          go_wp2_with (with_reducible refine wpList_mark (o := ⟨some 32, _, _, _, _, _⟩) ?_)
          refine Marked.intro ?_
          refine Lib.wpList_runG (by rfl) (exec_load_whole rfl rfl (HELD.out (w.heap.size, p) (by simp))) ?_
          go_wp2_with (with_reducible refine wpList_mark (o := ⟨some 33, _, _, _, _, _⟩) ?_)
          refine Marked.intro ?_
          refine Lib.wpList_runG (by rfl) (exec_load_whole rfl rfl (HELD.out (w.heap.size + 1, q) (by simp))) ?_
          have hE := HE.out
          have hG := HG.out
          go_wp2_with (with_reducible refine wpList_mark (o := ⟨some 61, _, _, _, _, _⟩) ?_)
          refine Marked.intro ?_
          refine wpList_run rfl (exec_load_whole rfl rfl (HELD.out (w.heap.size, p) (by simp))) ?_
          clear hE hG
          go_wp2_with (with_reducible refine wpList_mark (o := ⟨some 62, _, _, _, _, _⟩) ?_)
          refine Marked.intro ?_
          refine wpList_run rfl (exec_load_whole rfl rfl (HELD.out (w.heap.size + 1 + 1, r) (by simp))) ?_
          go_wp2_with fail
          refine (cC _).mono ?_
          rintro e wN ⟨rfl, hb⟩
          have HELD' := Lib.hid (HELD.out.b hb); have HT' := Lib.hid (HT.out.below hb); have HB' := Lib.hid (bn HB.out hb)
          clear HELD HT HB hb; have HELD := HELD'; have HT := HT'; have HB := HB'; clear HELD' HT' HB'
          go_wp2
          go_ret
          exact ⟨rfl, HB.out⟩

        | true =>
          clear hcc
          go_wp2_with fail
          refine (cA _ HT.out).mono ?_
          rintro e wN ⟨rfl, hb⟩
          have HELD' := Lib.hid (HELD.out.b hb); have HT' := Lib.hid (HT.out.below hb); have HB' := Lib.hid (bn HB.out hb)
          clear HELD HT HB hb; have HELD := HELD'; have HT := HT'; have HB := HB'; clear HELD' HT' HB'
          go_wp2_with (with_reducible refine wpList_mark (o := ⟨some 23, _, _, _, _, _⟩) ?_)
          refine Marked.intro ?_
          refine Lib.wpList_runG (by rfl) (exec_load_whole rfl rfl (HELD.out (w.heap.size + 1, q) (by simp))) ?_
          go_wp2_with (with_reducible refine wpList_mark (o := ⟨some 24, _, _, _, _, _⟩) ?_)
          refine Marked.intro ?_
          refine Lib.wpList_runG (by rfl) (exec_load_whole rfl rfl (HELD.out (w.heap.size, p) (by simp))) ?_
          go_wp2_with fail
          refine (cQP _).mono ?_
          rintro e wN ⟨rfl, hb⟩
          have HELD' := Lib.hid (HELD.out.b hb); have HT' := Lib.hid (HT.out.below hb); have HB' := Lib.hid (bn HB.out hb)
          clear HELD HT HB hb; have HELD := HELD'; have HT := HT'; have HB := HB'; clear HELD' HT' HB'
          go_wp2_with (with_reducible refine wpList_mark (o := ⟨some 32, _, _, _, _, _⟩) ?_)
          refine Marked.intro ?_
          refine Lib.wpList_runG (by rfl) (exec_load_whole rfl rfl (HELD.out (w.heap.size, p) (by simp))) ?_
          go_wp2_with (with_reducible refine wpList_mark (o := ⟨some 33, _, _, _, _, _⟩) ?_)
          refine Marked.intro ?_
          refine Lib.wpList_runG (by rfl) (exec_load_whole rfl rfl (HELD.out (w.heap.size + 1, q) (by simp))) ?_
          have hE := HE.out
          have hG := HG.out
          go_wp2_with (with_reducible refine wpList_mark (o := ⟨some 61, _, _, _, _, _⟩) ?_)
          refine Marked.intro ?_
          refine wpList_run rfl (exec_load_whole rfl rfl (HELD.out (w.heap.size, p) (by simp))) ?_
          clear hE hG
          go_wp2_with (with_reducible refine wpList_mark (o := ⟨some 62, _, _, _, _, _⟩) ?_)
          refine Marked.intro ?_
          refine wpList_run rfl (exec_load_whole rfl rfl (HELD.out (w.heap.size + 1 + 1, r) (by simp))) ?_
          go_wp2_with fail
          refine (cC _).mono ?_
          rintro e wN ⟨rfl, hb⟩
          have HELD' := Lib.hid (HELD.out.b hb); have HT' := Lib.hid (HT.out.below hb); have HB' := Lib.hid (bn HB.out hb)
          clear HELD HT HB hb; have HELD := HELD'; have HT := HT'; have HB := HB'; clear HELD' HT' HB'
          go_wp2
          go_ret
          exact ⟨rfl, HB.out⟩
      · exact absurd (HT2.out (by decide) (by decide)) (by decide)
      · clear HH1 HH2 HH3 HT1 HT2
        have hcc := HK1.out
        cases c with
        | false =>
          clear hcc
          go_wp2_with fail
          refine (cA _ HT.out).mono ?_
          rintro e wN ⟨rfl, hb⟩
          have HELD' := Lib.hid (HELD.out.b hb); have HT' := Lib.hid (HT.out.below hb); have HB' := Lib.hid (bn HB.out hb)
          clear HELD HT HB hb; have HELD := HELD'; have HT := HT'; have HB := HB'; clear HELD' HT' HB'
          go_wp2_with (with_reducible refine wpList_mark (o := ⟨some 23, _, _, _, _, _⟩) ?_)
          refine Marked.intro ?_
          refine Lib.wpList_runG (by rfl) (exec_load_whole rfl rfl (HELD.out (w.heap.size + 1, q) (by simp))) ?_
          go_wp2_with (with_reducible refine wpList_mark (o := ⟨some 24, _, _, _, _, _⟩) ?_)
          refine Marked.intro ?_
          refine Lib.wpList_runG (by rfl) (exec_load_whole rfl rfl (HELD.out (w.heap.size, p) (by simp))) ?_
          go_wp2_with fail
          refine (cQP _).mono ?_
          rintro e wN ⟨rfl, hb⟩
          have HELD' := Lib.hid (HELD.out.b hb); have HT' := Lib.hid (HT.out.below hb); have HB' := Lib.hid (bn HB.out hb)
          clear HELD HT HB hb; have HELD := HELD'; have HT := HT'; have HB := HB'; clear HELD' HT' HB'
          go_wp2_with (with_reducible refine wpList_mark (o := ⟨some 32, _, _, _, _, _⟩) ?_)
          refine Marked.intro ?_
          refine Lib.wpList_runG (by rfl) (exec_load_whole rfl rfl (HELD.out (w.heap.size, p) (by simp))) ?_
          go_wp2_with (with_reducible refine wpList_mark (o := ⟨some 33, _, _, _, _, _⟩) ?_)
          refine Marked.intro ?_
          refine Lib.wpList_runG (by rfl) (exec_load_whole rfl rfl (HELD.out (w.heap.size + 1, q) (by simp))) ?_
          have hE := HE.out
          have hG := HG.out
          go_wp2_with (with_reducible refine wpList_mark (o := ⟨some 61, _, _, _, _, _⟩) ?_)
          refine Marked.intro ?_
          refine wpList_run rfl (exec_load_whole rfl rfl (HELD.out (w.heap.size, p) (by simp))) ?_
          clear hE hG
          go_wp2_with (with_reducible refine wpList_mark (o := ⟨some 62, _, _, _, _, _⟩) ?_)
          refine Marked.intro ?_
          refine wpList_run rfl (exec_load_whole rfl rfl (HELD.out (w.heap.size + 1 + 1, r) (by simp))) ?_
          go_wp2_with fail
          refine (cC _).mono ?_
          rintro e wN ⟨rfl, hb⟩
          have HELD' := Lib.hid (HELD.out.b hb); have HT' := Lib.hid (HT.out.below hb); have HB' := Lib.hid (bn HB.out hb)
          clear HELD HT HB hb; have HELD := HELD'; have HT := HT'; have HB := HB'; clear HELD' HT' HB'
          go_wp2
          go_ret
          exact ⟨rfl, HB.out⟩

        | true =>
          exact absurd (hcc rfl) (by decide)
end Go.Proofs.YtmccnmccegbdjaaDoor
