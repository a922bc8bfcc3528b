/- The walk of the law PrefixKinds. (Printed by wip/print/pfxkinds.py.) -/
import Derived.Test.YtmccnmccegbdjaaDoorPfxRRight
namespace Go.Proofs.YtmccnmccegbdjaaDoor
open Go.RowKit Go.Sort
set_option linter.unusedVariables false
set_option linter.unusedSimpArgs false
theorem contains_kind {p q : Px} (h : p.six ≠ q.six) : p.contains q = false := by
  unfold Px.contains; rw [decide_eq_false h]; simp
theorem common_kind {p q : Px} (h : p.six ≠ q.six) : p.common q = -1 := by
  unfold Px.common; rw [decide_eq_false h]; simp
theorem compare_kind {p q : Px} (h : p.six ≠ q.six) : decide (p.compare q < 0) = q.six := by
  unfold Px.compare
  cases h1 : p.six <;> cases h2 : q.six
  · exact absurd (h1.trans h2.symm) h
  · rfl
  · rfl
  · exact absurd (h1.trans h2.symm) h
theorem bytes_size (p : Px) : p.bytes.size ≤ 17 ∨ 16 < p.A.length := by
  unfold Px.bytes
  split
  · by_cases h : p.A.length ≤ 16
    · left
      have : (toBA (bytesL p)).size = (bytesL p).length := by simp [toBA, ByteArray.size]
      rw [this]
      unfold bytesL
      simp only [List.length_cons, List.length_take]
      omega
    · right; omega
  · left; exact Nat.zero_le _
theorem boxes2 (w : World) (p q : Px) (hp : p.A.length = 16) (hq : q.A.length = 16) : Held [(w.heap.size, p), (w.heap.size + 1, q)] ((w.alloc (.cells p.row 30)).alloc (.cells q.row 30)) ∧ Below w.heap.size w ((w.alloc (.cells p.row 30)).alloc (.cells q.row 30)) := by
  obtain ⟨h1, h2, h3⟩ := PxAt.new2 w p q hp hq
  refine ⟨fun x hx => ?_, h3⟩
  simp only [List.mem_cons, List.not_mem_nil, or_false] at hx
  rcases hx with rfl | rfl
  · exact h1
  · exact h2
set_option maxRecDepth 100000 in
set_option maxHeartbeats 16000000 in
theorem PrefixKinds_walk (p q : Px) (hp : p.wf) (hq : q.wf) (w : World) (ht : Tab w) : Calls Tryd.prog 8 #[.agg p.row, .agg q.row] w fun e w' => e = .returned (.bool true) ∧ Below w.heap.size w w' := by
  obtain ⟨hh, hb0⟩ := boxes2 w p q hp.len hq.len
  have HELD := Lib.hid hh; have HB := Lib.hid hb0; have HT := Lib.hid (ht.below hb0); clear hh hb0 ht
  have cA := fun w h => awake_calls w h
  have cP := fun w => RRight_calls w p hp
  have cQ := fun w => RRight_calls w q hq
  have cCP := fun w => Contains_calls w p q hp hq
  have cCQ := fun w => Contains_calls w q p hq hp
  have cCM := fun w => Compare_calls w p q hp hq
  have cCO := fun w => Common_calls w p q hp hq
  have cBY := fun w => Bytes_calls w p hp
  have hbs := (bytes_size p).resolve_right (by rw [hp.len]; omega)
  cases e1 : p.right with
  | false =>
    rw [e1] at cP
    clear e1
    go_enter Tryd.func8, Tryd.ntmps8
    go_wp2_with fail
    generalize (w.alloc (.cells p.row 30)).alloc (.cells q.row 30) = w1 at *
    refine (cA _ HT.out).mono ?_
    rintro e wN ⟨rfl, hb⟩
    have HELD' := Lib.hid (HELD.out.b hb); have HT' := Lib.hid (HT.out.below hb); have HB' := Lib.hid (bn HB.out hb)
    clear HELD HT HB hb; have HELD := HELD'; have HT := HT'; have HB := HB'; clear HELD' HT' HB'
    go_wp2_with (with_reducible refine wpList_mark (o := ⟨some 9, _, _, _, _, _⟩) ?_)
    refine Marked.intro ?_
    refine Lib.wpList_runG (by rfl) (exec_load_whole rfl rfl (HELD.out (w.heap.size, p) (by simp))) ?_
    go_wp2_with fail
    refine (cP _).mono ?_
    rintro e wN ⟨rfl, hb⟩
    have HELD' := Lib.hid (HELD.out.b hb); have HT' := Lib.hid (HT.out.below hb); have HB' := Lib.hid (bn HB.out hb)
    clear HELD HT HB hb; have HELD := HELD'; have HT := HT'; have HB := HB'; clear HELD' HT' HB'
    go_wp2_with fail
    refine (cA _ HT.out).mono ?_
    rintro e wN ⟨rfl, hb⟩
    have HELD' := Lib.hid (HELD.out.b hb); have HT' := Lib.hid (HT.out.below hb); have HB' := Lib.hid (bn HB.out hb)
    clear HELD HT HB hb; have HELD := HELD'; have HT := HT'; have HB := HB'; clear HELD' HT' HB'
    go_wp2
    go_ret
    exact ⟨rfl, HB.out⟩

  | true =>
    rw [e1] at cP
    cases e2 : q.right with
    | false =>
      rw [e2] at cQ
      clear e1 e2
      go_enter Tryd.func8, Tryd.ntmps8
      go_wp2_with fail
      generalize (w.alloc (.cells p.row 30)).alloc (.cells q.row 30) = w1 at *
      refine (cA _ HT.out).mono ?_
      rintro e wN ⟨rfl, hb⟩
      have HELD' := Lib.hid (HELD.out.b hb); have HT' := Lib.hid (HT.out.below hb); have HB' := Lib.hid (bn HB.out hb)
      clear HELD HT HB hb; have HELD := HELD'; have HT := HT'; have HB := HB'; clear HELD' HT' HB'
      go_wp2_with (with_reducible refine wpList_mark (o := ⟨some 9, _, _, _, _, _⟩) ?_)
      refine Marked.intro ?_
      refine Lib.wpList_runG (by rfl) (exec_load_whole rfl rfl (HELD.out (w.heap.size, p) (by simp))) ?_
      go_wp2_with fail
      refine (cP _).mono ?_
      rintro e wN ⟨rfl, hb⟩
      have HELD' := Lib.hid (HELD.out.b hb); have HT' := Lib.hid (HT.out.below hb); have HB' := Lib.hid (bn HB.out hb)
      clear HELD HT HB hb; have HELD := HELD'; have HT := HT'; have HB := HB'; clear HELD' HT' HB'
      go_wp2_with (with_reducible refine wpList_mark (o := ⟨some 14, _, _, _, _, _⟩) ?_)
      refine Marked.intro ?_
      refine Lib.wpList_runG (by rfl) (exec_load_whole rfl rfl (HELD.out (w.heap.size + 1, q) (by simp))) ?_
      go_wp2_with fail
      refine (cQ _).mono ?_
      rintro e wN ⟨rfl, hb⟩
      have HELD' := Lib.hid (HELD.out.b hb); have HT' := Lib.hid (HT.out.below hb); have HB' := Lib.hid (bn HB.out hb)
      clear HELD HT HB hb; have HELD := HELD'; have HT := HT'; have HB := HB'; clear HELD' HT' HB'
      go_wp2_with fail
      refine (cA _ HT.out).mono ?_
      rintro e wN ⟨rfl, hb⟩
      have HELD' := Lib.hid (HELD.out.b hb); have HT' := Lib.hid (HT.out.below hb); have HB' := Lib.hid (bn HB.out hb)
      clear HELD HT HB hb; have HELD := HELD'; have HT := HT'; have HB := HB'; clear HELD' HT' HB'
      go_wp2
      go_ret
      exact ⟨rfl, HB.out⟩

    | true =>
      rw [e2] at cQ
      clear e1 e2
      by_cases e3 : p.six = q.six
      · have d3 : (p.six == q.six) = true := by simpa using e3
        clear e3
        go_enter Tryd.func8, Tryd.ntmps8
        go_wp2_with fail
        generalize (w.alloc (.cells p.row 30)).alloc (.cells q.row 30) = w1 at *
        refine (cA _ HT.out).mono ?_
        rintro e wN ⟨rfl, hb⟩
        have HELD' := Lib.hid (HELD.out.b hb); have HT' := Lib.hid (HT.out.below hb); have HB' := Lib.hid (bn HB.out hb)
        clear HELD HT HB hb; have HELD := HELD'; have HT := HT'; have HB := HB'; clear HELD' HT' HB'
        go_wp2_with (with_reducible refine wpList_mark (o := ⟨some 9, _, _, _, _, _⟩) ?_)
        refine Marked.intro ?_
        refine Lib.wpList_runG (by rfl) (exec_load_whole rfl rfl (HELD.out (w.heap.size, p) (by simp))) ?_
        go_wp2_with fail
        refine (cP _).mono ?_
        rintro e wN ⟨rfl, hb⟩
        have HELD' := Lib.hid (HELD.out.b hb); have HT' := Lib.hid (HT.out.below hb); have HB' := Lib.hid (bn HB.out hb)
        clear HELD HT HB hb; have HELD := HELD'; have HT := HT'; have HB := HB'; clear HELD' HT' HB'
        go_wp2_with (with_reducible refine wpList_mark (o := ⟨some 14, _, _, _, _, _⟩) ?_)
        refine Marked.intro ?_
        refine Lib.wpList_runG (by rfl) (exec_load_whole rfl rfl (HELD.out (w.heap.size + 1, q) (by simp))) ?_
        go_wp2_with fail
        refine (cQ _).mono ?_
        rintro e wN ⟨rfl, hb⟩
        have HELD' := Lib.hid (HELD.out.b hb); have HT' := Lib.hid (HT.out.below hb); have HB' := Lib.hid (bn HB.out hb)
        clear HELD HT HB hb; have HELD := HELD'; have HT := HT'; have HB := HB'; clear HELD' HT' HB'
        have k1 := (HELD.out (w.heap.size, p) (by simp)).six
        have k2 := (HELD.out (w.heap.size + 1, q) (by simp)).six
        go_wp2_with fail
        clear k1 k2
        refine (cA _ HT.out).mono ?_
        rintro e wN ⟨rfl, hb⟩
        have HELD' := Lib.hid (HELD.out.b hb); have HT' := Lib.hid (HT.out.below hb); have HB' := Lib.hid (bn HB.out hb)
        clear HELD HT HB hb; have HELD := HELD'; have HT := HT'; have HB := HB'; clear HELD' HT' HB'
        go_wp2
        go_ret
        exact ⟨rfl, HB.out⟩

      · have d3 : (p.six == q.six) = false := by simpa using e3
        have h1 := contains_kind e3
        have h2 := contains_kind (fun h => e3 h.symm)
        have h3 := common_kind e3
        have h4 := compare_kind e3
        rw [h1] at cCP
        rw [h2] at cCQ
        rw [h3] at cCO
        clear h1 h2 h3 e3
        obtain ⟨y, hy⟩ : ∃ y, p.compare q = y := ⟨_, rfl⟩
        rw [hy] at cCM h4
        clear hy
        obtain ⟨Z, hZ⟩ : ∃ Z, p.bytes = Z := ⟨_, rfl⟩
        rw [hZ] at cBY hbs
        clear hZ
        have dz : decide ((Z.size : Int) ≤ 17) = true := decide_eq_true (by omega)
        have h5 : (decide (y < 0) == q.six) = true := by rw [h4]; simp
        go_enter Tryd.func8, Tryd.ntmps8
        go_wp2_with fail
        generalize (w.alloc (.cells p.row 30)).alloc (.cells q.row 30) = w1 at *
        refine (cA _ HT.out).mono ?_
        rintro e wN ⟨rfl, hb⟩
        have HELD' := Lib.hid (HELD.out.b hb); have HT' := Lib.hid (HT.out.below hb); have HB' := Lib.hid (bn HB.out hb)
        clear HELD HT HB hb; have HELD := HELD'; have HT := HT'; have HB := HB'; clear HELD' HT' HB'
        go_wp2_with (with_reducible refine wpList_mark (o := ⟨some 9, _, _, _, _, _⟩) ?_)
        refine Marked.intro ?_
        refine Lib.wpList_runG (by rfl) (exec_load_whole rfl rfl (HELD.out (w.heap.size, p) (by simp))) ?_
        go_wp2_with fail
        refine (cP _).mono ?_
        rintro e wN ⟨rfl, hb⟩
        have HELD' := Lib.hid (HELD.out.b hb); have HT' := Lib.hid (HT.out.below hb); have HB' := Lib.hid (bn HB.out hb)
        clear HELD HT HB hb; have HELD := HELD'; have HT := HT'; have HB := HB'; clear HELD' HT' HB'
        go_wp2_with (with_reducible refine wpList_mark (o := ⟨some 14, _, _, _, _, _⟩) ?_)
        refine Marked.intro ?_
        refine Lib.wpList_runG (by rfl) (exec_load_whole rfl rfl (HELD.out (w.heap.size + 1, q) (by simp))) ?_
        go_wp2_with fail
        refine (cQ _).mono ?_
        rintro e wN ⟨rfl, hb⟩
        have HELD' := Lib.hid (HELD.out.b hb); have HT' := Lib.hid (HT.out.below hb); have HB' := Lib.hid (bn HB.out hb)
        clear HELD HT HB hb; have HELD := HELD'; have HT := HT'; have HB := HB'; clear HELD' HT' HB'
        have k1 := (HELD.out (w.heap.size, p) (by simp)).six
        have k2 := (HELD.out (w.heap.size + 1, q) (by simp)).six
        go_wp2_with (with_reducible refine wpList_mark (o := ⟨some 26, _, _, _, _, _⟩) ?_)
        refine Marked.intro ?_
        refine wpList_run rfl (exec_load_whole rfl rfl (HELD.out (w.heap.size, p) (by simp))) ?_
        clear k1 k2
        go_wp2_with (with_reducible refine wpList_mark (o := ⟨some 27, _, _, _, _, _⟩) ?_)
        refine Marked.intro ?_
        refine wpList_run rfl (exec_load_whole rfl rfl (HELD.out (w.heap.size + 1, q) (by simp))) ?_
        go_wp2_with fail
        refine (cCM _).mono ?_
        rintro e wN ⟨rfl, hb⟩
        have HELD' := Lib.hid (HELD.out.b hb); have HT' := Lib.hid (HT.out.below hb); have HB' := Lib.hid (bn HB.out hb)
        clear HELD HT HB hb; have HELD := HELD'; have HT := HT'; have HB := HB'; clear HELD' HT' HB'
        go_wp2_with (with_reducible refine wpList_mark (o := ⟨some 30, _, _, _, _, _⟩) ?_)
        refine Marked.intro ?_
        refine wpList_run rfl (exec_load_whole rfl rfl (HELD.out (w.heap.size, p) (by simp))) ?_
        go_wp2_with (with_reducible refine wpList_mark (o := ⟨some 31, _, _, _, _, _⟩) ?_)
        refine Marked.intro ?_
        refine wpList_run rfl (exec_load_whole rfl rfl (HELD.out (w.heap.size + 1, q) (by simp))) ?_
        go_wp2_with fail
        refine (cCP _).mono ?_
        rintro e wN ⟨rfl, hb⟩
        have HELD' := Lib.hid (HELD.out.b hb); have HT' := Lib.hid (HT.out.below hb); have HB' := Lib.hid (bn HB.out hb)
        clear HELD HT HB hb; have HELD := HELD'; have HT := HT'; have HB := HB'; clear HELD' HT' HB'
        go_wp2_with (with_reducible refine wpList_mark (o := ⟨some 35, _, _, _, _, _⟩) ?_)
        refine Marked.intro ?_
        refine Lib.wpList_runG (by rfl) (exec_load_whole rfl rfl (HELD.out (w.heap.size + 1, q) (by simp))) ?_
        go_wp2_with (with_reducible refine wpList_mark (o := ⟨some 36, _, _, _, _, _⟩) ?_)
        refine Marked.intro ?_
        refine Lib.wpList_runG (by rfl) (exec_load_whole rfl rfl (HELD.out (w.heap.size, p) (by simp))) ?_
        go_wp2_with fail
        refine (cCQ _).mono ?_
        rintro e wN ⟨rfl, hb⟩
        have HELD' := Lib.hid (HELD.out.b hb); have HT' := Lib.hid (HT.out.below hb); have HB' := Lib.hid (bn HB.out hb)
        clear HELD HT HB hb; have HELD := HELD'; have HT := HT'; have HB := HB'; clear HELD' HT' HB'
        go_wp2_with (with_reducible refine wpList_mark (o := ⟨some 41, _, _, _, _, _⟩) ?_)
        refine Marked.intro ?_
        refine Lib.wpList_runG (by rfl) (exec_load_whole rfl rfl (HELD.out (w.heap.size, p) (by simp))) ?_
        go_wp2_with (with_reducible refine wpList_mark (o := ⟨some 42, _, _, _, _, _⟩) ?_)
        refine Marked.intro ?_
        refine Lib.wpList_runG (by rfl) (exec_load_whole rfl rfl (HELD.out (w.heap.size + 1, q) (by simp))) ?_
        go_wp2_with fail
        refine (cCO _).mono ?_
        rintro e wN ⟨rfl, hb⟩
        have HELD' := Lib.hid (HELD.out.b hb); have HT' := Lib.hid (HT.out.below hb); have HB' := Lib.hid (bn HB.out hb)
        clear HELD HT HB hb; have HELD := HELD'; have HT := HT'; have HB := HB'; clear HELD' HT' HB'
        have k2 := (HELD.out (w.heap.size + 1, q) (by simp)).six
        go_wp2_with (with_reducible refine wpList_mark (o := ⟨some 53, _, _, _, _, _⟩) ?_)
        refine Marked.intro ?_
        refine Lib.wpList_runG (by rfl) (exec_load_whole rfl rfl (HELD.out (w.heap.size, p) (by simp))) ?_
        clear k2
        go_wp2_with fail
        refine (cBY _).mono ?_
        rintro e wN ⟨rfl, hb⟩
        have HELD' := Lib.hid (HELD.out.b hb); have HT' := Lib.hid (HT.out.below hb); have HB' := Lib.hid (bn HB.out hb)
        clear HELD HT HB hb; have HELD := HELD'; have HT := HT'; have HB := HB'; clear HELD' HT' HB'
        go_wp2
        go_ret
        exact ⟨rfl, HB.out⟩
end Go.Proofs.YtmccnmccegbdjaaDoor
