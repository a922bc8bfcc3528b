/- The walks of cmp.Or, prefix.Compare. (Printed by wip/print/pfxcompare.py.) -/
import Derived.Test.YtmccnmccegbdjaaDoorPfxCmp
namespace Go.Proofs.YtmccnmccegbdjaaDoor
open Go.RowKit Go.Sort
set_option linter.unusedVariables false
set_option linter.unusedSimpArgs false
/-- The first that is not nought. -/
def orL : List Int → Int
  | [] => 0
  | x :: l => if x = 0 then orL l else x
theorem orL_drop : ∀ (L : List Int) (i : Nat), (∀ j, j < i → L.getD j 0 = 0) → orL L = orL (L.drop i)
  | _, 0, _ => rfl
  | [], i + 1, _ => by simp [orL]
  | x :: L, i + 1, h => by
    have h0 : x = 0 := h 0 (by omega)
    rw [orL, if_pos h0, List.drop_succ_cons]
    exact orL_drop L i (fun j hj => h (j + 1) (by omega))
theorem orL_at (L : List Int) (i : Nat) (hi : i < L.length) (h : ∀ j, j < i → L.getD j 0 = 0) (hn : L.getD i 0 ≠ 0) : orL L = L.getD i 0 := by
  rw [orL_drop L i h, List.drop_eq_getElem_cons hi, orL]
  rw [List.getD_eq_getElem?_getD, List.getElem?_eq_getElem hi] at hn ⊢
  exact if_neg hn
theorem orL_zero (L : List Int) (h : ∀ j, j < L.length → L.getD j 0 = 0) : orL L = 0 := by
  rw [orL_drop L L.length h, List.drop_length]; rfl
set_option maxRecDepth 100000 in
set_option maxHeartbeats 2000000 in
theorem cmpOr_calls (w : World) (L : List Int) (g c : Nat) (hl : L.length ≤ 1000) (hc : ∀ j, j < L.length → w.cell? ⟨g, j, none⟩ = some (.int .i64 (L.getD j 0))) :
    Calls Tryd.prog 42 #[.slice (some ⟨g, 0, none⟩) L.length c] w fun e w' => e = .returned (.int .i64 (orL L)) ∧ w = w' := by
  obtain ⟨r, hr⟩ : ∃ r, r = orL L := ⟨_, rfl⟩
  rw [← hr]
  have HR := Lib.hid hr; have HC := Lib.hid hc; clear hr hc
  go_enter Tryd.func42, Tryd.ntmps42
  go_wp2
  go_loopw [8] (fun s wr => ∃ i : Nat, s = .int .i64 i ∧ i ≤ L.length ∧ Hid (∀ j, j < i → L.getD j 0 = 0) ∧ wr = w) (fun s _ => L.length - (intOf s).toNat)
  case atStart => exact ⟨0, rfl, by omega, Lib.hid (fun j h => by omega), by first | rfl | trivial⟩
  case round =>
    obtain ⟨i, rfl, hi, hall, rfl⟩ := hrel
    by_cases hlt : i < L.length
    · have hc := HC.out i hlt
      have hltI : (i : Int) < (L.length : Int) := by omega
      have HX : Hid (L.getD i 0 ≠ 0 → r = L.getD i 0) := Lib.hid (fun h => HR.out.trans (orL_at L i hlt hall.out h))
      obtain ⟨x, hx⟩ : ∃ x, L.getD i 0 = x := ⟨_, rfl⟩
      rw [hx] at hc
      have HE := Lib.hid hx; clear hx
      by_cases h0 : x = 0
      · subst h0
        go_wp2
        exact ⟨⟨i + 1, by go_num, by omega, Lib.hid (fun j hj => by
          by_cases h : j = i
          · subst h; exact HE.out
          · exact hall.out j (by omega)), by first | rfl | trivial⟩, by simp only [intOf]; omega⟩
      · have hn : (x == 0) = false := by simpa using h0
        go_wp2
        go_ret
        exact ⟨by rw [HX.out (by rw [HE.out]; exact h0), HE.out]; rfl, rfl⟩
    · obtain rfl : i = L.length := by omega
      have HZ := Lib.hid (HR.out.trans (orL_zero L hall.out))
      go_wp2
      go_ret
      exact ⟨by rw [HZ.out]; rfl, rfl⟩
def Px.compare (p q : Px) : Int := orL [cmpI (kindN p.six) (kindN q.six), cmpN p.A q.A, cmpI p.n q.n]
/-- A row of three numbers, just made. -/
def ThreePost (x y z : Int) (v : Value) (w : World) : Prop := ∃ g, v = .slice (some ⟨g, 0, none⟩) 3 3 ∧ w.heap[g]? = some (.cells #[.int .i64 x, .int .i64 y, .int .i64 z] 3)
theorem ThreePost.grows {x y z : Int} {v : Value} {w w' : World} (h : ThreePost x y z v w) (hg : Lib.Grows w w') : ThreePost x y z v w' := by
  obtain ⟨g, h1, h2⟩ := h
  exact ⟨g, h1, (hg.block g (Array.getElem?_eq_some_iff.1 h2).1).trans h2⟩
theorem grow_alloc_new (w : World) (d : Nat) (os : Array Obj) (o : Obj) : ((grow (redrawn w d) os).alloc o).heap[(redrawn w d).heap.size + os.size]? = some o := by
  have := heap_alloc_new (grow (redrawn w d) os) o
  rwa [size_grow] at this
set_option maxRecDepth 100000 in
set_option maxHeartbeats 8000000 in
theorem Compare_calls (w : World) (p q : Px) (hp : p.wf) (hq : q.wf) : Calls Tryd.prog 22 #[.agg p.row, .agg q.row] w fun e w' => e = .returned (.int .i64 (p.compare q)) ∧ Below w.heap.size w w' := by
  obtain ⟨h1, h2, hb0⟩ := PxAt.new2 w p q hp.len hq.len
  have HB0 := Lib.hid hb0; have H1 := Lib.hid h1; have H2 := Lib.hid h2; clear hb0 h1 h2
  have hC : p.compare q = orL [cmpI (kindN p.six) (kindN q.six), cmpN p.A q.A, cmpI p.n q.n] := rfl
  rw [hC]
  clear hC
  go_enter Tryd.func22, Tryd.ntmps22
  go_wp2_with fail
  generalize (w.alloc (.cells p.row 30)).alloc (.cells q.row 30) = w1 at *
  have k2 := cell_regrown H1.out.len
  have k4 := cell_regrown H2.out.len
  have cK1 : ∀ d os, Calls Tryd.prog 38 #[.agg p.row] (Sort.grow (redrawn w1 d) os) fun e w'' => e = .returned (.int .i64 (kindN p.six : Nat)) ∧ Lib.Grows (Sort.grow (redrawn w1 d) os) w'' := fun d os => Lib.Calls.grows_of (kind_calls _ p hp.len)
  have cK2 : ∀ d os, Calls Tryd.prog 38 #[.agg q.row] (Sort.grow (redrawn w1 d) os) fun e w'' => e = .returned (.int .i64 (kindN q.six : Nat)) ∧ Lib.Grows (Sort.grow (redrawn w1 d) os) w'' := fun d os => Lib.Calls.grows_of (kind_calls _ q hq.len)
  have cC1 : ∀ d os, Calls Tryd.prog 43 #[.int .i64 (kindN p.six : Nat), .int .i64 (kindN q.six : Nat)] (Sort.grow (redrawn w1 d) os) fun e w'' => e = .returned (.int .i64 (cmpI (kindN p.six) (kindN q.six))) ∧ Lib.Grows (Sort.grow (redrawn w1 d) os) w'' := fun d os => Lib.Calls.grows_of (Calls.below_of_same (cmpCompare_calls _ _ _))
  have cC2 : ∀ d os, Calls Tryd.prog 43 #[.int .i64 p.n, .int .i64 q.n] (Sort.grow (redrawn w1 d) os) fun e w'' => e = .returned (.int .i64 (cmpI p.n q.n)) ∧ Lib.Grows (Sort.grow (redrawn w1 d) os) w'' := fun d os => Lib.Calls.grows_of (Calls.below_of_same (cmpCompare_calls _ _ _))
  have cB : ∀ d os, Calls Tryd.prog 44 #[.slice (some ⟨w.heap.size, 1, none⟩) 16 16, .slice (some ⟨w.heap.size + 1, 1, none⟩) 16 16] (Sort.grow (redrawn w1 d) os) fun e w'' => e = .returned (.int .i64 (cmpN p.A q.A)) ∧ Lib.Grows (Sort.grow (redrawn w1 d) os) w'' := fun d os => Lib.Calls.grows_of (Calls.below_of_same (bytesCompare_calls _ p.A q.A hp.len hq.len hp.small hq.small _ _ _ _ _ _ (H1.out.b (below_regrown w1 d os)).range (H2.out.b (below_regrown w1 d os)).range))
  obtain ⟨x, hx⟩ : ∃ x, cmpI (kindN p.six) (kindN q.six) = x := ⟨_, rfl⟩
  obtain ⟨y, hy⟩ : ∃ y, cmpN p.A q.A = y := ⟨_, rfl⟩
  obtain ⟨z, hz⟩ : ∃ z, cmpI p.n q.n = z := ⟨_, rfl⟩
  rw [hx] at cC1
  rw [hy] at cB
  rw [hz] at cC2
  have HX := Lib.hid hx; have HY := Lib.hid hy; have HZ := Lib.hid hz
  clear hx hy hz
  refine Lib.wp_region_made 18 (fun k => if k = 15 then some (ThreePost x y z) else none) (by kernel_rfl) (by kernel_rfl) (fun k Post h v w w' hp hg => ?_) ?_
  · simp only [] at h
    split at h
    · cases h; exact hp.grows hg
    · cases h
  simp only [List.take_succ_cons, List.take_zero, List.drop_succ_cons, List.drop_zero]
  repeat (first | refine Lib.wpML_val _ (by rfl) (by rfl) (fun w' hw' => exec_load_whole rfl rfl (H1.out.b hw')) ?_ | refine Lib.wpML_val _ (by rfl) (by rfl) (fun w' hw' => exec_load_whole rfl rfl (H2.out.b hw')) ?_ | (refine Lib.wpML_step (by rfl) (fun K hK => ?_); go_simp; first | (refine hK _ ?_; clear hK K) | (apply Exists.intro; refine ⟨fun _ => ?_, hK _ ?_⟩; (first | (refine ⟨?_, by with_reducible exact cK1 _ _⟩; exact Lib.noInit (by kernel_rfl)) | (refine ⟨?_, by with_reducible exact cK2 _ _⟩; exact Lib.noInit (by kernel_rfl)) | (refine ⟨?_, by with_reducible exact cC1 _ _⟩; exact Lib.noInit (by kernel_rfl)) | (refine ⟨?_, by with_reducible exact cC2 _ _⟩; exact Lib.noInit (by kernel_rfl)) | (refine ⟨?_, by with_reducible exact cB _ _⟩; exact Lib.noInit (by kernel_rfl))); clear hK K)))
  refine Lib.wpML_make (Post := ThreePost x y z) (by rfl) (fun K hK => ?_)
  go_simp
  refine ⟨fun s => ⟨Lib.Grows.alloc _ _, _, rfl, grow_alloc_new _ _ _ _⟩, fun v => hK _ _ ?_⟩
  clear hK K
  rintro ⟨wv, hbv, g, rfl, hmv⟩
  clear hbv hmv wv
  have cO : ∀ d os, ThreePost x y z (.slice (some ⟨g, 0, none⟩) 3 3) (Sort.grow (redrawn w1 d) os) → Calls Tryd.prog 42 #[.slice (some ⟨g, 0, none⟩) 3 3] (Sort.grow (redrawn w1 d) os) fun e w'' => e = .returned (.int .i64 (orL [x, y, z])) ∧ Lib.Grows (Sort.grow (redrawn w1 d) os) w'' := fun d os h => by
    obtain ⟨g2, h1, h2⟩ := h
    cases h1
    refine Lib.Calls.grows_of (Calls.below_of_same (cmpOr_calls _ [x, y, z] g 3 (by simp) (fun j hj => ?_)))
    rw [cell_of_row _ _ _ _ _ _ h2]
    match j, hj with
    | 0, _ => rfl
    | 1, _ => rfl
    | 2, _ => rfl
  refine Lib.wpML_use 15 (ThreePost x y z (.slice (some ⟨g, 0, none⟩) 3 3)) (by rfl) (by kernel_rfl) (fun w h => h.2 rfl) (fun K hK => ?_)
  go_simp
  apply Exists.intro
  refine ⟨fun _ hR => ⟨Lib.noInit (by kernel_rfl), cO _ _ hR⟩, hK _ ?_⟩
  clear hK K cO
  repeat (first | (refine Lib.wpML_step (by rfl) (fun K hK => ?_); go_simp; (refine hK _ ?_; clear hK K)))
  refine Lib.wpML_nil ?_
  intro w2 hw2 _
  have hb2 := Lib.Behind.below hw2
  have HB2 := Lib.hid (bn HB0.out hb2)
  clear hw2 hb2
  go_wp2
  go_ret
  exact ⟨by rw [HX.out, HY.out, HZ.out]; rfl, HB2.out⟩
end Go.Proofs.YtmccnmccegbdjaaDoor
