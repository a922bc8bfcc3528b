/- The reference's Right. (Printed by wip/print/pfxrright.py.) -/
import Derived.Test.YtmccnmccegbdjaaDoorPfxAwake
namespace Go.Proofs.YtmccnmccegbdjaaDoor
open Go.RowKit Go.Sort
set_option linter.unusedVariables false
set_option linter.unusedSimpArgs false
theorem most_calls (w : World) (b : Bool) : Calls Tryd.prog 34 #[.bool b] w fun e w' => e = .returned (.int .i64 (widthN b : Nat)) ∧ w = w' := by
  cases b <;> go_enter Tryd.func34, Tryd.ntmps34 <;> go_wp2 <;> go_ret <;> exact ⟨rfl, rfl⟩
theorem byte_bits : ∀ x : Fin 256, ∀ l : Fin 9, decide (mk1 ((l.val : Nat) : Int) x.val = x.val) = (List.range 8).all fun t => decide (t < l.val) || x.val / 2 ^ (7 - t) % 2 == 0 := by decide +kernel
theorem mk1_clamp (n j x : Nat) : mk1 ((n : Int) - 8 * j) x = mk1 ((min (n - 8 * j) 8 : Nat) : Int) x := by
  unfold mk1
  by_cases h1 : (n : Int) - 8 * j ≤ 0
  · rw [if_pos h1, if_pos (by omega)]
  · rw [if_neg h1]
    by_cases h2 : (n : Int) - 8 * j < 8
    · rw [if_pos h2, if_neg (by omega), if_pos (by omega), show ((min (n - 8 * j) 8 : Nat) : Int) = (n : Int) - 8 * j by omega]
    · rw [if_neg h2, if_neg (by omega), if_neg (by omega)]
theorem mask_bits (A : List Nat) (hA : A.length = 16) (hs : ∀ i, A.getD i 0 < 256) (n : Nat) : maskL A n = A ↔ ∀ i : Nat, n ≤ i → i < 128 → bitN A i = 0 := by
  have hb : ∀ j : Nat, j < 16 → (mk1 ((n : Int) - 8 * j) (A.getD j 0) = A.getD j 0 ↔ ∀ t : Nat, t < 8 → n ≤ 8 * j + t → A.getD j 0 / 2 ^ (7 - t) % 2 = 0) := fun j hj => by
    have h := byte_bits ⟨A.getD j 0, hs j⟩ ⟨min (n - 8 * j) 8, by omega⟩
    simp only at h
    have h3 : (mk1 ((min (n - 8 * j) 8 : Nat) : Int) (A.getD j 0) = A.getD j 0) ↔ ((List.range 8).all fun t => decide (t < min (n - 8 * j) 8) || A.getD j 0 / 2 ^ (7 - t) % 2 == 0) = true := by rw [← h]; exact decide_eq_true_iff.symm
    rw [mk1_clamp, h3]
    simp only [List.all_eq_true, List.mem_range, Bool.or_eq_true, decide_eq_true_eq, beq_iff_eq]
    constructor
    · intro h2 t ht hn
      rcases h2 t ht with h3 | h3
      · omega
      · exact h3
    · intro h2 t ht
      by_cases hn : n ≤ 8 * j + t
      · exact .inr (h2 t ht hn)
      · exact .inl (by omega)
  constructor
  · intro h i hn hi
    have := (hb (i / 8) (by omega)).1 (by
      have h2 : (maskL A n).getD (i / 8) 0 = A.getD (i / 8) 0 := by rw [h]
      unfold maskL at h2
      rw [maskTo_get _ _ _ _ (by omega), if_pos (by omega)] at h2
      exact h2) (i % 8) (by omega) (by omega)
    exact this
  · intro h
    apply list_ext_getD
    · unfold maskL; rw [maskTo_length]
    · intro j hj
      unfold maskL at hj ⊢
      rw [maskTo_length] at hj
      rw [maskTo_get _ _ _ _ hj, if_pos (by omega)]
      refine (hb j (by omega)).2 (fun t ht hn => ?_)
      have := h (8 * j + t) hn (by omega)
      unfold bitN at this
      rwa [show (8 * j + t) / 8 = j by omega, show (8 * j + t) % 8 = t by omega] at this
set_option maxRecDepth 100000 in
set_option maxHeartbeats 2000000 in
theorem rbit_calls (w : World) (A : List Nat) (hA : A.length = 16) (hs : ∀ i, A.getD i 0 < 256) (j : Nat) (hj : j < 128) : Calls Tryd.prog 37 #[.agg (bv A).toArray, .int .i64 j] w fun e w' => e = .returned (.int .i64 (bitN A j : Nat)) ∧ Below w.heap.size w w' := by
  have hb0 := (Below.refl w.heap.size w).alloc (Nat.le_refl _) (.cells (bv A).toArray 28)
  have hrow := heap_alloc_new w (.cells (bv A).toArray 28)
  have HB0 := Lib.hid hb0; clear hb0
  have hc : (w.alloc (.cells (bv A).toArray 28)).cell? ⟨w.heap.size, j / 8, none⟩ = some (.int .u8 (A.getD (j / 8) 0 : Nat)) := by
    rw [cell_of_row _ _ _ _ _ _ hrow]
    have := bv_get A (j / 8) (by omega)
    simpa using this
  have hx := hs (j / 8)
  have hbn : bitN A j = A.getD (j / 8) 0 / 2 ^ (7 - j % 8) % 2 := rfl
  rw [hbn]
  have hq : IntKind.i64.wrap ((j : Int) / 8) = ((j / 8 : Nat) : Int) := by
    rw [show (j : Int) / 8 = ((j / 8 : Nat) : Int) by simp]; exact IntWalk.i64_in _ (by omega)
  have hr : Int.tmod (j : Int) 8 = ((j % 8 : Nat) : Int) := rfl
  have hq16 : j / 8 < 16 := by omega
  have hr8 : j % 8 < 8 := by omega
  clear hbn hrow hs
  generalize A.getD (j / 8) 0 = x at *
  generalize j / 8 = u at *
  generalize j % 8 = v at *
  have huI : (u : Int) < 16 := by omega
  have hk : (x : Int) / 2 ^ (7 - v) = ((x / 2 ^ (7 - v) : Nat) : Int) := by simp
  have hy : x / 2 ^ (7 - v) < 256 := Nat.lt_of_le_of_lt (Nat.div_le_self _ _) hx
  obtain ⟨y, hyy⟩ : ∃ y, x / 2 ^ (7 - v) = y := ⟨_, rfl⟩
  rw [hyy] at hk hy ⊢
  have hwy : wrap64 (y : Int) = (y : Int) := by unfold wrap64; omega
  obtain ⟨z, hz⟩ : ∃ z, y % 2 = z := ⟨_, rfl⟩
  have ht2 : Int.tmod (y : Int) 2 = (z : Int) := by rw [← hz]; rfl
  have ht3 : (y : Int) % 2 = (z : Int) := by rw [← hz]; rfl
  rw [hz]
  clear hyy hz
  go_enter Tryd.func37, Tryd.ntmps37
  go_wp2
  go_ret
  exact ⟨rfl, HB0.out⟩
set_option maxRecDepth 100000 in
set_option maxHeartbeats 4000000 in
theorem RRight_calls (w : World) (p : Px) (hp : p.wf) : Calls Tryd.prog 16 #[.agg p.row] w fun e w' => e = .returned (.bool p.right) ∧ Below w.heap.size w w' := by
  have hb0 := (Below.refl w.heap.size w).alloc (Nat.le_refl _) (.cells p.row 30)
  have h0 := PxAt.new w p hp.len
  have HB0 := Lib.hid hb0; have H0 := Lib.hid h0; clear hb0 h0
  obtain ⟨rr, hrr⟩ : ∃ rr, rr = p.right := ⟨_, rfl⟩
  rw [← hrr]
  have HRR := Lib.hid hrr; clear hrr
  go_enter Tryd.func16, Tryd.ntmps16
  go_wp2_with fail
  generalize w.alloc (.cells p.row 30) = w1 at *
  have k0 := cell_regrown H0.out.six
  have k2 := cell_regrown H0.out.len
  have cW : ∀ d os, Calls Tryd.prog 34 #[.bool p.six] (Sort.grow (redrawn w1 d) os) fun e w'' => e = .returned (.int .i64 (widthN p.six : Nat)) ∧ Lib.Grows (Sort.grow (redrawn w1 d) os) w'' := fun d os => Lib.Calls.grows_of (Calls.below_of_same (most_calls _ p.six))
  by_cases h1 : p.n < 0
  · have hR : p.right = false := by unfold Px.right; rw [decide_eq_false (show ¬ 0 ≤ p.n by omega)]; rfl
    have HR := Lib.hid (HRR.out.trans hR)
    have d1 : decide (p.n < 0) = true := decide_eq_true h1
    clear hR h1
    refine Lib.wp_region_made 11 (fun _ => none) (by kernel_rfl) (by kernel_rfl) Lib.stabP_none ?_
    simp only [List.take_succ_cons, List.take_zero, List.drop_succ_cons, List.drop_zero]
    repeat (first | (refine Lib.wpML_step (by rfl) (fun K hK => ?_); go_simp; first | (refine hK _ ?_; clear hK K) | (apply Exists.intro; refine ⟨fun _ => ?_, hK _ ?_⟩; (first | (refine ⟨?_, by with_reducible exact cW _ _⟩; exact Lib.noInit (by kernel_rfl))); clear hK K)))
    refine Lib.wpML_nil ?_
    intro w2 hw2 _
    have hb2 := Lib.Behind.below hw2
    have HB2 := Lib.hid (bn HB0.out hb2)
    clear hw2
    go_wp2
    go_ret
    exact ⟨by rw [HR.out]; rfl, HB2.out⟩
  · obtain ⟨n, hn⟩ := Int.eq_ofNat_of_zero_le (show 0 ≤ p.n by omega)
    have d1 : decide (p.n < 0) = false := decide_eq_false h1
    by_cases h2 : (widthN p.six : Int) < p.n
    · have hR : p.right = false := by unfold Px.right; rw [decide_eq_true (show 0 ≤ p.n by omega), decide_eq_false (show ¬ p.n ≤ widthN p.six by omega)]; rfl
      have HR := Lib.hid (HRR.out.trans hR)
      have d2 : decide ((widthN p.six : Int) < p.n) = true := decide_eq_true h2
      have d3 : decide ((n : Int) < 0) = false := by simp
      have d4 : decide (widthN p.six < n) = true := decide_eq_true (by omega)
      clear hR h1 h2 hn
      refine Lib.wp_region_made 11 (fun _ => none) (by kernel_rfl) (by kernel_rfl) Lib.stabP_none ?_
      simp only [List.take_succ_cons, List.take_zero, List.drop_succ_cons, List.drop_zero]
      repeat (first | (refine Lib.wpML_step (by rfl) (fun K hK => ?_); go_simp; first | (refine hK _ ?_; clear hK K) | (apply Exists.intro; refine ⟨fun _ => ?_, hK _ ?_⟩; (first | (refine ⟨?_, by with_reducible exact cW _ _⟩; exact Lib.noInit (by kernel_rfl))); clear hK K)))
      refine Lib.wpML_nil ?_
      intro w2 hw2 _
      have hb2 := Lib.Behind.below hw2
      have HB2 := Lib.hid (bn HB0.out hb2)
      clear hw2
      go_wp2
      go_ret
      exact ⟨by rw [HR.out]; rfl, HB2.out⟩
    · have hR : p.right = decide (maskL p.A n = p.A) := by unfold Px.right; rw [decide_eq_true (show 0 ≤ p.n by omega), decide_eq_true (show p.n ≤ widthN p.six by omega), hn]; rfl
      have d2 : decide ((widthN p.six : Int) < p.n) = false := decide_eq_false h2
      have d3 : decide ((n : Int) < 0) = false := by simp
      have d4 : decide (widthN p.six < n) = false := decide_eq_false (by omega)
      have hM := mask_bits p.A hp.len hp.small n
      have HM := Lib.hid hM
      have hn128 : n ≤ 128 := by have := widthN_le p.six; omega
      clear hM h1 h2
      refine Lib.wp_region_made 11 (fun _ => none) (by kernel_rfl) (by kernel_rfl) Lib.stabP_none ?_
      simp only [List.take_succ_cons, List.take_zero, List.drop_succ_cons, List.drop_zero]
      repeat (first | (refine Lib.wpML_step (by rfl) (fun K hK => ?_); go_simp; first | (refine hK _ ?_; clear hK K) | (apply Exists.intro; refine ⟨fun _ => ?_, hK _ ?_⟩; (first | (refine ⟨?_, by with_reducible exact cW _ _⟩; exact Lib.noInit (by kernel_rfl))); clear hK K)))
      refine Lib.wpML_nil ?_
      intro w2 hw2 _
      have hb2 := Lib.Behind.below hw2
      have HB2 := Lib.hid (bn HB0.out hb2)
      clear hw2
      have H2 := Lib.hid (H0.out.b hb2)
      clear d1 d2 d3 d4 hb2 k0 k2 cW HB0 H0
      have c2 := H2.out.len
      rw [hn] at c2
      go_wp2_with fail
      clear c2
      go_loopw [3] (fun s wr => ∃ i : Nat, s = .int .i64 i ∧ n ≤ i ∧ i ≤ 128 ∧ Hid (Below w.heap.size w wr) ∧ Hid (PxAt w.heap.size p wr) ∧ Hid (∀ j, n ≤ j → j < i → bitN p.A j = 0)) (fun s _ => 128 - (intOf s).toNat)
      case atStart => exact ⟨n, rfl, by omega, by omega, HB2, H2, Lib.hid (fun j h1 h2 => by omega)⟩
      case round =>
        clear HB2 H2
        obtain ⟨wo, rfl⟩ : ∃ wo : World, wo = wr := ⟨_, rfl⟩
        obtain ⟨i, rfl, hni, hi, hb, hpx, hall⟩ := hrel
        by_cases hlt : i < 128
        · have hltI : (i : Int) < 128 := by omega
          have HBC := Lib.hid (fun w => rbit_calls w p.A hp.len hp.small i hlt)
          obtain ⟨x, hx⟩ : ∃ x, bitN p.A i = x := ⟨_, rfl⟩
          rw [hx] at HBC
          have HX := Lib.hid hx; clear hx
          go_wp2_with (with_reducible refine wpList_mark (o := ⟨some 22, _, _, _, _, _⟩) ?_)
          refine Marked.intro ?_
          refine wpList_run rfl (exec_load_bytes rfl rfl hpx.out) ?_
          go_wp2_with fail
          refine (HBC.out _).mono ?_
          rintro e w5 ⟨rfl, hb5⟩
          have HB5 := Lib.hid (bn hb.out hb5); have HP5 := Lib.hid (hpx.out.b hb5); clear hb5 hb hpx
          by_cases h0 : x = 0
          · subst h0
            go_wp2
            exact ⟨⟨i + 1, by go_num, by omega, by omega, HB5, HP5, Lib.hid (fun j h1 h2 => by
              by_cases h : j = i
              · subst h; exact HX.out
              · exact hall.out j h1 (by omega))⟩, by simp only [intOf]; omega⟩
          · have hne : ((x : Int) == 0) = false := by simpa using h0
            have hRf := Lib.hid (HRR.out.trans (hR.trans (decide_eq_false (fun h => h0 (by rw [← HX.out]; exact (HM.out.1 h) i hni hlt)))))
            clear hR
            go_wp2
            go_ret
            exact ⟨by rw [hRf.out]; rfl, HB5.out⟩
        · obtain rfl : i = 128 := by omega
          have hRt := Lib.hid (HRR.out.trans (hR.trans (decide_eq_true (HM.out.2 (fun j h1 h2 => hall.out j h1 h2)))))
          clear hR
          go_wp2
          go_ret
          exact ⟨by rw [hRt.out]; rfl, hb.out⟩
end Go.Proofs.YtmccnmccegbdjaaDoor
