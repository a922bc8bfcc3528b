/- The walk of prefix.Common. (Printed by wip/print/pfxcommon.py.) -/
import Derived.Test.YtmccnmccegbdjaaDoorPfxBit
namespace Go.Proofs.YtmccnmccegbdjaaDoor
open Go.RowKit Go.Sort
set_option linter.unusedVariables false
set_option linter.unusedSimpArgs false
/-- How many first bits of m are alike. -/
def cmnN (A B : List Nat) (m : Nat) : Nat := ((List.range m).find? fun k => bitN A k != bitN B k).getD m
theorem cmnN_at (A B : List Nat) (m k : Nat) (h : ∀ j, j < k → bitN A j = bitN B j) (hk : k ≤ m) (hd : k = m ∨ bitN A k ≠ bitN B k) : cmnN A B m = k := by
  unfold cmnN
  cases e : (List.range m).find? fun k => bitN A k != bitN B k with
  | none =>
    rw [List.find?_eq_none] at e
    rcases hd with rfl | hd
    · rfl
    · have := e k
      by_cases hkm : k < m
      · have := this (List.mem_range.2 hkm)
        simp at this; exact absurd this hd
      · show m = k; omega
  | some j =>
    rw [List.find?_range_eq_some] at e
    obtain ⟨e1, e2, e3⟩ := e
    show j = k
    have hj : bitN A j ≠ bitN B j := by simpa using e1
    have hjm : j < m := List.mem_range.1 e2
    rcases Nat.lt_trichotomy j k with h1 | h1 | h1
    · exact absurd (h j h1) hj
    · exact h1
    · rcases hd with hd | hd
      · omega
      · have := e3 k h1
        simp at this; exact absurd this hd
def Px.common (p q : Px) : Int := if p.right && (q.right && decide (p.six = q.six)) then cmnN p.A q.A (min p.n.toNat q.n.toNat) else -1
set_option maxRecDepth 100000 in
set_option maxHeartbeats 8000000 in
theorem Common_calls (w : World) (p q : Px) (hp : p.wf) (hq : q.wf) : Calls Tryd.prog 26 #[.agg p.row, .agg q.row] w fun e w' => e = .returned (.int .i64 (p.common q)) ∧ Below w.heap.size w w' := by
  obtain ⟨h1, h2, hb0⟩ := PxAt.new2 w p q hp.len hq.len
  have HB0 := Lib.hid hb0; have H1 := Lib.hid h1; have H2 := Lib.hid h2; clear hb0 h1 h2
  obtain ⟨rr, hrr⟩ : ∃ rr, rr = p.common q := ⟨_, rfl⟩
  rw [← hrr]
  have HRR := Lib.hid hrr; clear hrr
  have hC : p.common q = (if p.right && (q.right && decide (p.six = q.six)) then ((cmnN p.A q.A (min p.n.toNat q.n.toNat) : Nat) : Int) else -1) := rfl
  have hmp := @Px.right_n p
  have hmq := @Px.right_n q
  have bp := fun w i h1 h2 => Bit_calls w p hp i h1 h2
  have bq := fun w i h1 h2 => Bit_calls w q hq i h1 h2
  have ep : ∀ n j : Nat, p.right = true → p.n = n → j < n → p.bit j = bitN p.A j := fun n j h1 h2 h3 => by
    unfold Px.bit; rw [h1, h2, decide_eq_true (by omega), decide_eq_true (by omega)]; rfl
  have eq : ∀ n j : Nat, q.right = true → q.n = n → j < n → q.bit j = bitN q.A j := fun n j h1 h2 h3 => by
    unfold Px.bit; rw [h1, h2, decide_eq_true (by omega), decide_eq_true (by omega)]; rfl
  have BP := Lib.hid bp; have BQ := Lib.hid bq; have EP := Lib.hid ep; have EQ := Lib.hid eq; clear bp bq ep eq
  go_enter Tryd.func26, Tryd.ntmps26
  go_wp2_with (with_reducible refine wpList_mark (o := ⟨some 6, _, _, _, _, _⟩) ?_)
  generalize (w.alloc (.cells p.row 30)).alloc (.cells q.row 30) = w1 at *
  have cP := fun w => Right_calls w p hp
  have cQ := fun w => Right_calls w q hq
  refine Marked.intro ?_
  refine wpList_run rfl (exec_load_whole rfl rfl H1.out) ?_
  go_wp2_with fail
  cases e1 : p.right with
  | false =>
    rw [e1] at cP hC
    have HR := Lib.hid (HRR.out.trans (hC.trans (show (if false && (q.right && decide (p.six = q.six)) then ((cmnN p.A q.A (min p.n.toNat q.n.toNat) : Nat) : Int) else -1) = -1 from rfl)))
    clear hC e1 hmp hmq
    refine (cP _).mono ?_
    rintro e w2 ⟨rfl, hb⟩
    have HB2 := Lib.hid (bn HB0.out hb); have P1 := Lib.hid (H1.out.b hb); have P2 := Lib.hid (H2.out.b hb)
    clear hb HB0 H1 H2 cP
    go_wp2
    go_ret
    exact ⟨by rw [HR.out]; rfl, HB2.out⟩
  | true =>
    obtain ⟨n, hn, hn2⟩ := hmp e1
    rw [e1] at cP hC
    have hw := widthN_le p.six
    cases e2 : q.right with
    | false =>
      rw [e2] at cQ hC
      have HR := Lib.hid (HRR.out.trans (hC.trans (show (if true && (false && decide (p.six = q.six)) then ((cmnN p.A q.A (min p.n.toNat q.n.toNat) : Nat) : Int) else -1) = -1 from rfl)))
      clear hC hn e1 e2 hmp hmq
      refine (cP _).mono ?_
      rintro e w2 ⟨rfl, hb⟩
      have HB2 := Lib.hid (bn HB0.out hb); have P1 := Lib.hid (H1.out.b hb); have P2 := Lib.hid (H2.out.b hb)
      clear hb HB0 H1 H2 cP
      go_wp2_with (with_reducible refine wpList_mark (o := ⟨some 10, _, _, _, _, _⟩) ?_)
      refine Marked.intro ?_
      refine Lib.wpList_runG (by rfl) (exec_load_whole rfl rfl P2.out) ?_
      go_wp2_with fail
      refine (cQ _).mono ?_
      rintro e w3 ⟨rfl, hb⟩
      have HB3 := HB2; have Q1 := P1; have Q2 := P2
      have HB2 := Lib.hid (bn HB3.out hb); have P1 := Lib.hid (Q1.out.b hb); have P2 := Lib.hid (Q2.out.b hb)
      clear hb HB3 Q1 Q2 cQ
      have k1 := P1.out.six
      have k2 := P2.out.six
      go_wp2
      go_ret
      exact ⟨by rw [HR.out]; rfl, HB2.out⟩
    | true =>
      obtain ⟨m, hm, hm2⟩ := hmq e2
      have hw2 := widthN_le q.six
      rw [e2] at cQ hC
      have HE1 := Lib.hid e1; have HE2 := Lib.hid e2
      clear e1 e2 hmp hmq
      have hn128 : n ≤ 128 := by omega
      have hm128 : m ≤ 128 := by omega
      clear hn2 hm2 hw hw2
      by_cases e3 : p.six = q.six
      · have d3 : (!p.six == q.six) = false := by simpa using e3
        have HR := Lib.hid (HRR.out.trans (hC.trans (show (if true && (true && decide (p.six = q.six)) then ((cmnN p.A q.A (min p.n.toNat q.n.toNat) : Nat) : Int) else -1) = ((cmnN p.A q.A (min n m) : Nat) : Int) by rw [hn, hm, decide_eq_true e3]; rfl)))
        clear hC e3
        refine (cP _).mono ?_
        rintro e w2 ⟨rfl, hb⟩
        have HB2 := Lib.hid (bn HB0.out hb); have P1 := Lib.hid (H1.out.b hb); have P2 := Lib.hid (H2.out.b hb)
        clear hb HB0 H1 H2 cP
        go_wp2_with (with_reducible refine wpList_mark (o := ⟨some 10, _, _, _, _, _⟩) ?_)
        refine Marked.intro ?_
        refine Lib.wpList_runG (by rfl) (exec_load_whole rfl rfl P2.out) ?_
        go_wp2_with fail
        refine (cQ _).mono ?_
        rintro e w3 ⟨rfl, hb⟩
        have HB3 := HB2; have Q1 := P1; have Q2 := P2
        have HB2 := Lib.hid (bn HB3.out hb); have P1 := Lib.hid (Q1.out.b hb); have P2 := Lib.hid (Q2.out.b hb)
        clear hb HB3 Q1 Q2 cQ
        have k1 := P1.out.six
        have k2 := P2.out.six
        go_wp2
        clear k1 k2
        go_loopw [5] (fun s wr => ∃ j : Nat, s = .int .i64 j ∧ j ≤ n ∧ j ≤ m ∧ Hid (Below w.heap.size w wr) ∧ Hid (PxAt w.heap.size p wr) ∧ Hid (PxAt (w.heap.size + 1) q wr) ∧ Hid (∀ i, i < j → bitN p.A i = bitN q.A i)) (fun s _ => n - (intOf s).toNat)
        case atStart => exact ⟨0, rfl, by omega, by omega, HB2, P1, P2, Lib.hid (fun i h => by omega)⟩
        case round =>
          clear HB2 P1 P2
          obtain ⟨wo, rfl⟩ : ∃ wo : World, wo = wr := ⟨_, rfl⟩
          obtain ⟨j, rfl, hjn, hjm, hb, hp1, hp2, hall⟩ := hrel
          have k2 := cell_regrown hp1.out.len
          have k4 := cell_regrown hp2.out.len
          rw [hn] at k2
          rw [hm] at k4
          by_cases hlt : j < n ∧ j < m
          · obtain ⟨l1, l2⟩ := hlt
            have d1 : decide ((j : Int) < if m < n then (m : Int) else (n : Int)) = true := decide_eq_true (by split <;> omega)
            have c1 : ∀ d os, Calls Tryd.prog 28 #[.agg p.row, .int .i64 j] (Sort.grow (redrawn wo d) os) fun e w'' => e = .returned (.int .i64 (bitN p.A j : Nat)) ∧ Lib.Grows (Sort.grow (redrawn wo d) os) w'' := fun d os => by
              rw [← EP.out n j HE1.out hn l1]; exact Lib.Calls.grows_of (BP.out _ _ (by omega) (by omega))
            have c2 : ∀ d os, Calls Tryd.prog 28 #[.agg q.row, .int .i64 j] (Sort.grow (redrawn wo d) os) fun e w'' => e = .returned (.int .i64 (bitN q.A j : Nat)) ∧ Lib.Grows (Sort.grow (redrawn wo d) os) w'' := fun d os => by
              rw [← EQ.out m j HE2.out hm l2]; exact Lib.Calls.grows_of (BQ.out _ _ (by omega) (by omega))
            have HCM : Hid (∀ k, k ≤ n → k ≤ m → (∀ i, i < k → bitN p.A i = bitN q.A i) → (k = min n m ∨ bitN p.A k ≠ bitN q.A k) → cmnN p.A q.A (min n m) = k) := Lib.hid (fun k h1 h2 h3 h4 => cmnN_at _ _ _ _ h3 (by omega) h4)
            obtain ⟨x, hx⟩ : ∃ x, bitN p.A j = x := ⟨_, rfl⟩
            obtain ⟨y, hy⟩ : ∃ y, bitN q.A j = y := ⟨_, rfl⟩
            rw [hx] at c1
            rw [hy] at c2
            have HX := Lib.hid hx; have HY := Lib.hid hy
            clear hx hy hn hm
            by_cases hxy : x = y
            · subst hxy
              go_wp2_with fail
              refine Lib.wp_region_made 16 (fun _ => none) (by kernel_rfl) (by kernel_rfl) Lib.stabP_none ?_
              simp only [List.take_succ_cons, List.take_zero, List.drop_succ_cons, List.drop_zero]
              repeat (first | refine Lib.wpML_val _ (by rfl) (by rfl) (fun w' hw' => exec_load_whole rfl rfl (hp1.out.b hw')) ?_ | refine Lib.wpML_val _ (by rfl) (by rfl) (fun w' hw' => exec_load_whole rfl rfl (hp2.out.b hw')) ?_ | (refine Lib.wpML_step (by rfl) (fun K hK => ?_); go_simp; first | (refine hK _ ?_; clear hK K) | (apply Exists.intro; refine ⟨fun _ => ?_, hK _ ?_⟩; (first | (refine ⟨?_, by with_reducible exact c1 _ _⟩; exact Lib.noInit (by kernel_rfl)) | (refine ⟨?_, by with_reducible exact c2 _ _⟩; exact Lib.noInit (by kernel_rfl))); clear hK K)))
              refine Lib.wpML_nil ?_
              intro w2 hw2 _
              have hb2 := Lib.Behind.below hw2
              have HB2 := Lib.hid (bn hb.out hb2)
              clear hw2
              have Q1 := Lib.hid (hp1.out.b hb2)
              have Q2 := Lib.hid (hp2.out.b hb2)
              clear hb2 c1 c2 k2 k4 hb d1
              go_wp2
              exact ⟨⟨j + 1, by go_num, by omega, by omega, HB2, Q1, Q2, Lib.hid (fun i hi => by
                by_cases h : i = j
                · subst h; rw [HX.out, HY.out]
                · exact hall.out i (by omega))⟩, by simp only [intOf]; omega⟩
            · have d2 : ((x : Int) == (y : Int)) = false := by simpa using fun h => hxy (by omega)
              go_wp2_with fail
              refine Lib.wp_region_made 16 (fun _ => none) (by kernel_rfl) (by kernel_rfl) Lib.stabP_none ?_
              simp only [List.take_succ_cons, List.take_zero, List.drop_succ_cons, List.drop_zero]
              repeat (first | refine Lib.wpML_val _ (by rfl) (by rfl) (fun w' hw' => exec_load_whole rfl rfl (hp1.out.b hw')) ?_ | refine Lib.wpML_val _ (by rfl) (by rfl) (fun w' hw' => exec_load_whole rfl rfl (hp2.out.b hw')) ?_ | (refine Lib.wpML_step (by rfl) (fun K hK => ?_); go_simp; first | (refine hK _ ?_; clear hK K) | (apply Exists.intro; refine ⟨fun _ => ?_, hK _ ?_⟩; (first | (refine ⟨?_, by with_reducible exact c1 _ _⟩; exact Lib.noInit (by kernel_rfl)) | (refine ⟨?_, by with_reducible exact c2 _ _⟩; exact Lib.noInit (by kernel_rfl))); clear hK K)))
              refine Lib.wpML_nil ?_
              intro w2 hw2 _
              have hb2 := Lib.Behind.below hw2
              have HB2 := Lib.hid (bn hb.out hb2)
              clear hw2
              clear d1
              go_wp2
              all_goals (go_ret; exact ⟨by rw [HR.out, HCM.out j (by omega) (by omega) hall.out (.inr (by rw [HX.out, HY.out]; exact hxy))]; rfl, HB2.out⟩)
          · have d1 : decide ((j : Int) < if m < n then (m : Int) else (n : Int)) = false := decide_eq_false (by split <;> omega)
            have hcm := cmnN_at p.A q.A (min n m) j hall.out (by omega) (.inl (by omega))
            have HCM := Lib.hid hcm; clear hcm hn hm
            go_wp2_with fail
            refine Lib.wp_region_made 16 (fun _ => none) (by kernel_rfl) (by kernel_rfl) Lib.stabP_none ?_
            simp only [List.take_succ_cons, List.take_zero, List.drop_succ_cons, List.drop_zero]
            repeat (first | refine Lib.wpML_val _ (by rfl) (by rfl) (fun w' hw' => exec_load_whole rfl rfl (hp1.out.b hw')) ?_ | refine Lib.wpML_val _ (by rfl) (by rfl) (fun w' hw' => exec_load_whole rfl rfl (hp2.out.b hw')) ?_ | (refine Lib.wpML_step (by rfl) (fun K hK => ?_); go_simp; (refine hK _ ?_; clear hK K)))
            refine Lib.wpML_nil ?_
            intro w2 hw2 _
            have hb2 := Lib.Behind.below hw2
            have HB2 := Lib.hid (bn hb.out hb2)
            clear hw2
            clear d1
            go_wp2
            all_goals (go_ret; exact ⟨by rw [HR.out, HCM.out]; rfl, HB2.out⟩)

      · have d3 : (!p.six == q.six) = true := by simpa using e3
        have HR := Lib.hid (HRR.out.trans (hC.trans (show (if true && (true && decide (p.six = q.six)) then ((cmnN p.A q.A (min p.n.toNat q.n.toNat) : Nat) : Int) else -1) = -1 by rw [decide_eq_false e3]; rfl)))
        clear hC hn hm
        refine (cP _).mono ?_
        rintro e w2 ⟨rfl, hb⟩
        have HB2 := Lib.hid (bn HB0.out hb); have P1 := Lib.hid (H1.out.b hb); have P2 := Lib.hid (H2.out.b hb)
        clear hb HB0 H1 H2 cP
        go_wp2_with (with_reducible refine wpList_mark (o := ⟨some 10, _, _, _, _, _⟩) ?_)
        refine Marked.intro ?_
        refine Lib.wpList_runG (by rfl) (exec_load_whole rfl rfl P2.out) ?_
        go_wp2_with fail
        refine (cQ _).mono ?_
        rintro e w3 ⟨rfl, hb⟩
        have HB3 := HB2; have Q1 := P1; have Q2 := P2
        have HB2 := Lib.hid (bn HB3.out hb); have P1 := Lib.hid (Q1.out.b hb); have P2 := Lib.hid (Q2.out.b hb)
        clear hb HB3 Q1 Q2 cQ
        have k1 := P1.out.six
        have k2 := P2.out.six
        go_wp2
        go_ret
        exact ⟨by rw [HR.out]; rfl, HB2.out⟩
end Go.Proofs.YtmccnmccegbdjaaDoor
