/- A prefix in a block; the walk of prefix.Right, kind. -/
import Derived.Test.YtmccnmccegbdjaaDoorPfxEq
namespace Go.Proofs.YtmccnmccegbdjaaDoor
open Go.RowKit Go.Sort
set_option linter.unusedVariables false
set_option linter.unusedSimpArgs false
namespace Lib
section
variable {P : Program} {ops : Array Oper} {md : Region.Mode} {made : Nat → Option (Value → World → Prop)}
variable {w : World} {Lq : Act → (Nat → World → Prop) → Prop} {o : Oper} {l : List Oper} {k : Nat} {a : Act} {r : Nat → World → Prop}
theorem wpML_val (v : Value) (hk : made k = none) (hw : Region.wanted o (yielded ops a.tmps) = true) (hr : ∀ w', Below w.heap.size w w' → (execOp a.eval o).run P w' = .ok (.value v) w')
    (h : wpML P md ops (Behind w) made Lq l (k + 1) (a.put o.dst v) r) : wpML P md ops (Behind w) made Lq (o :: l) k a r := by
  refine wpML_step hk (fun K hK => ?_)
  unfold detAt
  rw [if_pos hw]
  refine ⟨v, fun w' hw' => ?_, hK _ h⟩
  rw [hr w' (Behind.below hw')]
  exact ⟨rfl, rfl⟩
theorem wpML_val_use (p : Nat) (R : World → Prop) (v : Value) (hk : made k = none) (hwt : waitsB md o p = true) (hR : ∀ w, r p w → R w) (hw : Region.wanted o (yielded ops a.tmps) = true) (hr : ∀ w', Below w.heap.size w w' → R w' → (execOp a.eval o).run P w' = .ok (.value v) w')
    (h : wpML P md ops (Behind w) made Lq l (k + 1) (a.put o.dst v) r) : wpML P md ops (Behind w) made Lq (o :: l) k a r := by
  refine wpML_use p R hk hwt hR (fun K hK => ?_)
  unfold detAt
  rw [if_pos hw]
  refine ⟨v, fun w' hw' => ?_, hK _ h⟩
  rw [hr w' (Behind.below hw'.1) hw'.2]
  exact ⟨rfl, rfl⟩
end
theorem wpList_runG {P : Program} {ops : Array Oper} {rest : List Oper} {o : Oper} {a : Act} {w w' : World} {Q : Exit → Act → World → Prop} {v : Value} (hw : Region.wanted o (yielded ops a.tmps) = true) (hrun : (execOp a.eval o).run P w = .ok (.value v) w') (h : wpList P ops Q rest (a.put o.dst v) w') : wpList P ops Q (o :: rest) a w := by
  unfold wpList
  rw [if_pos hw]
  refine .inl ?_
  unfold Oper.wp
  rw [hrun]
  exact h
end Lib
/-- A prefix lies in a block. -/
def PxAt (g : Nat) (p : Px) (w : World) : Prop := w.heap[g]? = some (.cells p.row 30) ∧ p.A.length = 16
theorem PxAt.lt {g : Nat} {p : Px} {w : World} (h : PxAt g p w) : g < w.heap.size := (Array.getElem?_eq_some_iff.1 h.1).1
theorem PxAt.below {g B : Nat} {p : Px} {w w' : World} (h : PxAt g p w) (hb : Below B w w') (hg : g < B) : PxAt g p w' := ⟨(hb.block g hg).trans h.1, h.2⟩
theorem PxAt.b {g : Nat} {p : Px} {w w' : World} (h : PxAt g p w) (hb : Below w.heap.size w w') : PxAt g p w' := h.below hb h.lt
theorem PxAt.six {g : Nat} {p : Px} {w : World} (h : PxAt g p w) : w.cell? ⟨g, 0, none⟩ = some (.bool p.six) := by rw [cell_of_row _ _ 0 _ _ _ h.1]; rfl
theorem PxAt.len {g : Nat} {p : Px} {w : World} (h : PxAt g p w) : w.cell? ⟨g, 17, none⟩ = some (.int .i64 p.n) := by rw [cell_of_row _ _ 17 _ _ _ h.1]; exact p.row_len h.2
theorem PxAt.byte {g : Nat} {p : Px} {w : World} (h : PxAt g p w) (i : Nat) (hi : i < 16) : w.cell? ⟨g, 1 + i, none⟩ = some (.int .u8 (p.A.getD i 0 : Nat)) := by
  rw [cell_of_row _ _ _ _ _ _ h.1, Px.row_eq, List.append_assoc, List.getElem?_toArray, List.getElem?_append_right (by simp), List.getElem?_append_left (by simp [bv_length, h.2]; omega)]
  simp only [List.length_cons, List.length_nil, Nat.zero_add, Nat.add_sub_cancel_left]
  exact bv_get p.A i (by rw [h.2]; exact hi)
theorem PxAt.range {g : Nat} {p : Px} {w : World} (h : PxAt g p w) : w.rangeAt g 1 (bv p.A) := fun j v hj => by
  have hjl : j < 16 := by
    have := (List.getElem?_eq_some_iff.1 hj).1
    rw [bv_length, h.2] at this; exact this
  rw [h.byte j hjl]
  rw [bv_get p.A j (by rw [h.2]; exact hjl)] at hj
  exact hj
theorem PxAt.new (w : World) (p : Px) (h : p.A.length = 16) : PxAt w.heap.size p (w.alloc (.cells p.row 30)) := ⟨heap_alloc_new w _, h⟩
theorem exec_load_whole {a : Act} {o : Oper} {x : Operand} (ho : o.op = .load 30 x) {g : Nat} {p : Px} {w : World} (hx : a.eval x = .pointer (some ⟨g, 0, none⟩)) (h : PxAt g p w) :
    (execOp a.eval o).run Tryd.prog w = .ok (.value (.agg p.row)) w :=
  exec_load_row o 30 x ho w g _ p.row _ hx _ Tryd.underlying30 rfl (by rw [p.row_size h.2]; kernel_rfl) h.1
theorem exec_load_bytes {a : Act} {o : Oper} {x : Operand} (ho : o.op = .load 28 x) {g : Nat} {p : Px} {w : World} (hx : a.eval x = .pointer (some ⟨g, 1, none⟩)) (h : PxAt g p w) :
    (execOp a.eval o).run Tryd.prog w = .ok (.value (.agg (bv p.A).toArray)) w := by
  unfold execOp
  simp only [ho, hx, Instr.loadAt, Instr.sureAddr, Sem.run_bind, Sem.run_pure, Result.andThen_ok, run_loadVar_mid w g 1 28 (bv p.A) _ h.range Tryd.underlying28 rfl (by rw [bv_length, h.2]; kernel_rfl)]
set_option maxRecDepth 100000 in
set_option maxHeartbeats 2000000 in
theorem Right_calls (w : World) (p : Px) (hp : p.wf) : Calls Tryd.prog 21 #[.agg p.row] w fun e w' => e = .returned (.bool p.right) ∧ Below w.heap.size w w' := by
  have hb0 := (Below.refl w.heap.size w).alloc (Nat.le_refl _) (.cells p.row 30)
  have h0 := PxAt.new w p hp.len
  have HB0 := Lib.hid hb0; have H0 := Lib.hid h0; clear hb0 h0
  obtain ⟨rr, hrr⟩ : ∃ rr, rr = p.right := ⟨_, rfl⟩
  rw [← hrr]
  have HRR := Lib.hid hrr; clear hrr
  go_enter Tryd.func21, Tryd.ntmps21
  go_wp2_with fail
  generalize w.alloc (.cells p.row 30) = w1 at *
  have k0 := cell_regrown H0.out.six
  have k2 := cell_regrown H0.out.len
  have cW : ∀ d os, Calls Tryd.prog 31 #[.bool p.six] (Sort.grow (redrawn w1 d) os) fun e w'' => e = .returned (.int .i64 (widthN p.six : Nat)) ∧ Lib.Grows (Sort.grow (redrawn w1 d) os) w'' := fun d os => Lib.Calls.grows_of (Calls.below_of_same (width_calls _ p.six))
  by_cases h1 : 0 ≤ p.n
  · obtain ⟨n, hn⟩ := Int.eq_ofNat_of_zero_le h1
    by_cases h2 : p.n ≤ widthN p.six
    · have hW : widthN p.six ≤ 128 := by unfold widthN; split <;> omega
      have cM : ∀ d os, Calls Tryd.prog 36 #[.agg (bv p.A).toArray, .int .i64 p.n] (Sort.grow (redrawn w1 d) os) fun e w'' => e = .returned (.agg (bv (maskL p.A p.n)).toArray) ∧ Lib.Grows (Sort.grow (redrawn w1 d) os) w'' := fun d os => by
        rw [hn]; exact Lib.Calls.grows_of (masked_calls _ p.A hp.len hp.small n (by omega))
      have hE : ∀ w', (Op.equalIn 10000 28 (.agg (bv (maskL p.A p.n)).toArray) (.agg (bv p.A).toArray)).run Tryd.prog w' = .ok (decide (maskL p.A p.n = p.A)) w' := fun w' => run_eql_av w' 9998 _ _ (by unfold maskL; rw [maskTo_length]; exact hp.len) hp.len
      have hG : Tryd.prog.eqGuardType Tryd.prog.depth 28 = false := by kernel_rfl
      have hR : p.right = decide (maskL p.A p.n = p.A) := by unfold Px.right; rw [decide_eq_true h1, decide_eq_true h2]; rfl
      have HR := Lib.hid (HRR.out.trans hR)
      have d1 : decide (0 ≤ p.n) = true := decide_eq_true h1
      have d2 : decide (p.n ≤ (widthN p.six : Int)) = true := decide_eq_true h2
      generalize decide (maskL p.A p.n = p.A) = q at *
      clear hn hW hR
      refine Lib.wp_region_made 22 (fun _ => none) (by kernel_rfl) (by kernel_rfl) Lib.stabP_none ?_
      simp only [List.take_succ_cons, List.take_zero, List.drop_succ_cons, List.drop_zero]
      repeat (first | refine Lib.wpML_val _ (by rfl) (by rfl) (fun w' hw' => exec_load_bytes rfl rfl (H0.out.b hw')) ?_ | (refine Lib.wpML_step (by rfl) (fun K hK => ?_); go_simp; first | (refine hK _ ?_; clear hK K) | (apply Exists.intro; refine ⟨fun _ => ?_, hK _ ?_⟩; (first | exact ⟨Lib.noInit (by kernel_rfl), cW _ _⟩ | exact ⟨Lib.noInit (by kernel_rfl), cM _ _⟩); clear hK K)))
      refine Lib.wpML_nil ?_
      intro w2 hw2 _
      have hb2 := Lib.Behind.below hw2
      have HB2 := Lib.hid (bn HB0.out hb2)
      go_wp2
      go_ret
      exact ⟨by rw [HR.out]; rfl, HB2.out⟩
    · have hR : p.right = false := by unfold Px.right; rw [decide_eq_true h1, decide_eq_false h2]; rfl
      have HR := Lib.hid (HRR.out.trans hR)
      have d1 : decide (0 ≤ p.n) = true := decide_eq_true h1
      have d2 : decide (p.n ≤ (widthN p.six : Int)) = false := decide_eq_false h2
      clear hn hR
      refine Lib.wp_region_made 22 (fun _ => none) (by kernel_rfl) (by kernel_rfl) Lib.stabP_none ?_
      simp only [List.take_succ_cons, List.take_zero, List.drop_succ_cons, List.drop_zero]
      repeat (first | refine Lib.wpML_val _ (by rfl) (by rfl) (fun w' hw' => exec_load_bytes rfl rfl (H0.out.b hw')) ?_ | (refine Lib.wpML_step (by rfl) (fun K hK => ?_); go_simp; first | (refine hK _ ?_; clear hK K) | (apply Exists.intro; refine ⟨fun _ => ?_, hK _ ?_⟩; (first | exact ⟨Lib.noInit (by kernel_rfl), cW _ _⟩); clear hK K)))
      refine Lib.wpML_nil ?_
      intro w2 hw2 _
      have hb2 := Lib.Behind.below hw2
      have HB2 := Lib.hid (bn HB0.out hb2)
      go_wp2
      go_ret
      exact ⟨by rw [HR.out]; rfl, HB2.out⟩
  · have hR : p.right = false := by unfold Px.right; rw [decide_eq_false h1]; rfl
    have HR := Lib.hid (HRR.out.trans hR)
    have d1 : decide (0 ≤ p.n) = false := decide_eq_false h1
    clear hR
    refine Lib.wp_region_made 22 (fun _ => none) (by kernel_rfl) (by kernel_rfl) Lib.stabP_none ?_
    simp only [List.take_succ_cons, List.take_zero, List.drop_succ_cons, List.drop_zero]
    repeat (first | refine Lib.wpML_val _ (by rfl) (by rfl) (fun w' hw' => exec_load_bytes rfl rfl (H0.out.b hw')) ?_ | (refine Lib.wpML_step (by rfl) (fun K hK => ?_); go_simp; first | (refine hK _ ?_; clear hK K) | (apply Exists.intro; refine ⟨fun _ => ?_, hK _ ?_⟩; (first | exact ⟨Lib.noInit (by kernel_rfl), cW _ _⟩); clear hK K)))
    refine Lib.wpML_nil ?_
    intro w2 hw2 _
    have hb2 := Lib.Behind.below hw2
    have HB2 := Lib.hid (bn HB0.out hb2)
    go_wp2
    go_ret
    exact ⟨by rw [HR.out]; rfl, HB2.out⟩
end Go.Proofs.YtmccnmccegbdjaaDoor
