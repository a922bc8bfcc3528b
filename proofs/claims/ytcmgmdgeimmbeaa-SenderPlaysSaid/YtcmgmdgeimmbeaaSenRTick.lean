/- The walk of the reference's sender's Tick. -/
import Derived.Test.YtcmgmdgeimmbeaaSenRef2
import Derived.Test.YtcmgmdgeimmbeaaSenRef3
namespace Go.Proofs.Ytcmgmdgeimmbeaa
open Go.RowKit Go.Sort
set_option linter.unusedVariables false
set_option linter.unusedSimpArgs false
theorem RfAt.nodup {S : Sn} {r : Rs} {w : World} (h : RfAt S r w) : r.g ≠ r.gi ∧ r.g ≠ r.gt ∧ r.g ≠ r.ga ∧ r.gi ≠ r.gt ∧ r.gi ≠ r.ga ∧ r.gt ≠ r.ga := by
  have := h.ne
  simp only [Rs.all, List.nodup_cons, List.mem_cons, List.not_mem_nil, or_false, not_or, List.nodup_nil, and_true, not_false_eq_true] at this
  obtain ⟨⟨a1, a2, a3⟩, ⟨b1, b2⟩, d⟩ := this
  exact ⟨a1, a2, a3, b1, b2, d⟩
theorem RfAt.set_now {S : Sn} {r : Rs} {w : World} (h : RfAt S r w) : RfAt S.step r (w.setCell ⟨r.g, 6, none⟩ (.int .i64 ((S.now + 1 : Nat) : Int))) := by
  obtain ⟨n1, n2, n3, -⟩ := h.nodup
  have ot := fun k (hk : k ≠ r.g) => Below.heap_setCell w ⟨r.g, 6, none⟩ (.int .i64 ((S.now + 1 : Nat) : Int)) k hk
  exact ⟨by rw [row_setCell _ _ _ _ _ _ _ h.row]; rfl, h.irow.keep (ot _ n1.symm), (ot _ n2.symm).trans h.trow, (ot _ n3.symm).trans h.arow, h.strs.keep (fun a ha => ot _ (h.cn _ (by simp [Rs.all]) a ha)), h.wf.step, h.one, h.le, h.ne, h.cn⟩
theorem RfAt.set_lost {S : Sn} {r : Rs} {w : World} (h : RfAt S r w) : RfAt { S with lost := true } r (w.setCell ⟨r.g, 7, none⟩ (.bool true)) := by
  obtain ⟨n1, n2, n3, -⟩ := h.nodup
  have ot := fun k (hk : k ≠ r.g) => Below.heap_setCell w ⟨r.g, 7, none⟩ (.bool true) k hk
  exact ⟨by rw [row_setCell _ _ _ _ _ _ _ h.row]; rfl, h.irow.keep (ot _ n1.symm), (ot _ n2.symm).trans h.trow, (ot _ n3.symm).trans h.arow, h.strs.keep (fun a ha => ot _ (h.cn _ (by simp [Rs.all]) a ha)), ⟨h.wf.lc, h.wf.lt, h.wf.la, h.wf.ale⟩, h.one, h.le, h.ne, h.cn⟩
theorem RfAt.set_try {S : Sn} {r : Rs} {w : World} (i v : Nat) (h : RfAt S r w) : RfAt { S with T := S.T.set i v } r (w.setCell ⟨r.gt, i, none⟩ (.int .i64 (v : Int))) := by
  obtain ⟨-, n2, -, n4, -, n6⟩ := h.nodup
  have ot := fun k (hk : k ≠ r.gt) => Below.heap_setCell w ⟨r.gt, i, none⟩ (.int .i64 (v : Int)) k hk
  exact ⟨(ot _ n2).trans h.row, h.irow.keep (ot _ n4), by rw [row_setCell _ _ _ _ _ _ _ h.trow, intsV_set], (ot _ n6.symm).trans h.arow, h.strs.keep (fun a ha => ot _ (h.cn _ (by simp [Rs.all]) a ha)), ⟨h.wf.lc, by simp [h.wf.lt], h.wf.la, h.wf.ale⟩, h.one, h.le, h.ne, h.cn⟩
theorem RfAt.set_at {S : Sn} {r : Rs} {w : World} (i : Nat) (h : RfAt S r w) : RfAt { S with A := S.A.set i S.now } r (w.setCell ⟨r.ga, i, none⟩ (.int .i64 (S.now : Int))) := by
  obtain ⟨-, -, n3, -, n5, n6⟩ := h.nodup
  have ot := fun k (hk : k ≠ r.ga) => Below.heap_setCell w ⟨r.ga, i, none⟩ (.int .i64 (S.now : Int)) k hk
  exact ⟨(ot _ n3).trans h.row, h.irow.keep (ot _ n5), (ot _ n6).trans h.trow, by rw [row_setCell _ _ _ _ _ _ _ h.arow, intsV_set], h.strs.keep (fun a ha => ot _ (h.cn _ (by simp [Rs.all]) a ha)), ⟨h.wf.lc, h.wf.lt, by simp [h.wf.la], fun j => getD_set_le _ _ _ _ _ (h.wf.ale j) (Nat.le_refl _)⟩, h.one, h.le, h.ne, h.cn⟩
theorem RfAt.drew {S : Sn} {r : Rs} {w : World} (h : RfAt S r w) : RfAt S r w.drew := h.keep (fun _ _ => rfl) (fun _ _ => rfl)
theorem RfAt.ccell {S : Sn} {r : Rs} {w : World} (h : RfAt S r w) {ab ao : Nat} (had : r.ad = some ⟨ab, ao, none⟩) (i : Nat) (hi : i < S.B.length) : w.cell? ⟨ab, ao + i, none⟩ = some (.string (S.C.getD i ⟨#[]⟩)) := by
  obtain ⟨a, h1, h2, h3⟩ := h.strs i _ (List.getElem?_eq_getElem (by rw [h.wf.lc]; exact hi))
  rw [had] at h1
  obtain rfl := Option.some.inj h1
  rw [List.getD_eq_getElem?_getD, List.getElem?_eq_getElem (by rw [h.wf.lc]; exact hi)]
  exact h3
/-- Those that are due, up to one. -/
def duT (S : Sn) (i : Nat) : List Nat := (missB S.B (baseB S.B : Nat) ((baseB S.B : Nat) + 8) i).filter fun i => !S.hold i
theorem duT_step (S : Sn) (i : Nat) : duT S (i + 1) = if (missF S.B (baseB S.B : Nat) ((baseB S.B : Nat) + 8) i && !S.hold i) = true then duT S i ++ [i] else duT S i := by
  unfold duT
  rw [missB_step]
  cases h1 : missF S.B (baseB S.B : Nat) ((baseB S.B : Nat) + 8) i with
  | false => simp
  | true =>
    rw [if_pos rfl, List.filter_append]
    cases h2 : S.hold i with
    | false => simp [h2]
    | true => simp [h2]
theorem duT_base (S : Sn) : duT S (baseB S.B) = [] := by
  unfold duT
  rw [missB_skip S.B _ _ (baseB S.B) 0 (by omega) (fun i _ hi => by
    unfold missF
    rw [decide_eq_false (show ¬ ((baseB S.B : Nat) : Int) ≤ (i : Int) by omega)]; rfl)]
  rfl
theorem duT_end (S : Sn) (i : Nat) (h1 : i ≤ S.B.length) (h2 : baseB S.B + 8 ≤ i ∨ S.B.length ≤ i) : duT S i = S.due := by
  unfold duT Sn.due
  rw [missB_skip S.B _ _ S.B.length i h1 (fun j hj1 hj2 => by
    unfold missF
    rcases h2 with h2 | h2
    · rw [decide_eq_false (show ¬ (j : Int) < ((baseB S.B : Nat) : Int) + 8 by omega)]; simp
    · omega)]
theorem duT_len (S : Sn) (i : Nat) : (duT S i).length ≤ i := by
  unfold duT
  exact Nat.le_trans (List.length_filter_le _ _) (missB_le _ _ _ _)
def RTickPost (S : Sn) (r : Rs) (w : World) (q : List Nat × Nat × Sn) (e : Ending) (w' : World) : Prop :=
  ∃ v, e = .returned (.tuple #[v, .int .i64 (q.2.1 : Nat)]) ∧ RfAt q.2.2 r w' ∧ FrV S q.1 v w.heap.size w' ∧ Chg r.all w w'
set_option maxHeartbeats 4000000 in
set_option maxRecDepth 100000 in
theorem RTick_full (w : World) (S : Sn) (r : Rs) (h : RfAt S r w) (hf : S.full = true) : Calls Try.prog 22 #[.pointer (some ⟨r.g, 0, none⟩)] w (RTickPost S r w ([], 15, S)) := by
  obtain ⟨-, -, c2, c3, -⟩ := h.cells
  have hle := h.le
  have hb := RBase_calls w S.B r.gi r.cap h.irow (by omega)
  rw [of_decide_eq_true (show decide (baseB S.B = S.B.length) = true from hf)] at hb
  have HB := Lib.hid hb; have HH := Lib.hid h; clear hb h
  go_enter Try.func22, Try.ntmps22
  go_wp2_with fail
  refine HB.out.mono ?_
  rintro e w1 ⟨rfl, rfl⟩
  go_wp2
  go_ret2
  exact ⟨_, rfl, HH.out, FrV.nil _ _ _, Chg.refl _ _⟩
set_option maxHeartbeats 4000000 in
set_option maxRecDepth 100000 in
theorem RTick_lost (w : World) (S : Sn) (r : Rs) (h : RfAt S r w) (hf : S.full = false) (hl : S.lost = true) : Calls Try.prog 22 #[.pointer (some ⟨r.g, 0, none⟩)] w (RTickPost S r w ([], 16, S)) := by
  obtain ⟨-, -, c2, c3, -, -, -, c7⟩ := h.cells
  rw [hl] at c7
  have hle := h.le
  have hb := RBase_calls w S.B r.gi r.cap h.irow (by omega)
  have hbn := of_decide_eq_false (show decide (baseB S.B = S.B.length) = false from hf)
  have HB := Lib.hid hb; have HH := Lib.hid h; clear hb h hf hl
  generalize baseB S.B = b at *
  have hnb : ((b : Int) == (S.B.length : Int)) = false := by simp; omega
  go_enter Try.func22, Try.ntmps22
  go_wp2_with fail
  refine HB.out.mono ?_
  rintro e w1 ⟨rfl, rfl⟩
  go_wp2
  go_ret2
  exact ⟨_, rfl, HH.out, FrV.nil _ _ _, Chg.refl _ _⟩
end Go.Proofs.Ytcmgmdgeimmbeaa
