/- The walk of Sender.Tick. -/
import Derived.Test.YtcmgmdgeimmbeaaSenWalk
import Derived.Deep.AppendLies
import Derived.RegionTactic
namespace Go.Proofs.Ytcmgmdgeimmbeaa
open Go.RowKit
set_option linter.unusedVariables false
set_option linter.unusedSimpArgs false
/-- Nothing that was there has turned but some blocks. -/
structure Chg (K : List Nat) (w w' : World) : Prop where
  os : w'.os = w.os
  tape : w'.tape = w.tape
  output : w'.output = w.output
  size : w.heap.size ≤ w'.heap.size
  other : ∀ k, k < w.heap.size → k ∉ K → w'.heap[k]? = w.heap[k]?
theorem Chg.refl (K : List Nat) (w : World) : Chg K w w := ⟨rfl, rfl, rfl, Nat.le_refl _, fun _ _ _ => rfl⟩
theorem Chg.trans {K : List Nat} {x y z : World} (h : Chg K x y) (k : Chg K y z) : Chg K x z := ⟨k.os.trans h.os, k.tape.trans h.tape, k.output.trans h.output, Nat.le_trans h.size k.size, fun i h1 h2 => (k.other i (Nat.lt_of_lt_of_le h1 h.size) h2).trans (h.other i h1 h2)⟩
theorem Chg.of_below {K : List Nat} {w w' : World} (h : Below w.heap.size w w') : Chg K w w' := ⟨h.os, h.tape, h.output, h.size, fun k hk _ => h.block k hk⟩
theorem Chg.of_upd {K : List Nat} {w w' : World} {g : Nat} (h : Upd g w w') (hg : g ∈ K) : Chg K w w' := ⟨h.os, h.tape, h.output, Nat.le_of_eq h.size.symm, fun k _ hk => h.other k fun e => hk (e ▸ hg)⟩
theorem Chg.below {K : List Nat} {w w' : World} {B : Nat} (h : Chg K w w') (hB : ∀ k ∈ K, B ≤ k) (hs : B ≤ w.heap.size) : Below B w w' := ⟨h.os, h.tape, h.output, h.size, fun k hk => h.other k (by omega) fun e => by have := hB k e; omega⟩
theorem ownsRow_carry {w w' : World} {B : Nat} {e : TypeId} {sz : Nat} {v : Value} {n : Nat} {xs : List Value} (h : w.ownsRow B e sz v n xs) (hk : ∀ k, v.ownBlock = some k → w'.heap[k]? = w.heap[k]?) : w'.ownsRow B e sz v n xs := by
  obtain ⟨h1, h2⟩ := h
  refine ⟨h1, ?_⟩
  rcases h2 with h2 | ⟨g, cap, cur, rfl, h3, h4, h5⟩
  · exact Or.inl h2
  · exact Or.inr ⟨g, cap, cur, rfl, h3, by rw [hk g rfl]; exact h4, h5⟩
theorem intsV_set (l : List Nat) (i v : Nat) : (intsV l).toArray.setIfInBounds i (.int .i64 (v : Int)) = (intsV (l.set i v)).toArray := by
  apply Array.ext_getElem?
  intro k
  simp only [Array.getElem?_setIfInBounds, intsV, List.getElem?_toArray, List.getElem?_map, List.getElem?_set, List.size_toArray, List.length_map]
  by_cases hk : i = k
  · subst hk
    by_cases hi : i < l.length <;> simp [hi]
  · simp [hk]
theorem SnAt.nodup {S : Sn} {a : Sa} {w : World} (h : SnAt S a w) : a.g ≠ a.gm ∧ a.g ≠ a.gc ∧ a.g ≠ a.gt ∧ a.g ≠ a.ga ∧ a.gm ≠ a.gc ∧ a.gm ≠ a.gt ∧ a.gm ≠ a.ga ∧ a.gc ≠ a.gt ∧ a.gc ≠ a.ga ∧ a.gt ≠ a.ga := by
  have := h.ne
  simp only [Sa.all, List.nodup_cons, List.mem_cons, List.not_mem_nil, or_false, not_or, List.nodup_nil, and_true, not_false_eq_true] at this
  obtain ⟨⟨a1, a2, a3, a4⟩, ⟨b1, b2, b3⟩, ⟨c1, c2⟩, d⟩ := this
  exact ⟨a1, a2, a3, a4, b1, b2, b3, c1, c2, d⟩
theorem SnAt.set_now {S : Sn} {a : Sa} {w : World} (h : SnAt S a w) : SnAt S.step a (w.setCell ⟨a.g, 6, none⟩ (.int .i64 ((S.now + 1 : Nat) : Int))) := by
  obtain ⟨n1, n2, n3, n4, -⟩ := h.nodup
  obtain ⟨cs, t, fr, hc, hc2⟩ := h.crow
  have ot := fun k (hk : k ≠ a.g) => Below.heap_setCell w ⟨a.g, 6, none⟩ (.int .i64 ((S.now + 1 : Nat) : Int)) k hk
  exact ⟨by rw [row_setCell _ _ _ _ _ _ _ h.row]; rfl, ⟨(ot _ n1.symm).trans h.mp.row, h.mp.one, h.mp.le⟩, ⟨cs, t, fr, (ot _ n2.symm).trans hc, hc2⟩, (ot _ n3.symm).trans h.trow, (ot _ n4.symm).trans h.arow, h.wf.step, h.ne⟩
theorem SnAt.set_lost {S : Sn} {a : Sa} {w : World} (h : SnAt S a w) : SnAt { S with lost := true } a (w.setCell ⟨a.g, 7, none⟩ (.bool true)) := by
  obtain ⟨n1, n2, n3, n4, -⟩ := h.nodup
  obtain ⟨cs, t, fr, hc, hc2⟩ := h.crow
  have ot := fun k (hk : k ≠ a.g) => Below.heap_setCell w ⟨a.g, 7, none⟩ (.bool true) k hk
  exact ⟨by rw [row_setCell _ _ _ _ _ _ _ h.row]; rfl, ⟨(ot _ n1.symm).trans h.mp.row, h.mp.one, h.mp.le⟩, ⟨cs, t, fr, (ot _ n2.symm).trans hc, hc2⟩, (ot _ n3.symm).trans h.trow, (ot _ n4.symm).trans h.arow, ⟨h.wf.lc, h.wf.lt, h.wf.la, h.wf.ale⟩, h.ne⟩
theorem SnAt.set_try {S : Sn} {a : Sa} {w : World} (i v : Nat) (h : SnAt S a w) : SnAt { S with T := S.T.set i v } a (w.setCell ⟨a.gt, i, none⟩ (.int .i64 (v : Int))) := by
  obtain ⟨-, -, n3, -, -, n6, -, n8, -, n10⟩ := h.nodup
  obtain ⟨cs, t, fr, hc, hc2⟩ := h.crow
  have ot := fun k (hk : k ≠ a.gt) => Below.heap_setCell w ⟨a.gt, i, none⟩ (.int .i64 (v : Int)) k hk
  exact ⟨(ot _ n3).trans h.row, ⟨(ot _ n6).trans h.mp.row, h.mp.one, h.mp.le⟩, ⟨cs, t, fr, (ot _ n8).trans hc, hc2⟩, by rw [row_setCell _ _ _ _ _ _ _ h.trow, intsV_set], (ot _ n10.symm).trans h.arow, ⟨h.wf.lc, by simp [h.wf.lt], h.wf.la, h.wf.ale⟩, h.ne⟩
theorem SnAt.set_at {S : Sn} {a : Sa} {w : World} (i : Nat) (h : SnAt S a w) : SnAt { S with A := S.A.set i S.now } a (w.setCell ⟨a.ga, i, none⟩ (.int .i64 (S.now : Int))) := by
  obtain ⟨-, -, -, n4, -, -, n7, -, n9, n10⟩ := h.nodup
  obtain ⟨cs, t, fr, hc, hc2⟩ := h.crow
  have ot := fun k (hk : k ≠ a.ga) => Below.heap_setCell w ⟨a.ga, i, none⟩ (.int .i64 (S.now : Int)) k hk
  exact ⟨(ot _ n4).trans h.row, ⟨(ot _ n7).trans h.mp.row, h.mp.one, h.mp.le⟩, ⟨cs, t, fr, (ot _ n9).trans hc, hc2⟩, (ot _ n10).trans h.trow, by rw [row_setCell _ _ _ _ _ _ _ h.arow, intsV_set], ⟨h.wf.lc, h.wf.lt, by simp [h.wf.la], fun j => getD_set_le _ _ _ _ _ (h.wf.ale j) (Nat.le_refl _)⟩, h.ne⟩
theorem SnAt.drew {S : Sn} {a : Sa} {w : World} (h : SnAt S a w) : SnAt S a w.drew := h.keep fun _ _ => rfl
theorem SnAt.drewN {S : Sn} {a : Sa} {w : World} (n : Nat) (h : SnAt S a w) : SnAt S a (w.drewN n) := h.keep fun _ _ => rfl
theorem SnAt.ccell {S : Sn} {a : Sa} {w : World} (h : SnAt S a w) (i : Nat) (hi : i < S.B.length) : w.cell? ⟨a.gc, i, none⟩ = some (.string (S.C.getD i ⟨#[]⟩)) := by
  obtain ⟨cs, t, fr, hc, hc2⟩ := h.crow
  rw [cell_of_row _ _ _ _ _ _ hc]
  apply hc2
  rw [List.getD_eq_getElem?_getD, List.getElem?_eq_getElem (by rw [h.wf.lc]; exact hi)]; rfl
/-- A frame's cells. -/
def frC (S : Sn) (i : Nat) : List Value := [.int .i64 1, .int .i64 S.ses, .int .i64 S.ep, .int .i64 (i : Int), .int .i64 (S.B.length : Nat), .string (S.C.getD i ⟨#[]⟩)]
def frL (S : Sn) (l : List Nat) : List Value := (l.map (frC S)).flatten
theorem frL_snoc (S : Sn) (l : List Nat) (i : Nat) : frL S (l ++ [i]) = frL S l ++ frC S i := by simp [frL]
theorem frL_length (S : Sn) (l : List Nat) : (frL S l).length = l.length * 6 := by
  induction l with
  | nil => rfl
  | cons i l ih => rw [show frL S (i :: l) = frC S i ++ frL S l by simp [frL], List.length_append, ih, List.length_cons, show (frC S i).length = 6 from rfl]; omega
theorem frL_get (S : Sn) (l : List Nat) : ∀ (j i q : Nat), l[j]? = some i → q < 6 → (frL S l)[j * 6 + q]? = (frC S i)[q]? := by
  induction l with
  | nil => intro j i q h; simp at h
  | cons k l ih =>
    intro j i q h hq
    rw [show frL S (k :: l) = frC S k ++ frL S l by simp [frL]]
    cases j with
    | zero =>
      obtain rfl : k = i := by simpa using h
      rw [List.getElem?_append_left (by show 0 * 6 + q < 6; omega), Nat.zero_mul, Nat.zero_add]
    | succ j =>
      rw [List.getElem?_append_right (by show 6 ≤ (j + 1) * 6 + q; omega), show (j + 1) * 6 + q - (frC S k).length = j * 6 + q by show (j + 1) * 6 + q - 6 = _; omega]
      exact ih j i q (by simpa using h) hq
/-- Frames lie there, in a block of their own from N on. -/
def FrV (S : Sn) (l : List Nat) (v : Value) (N : Nat) (w : World) : Prop := ∃ ad cap, v = .slice ad l.length cap ∧ (l ≠ [] → ∃ gl, ad = some ⟨gl, 0, none⟩ ∧ N ≤ gl ∧ gl < w.heap.size ∧ ∀ (j i q : Nat), l[j]? = some i → q < 6 → w.cell? ⟨gl, j * 6 + q, none⟩ = (frC S i)[q]?)
theorem FrV.of_row {S : Sn} {l : List Nat} {v : Value} {N : Nat} {w : World} (h : w.ownsRow N 31 6 v l.length (frL S l)) : FrV S l v N w := by
  obtain ⟨h1, h2⟩ := h
  rcases h2 with ⟨rfl, h0⟩ | ⟨g, cap, cur, rfl, h3, h4, h5, h6, h7, h8⟩
  · exact ⟨none, 0, by rw [h0], fun hne => absurd (List.length_eq_zero_iff.1 h0) hne⟩
  · refine ⟨_, cap, rfl, fun _ => ⟨g, rfl, h3, (Array.getElem?_eq_some_iff.1 h4).1, fun j i q hj hq => ?_⟩⟩
    have hjl : j < l.length := (List.getElem?_eq_some_iff.1 hj).1
    rw [cell_of_row _ _ _ _ _ _ h4]
    have : (cur.toList.take (l.length * 6))[j * 6 + q]? = (frC S i)[q]? := by rw [h8]; exact frL_get S l j i q hj hq
    rw [List.getElem?_take, if_pos (by omega)] at this
    simpa using this
theorem FrV.mono {S : Sn} {l : List Nat} {v : Value} {N M : Nat} {w : World} (h : FrV S l v N w) (hM : M ≤ N) : FrV S l v M w := by
  obtain ⟨ad, cap, rfl, hx⟩ := h
  exact ⟨ad, cap, rfl, fun hne => by obtain ⟨gl, h1, h2, h3⟩ := hx hne; exact ⟨gl, h1, by omega, h3⟩⟩
theorem FrV.nil (S : Sn) (N : Nat) (w : World) : FrV S [] (.slice none 0 0) N w := ⟨none, 0, rfl, fun h => absurd rfl h⟩
theorem FrV.keep {S : Sn} {l : List Nat} {v : Value} {N : Nat} {w w' : World} (h : FrV S l v N w) (hs : w.heap.size ≤ w'.heap.size) (hk : ∀ k, N ≤ k → k < w.heap.size → w'.heap[k]? = w.heap[k]?) : FrV S l v N w' := by
  obtain ⟨ad, cap, rfl, hx⟩ := h
  refine ⟨ad, cap, rfl, fun hne => ?_⟩
  obtain ⟨gl, rfl, h1, h2, h3⟩ := hx hne
  exact ⟨gl, rfl, h1, by omega, fun j i q hj hq => (World.cell?_of_block (a := ⟨gl, j * 6 + q, none⟩) (hk gl h1 h2)).trans (h3 j i q hj hq)⟩
end Go.Proofs.Ytcmgmdgeimmbeaa
