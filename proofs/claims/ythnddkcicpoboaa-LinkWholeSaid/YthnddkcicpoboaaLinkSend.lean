/- The walk of Link.Send, on a link whose rows are the call's own. -/
import Derived.Test.YthnddkcicpoboaaLinkWalk
namespace Go.Proofs.Ythnddkcicpoboaa
open Go.RowKit
set_option linter.unusedVariables false
set_option linter.unusedSimpArgs false
theorem info_str : (Try.prog.info? 9).map (fun i => (i.zero, i.size, i.bytes)) = some (some (.string ⟨#[]⟩), 1, 16) := by kernel_rfl
theorem ownsRow_carry {w w' : World} {B : Nat} {e : TypeId} {sz : Nat} {v : Value} {n : Nat} {xs : List Value} (h : w.ownsRow B e sz v n xs) (hk : ∀ k, v.ownBlock = some k → w'.heap[k]? = w.heap[k]?) : w'.ownsRow B e sz v n xs := by
  obtain ⟨h1, h2⟩ := h
  refine ⟨h1, ?_⟩
  rcases h2 with h2 | ⟨g, cap, cur, rfl, h3, h4, h5⟩
  · exact Or.inl h2
  · exact Or.inr ⟨g, cap, cur, rfl, h3, by rw [hk g rfl]; exact h4, h5⟩
/-- A link of the call's own: what is on the way, what is late. -/
structure Lk (B l : Nat) (w : World) (v u : Value) (xs ys : List ByteArray) : Prop where
  blk : w.heap[l]? = some (.cells #[v, u] 41 (0, 0))
  hB : B ≤ l
  own1 : w.ownsRow B 9 1 v xs.length (xs.map .string)
  own2 : w.ownsRow B 9 1 u ys.length (ys.map .string)
  n1 : v.ownBlock ≠ some l
  n2 : u.ownBlock ≠ some l
  n3 : ∀ k, v.ownBlock = some k → u.ownBlock ≠ some k
theorem Lk.lt {B l : Nat} {w : World} {v u : Value} {xs ys : List ByteArray} (h : Lk B l w v u xs ys) : l < w.heap.size := by
  rcases Nat.lt_or_ge l w.heap.size with h1 | h1
  · exact h1
  · have := h.blk; rw [Array.getElem?_eq_none h1] at this; cases this
theorem Lk.mono {B l : Nat} {w w' : World} {v u : Value} {xs ys : List ByteArray} (h : Lk B l w v u xs ys) (hb : Below w.heap.size w w') : Lk B l w' v u xs ys :=
  ⟨by rw [hb.block l h.lt]; exact h.blk, h.hB, ownsRow_carry h.own1 fun k hk => hb.block k (h.own1.lt k hk).2, ownsRow_carry h.own2 fun k hk => hb.block k (h.own2.lt k hk).2, h.n1, h.n2, h.n3⟩
theorem Lk.new (w : World) (B : Nat) (hB : B ≤ w.heap.size) : Lk B w.heap.size (w.alloc (.cells #[.slice none 0 0, .slice none 0 0] 41)) (.slice none 0 0) (.slice none 0 0) [] [] :=
  ⟨heap_alloc_new _ _, hB, ⟨rfl, Or.inl ⟨rfl, rfl⟩⟩, ⟨rfl, Or.inl ⟨rfl, rfl⟩⟩, by simp [Value.ownBlock], by simp [Value.ownBlock], by simp [Value.ownBlock]⟩
/-- A new late row is laid. -/
theorem Lk.late {B l : Nat} {w w1 : World} {v u u' : Value} {xs ys ys' : List ByteArray} (h : Lk B l w v u xs ys) (hg : ∀ k, k < w.heap.size → some k ≠ u.ownBlock → w1.heap[k]? = w.heap[k]?)
    (hown : w1.ownsRow B 9 1 u' ys'.length (ys'.map .string)) (hat : ∀ k, u'.ownBlock = some k → u.ownBlock = some k ∨ w.heap.size ≤ k) : Lk B l (w1.setCell ⟨l, 1, none⟩ u') v u' xs ys' := by
  have hl : w1.heap[l]? = some (.cells #[v, u] 41 (0, 0)) := by rw [hg l h.lt (Ne.symm h.n2)]; exact h.blk
  have ne : ∀ k, (k ≠ l) → (w1.setCell ⟨l, 1, none⟩ u').heap[k]? = w1.heap[k]? := fun k hk => heap_setCell_other _ _ _ _ hk
  have n2' : u'.ownBlock ≠ some l := fun e => by
    rcases hat l e with h1 | h1
    · exact h.n2 h1
    · have := h.lt; omega
  refine ⟨heap_setCell_fr _ _ 1 _ _ _ _ hl, h.hB, ownsRow_carry h.own1 fun k hk => ?_, ownsRow_carry hown fun k hk => ne k (fun e => n2' (e ▸ hk)), h.n1, n2', fun k hk hk2 => ?_⟩
  · rw [ne k (fun e => h.n1 (e ▸ hk)), hg k (h.own1.lt k hk).2 (fun e => h.n3 k hk e.symm)]
  · rcases hat k hk2 with h1 | h1
    · exact h.n3 k hk h1
    · have := (h.own1.lt k hk).2; omega
/-- A new row on the way is laid. -/
theorem Lk.list {B l : Nat} {w w1 : World} {v u v' : Value} {xs xs' ys : List ByteArray} (h : Lk B l w v u xs ys) (hg : ∀ k, k < w.heap.size → some k ≠ v.ownBlock → w1.heap[k]? = w.heap[k]?)
    (hown : w1.ownsRow B 9 1 v' xs'.length (xs'.map .string)) (hat : ∀ k, v'.ownBlock = some k → v.ownBlock = some k ∨ w.heap.size ≤ k) : Lk B l (w1.setCell ⟨l, 0, none⟩ v') v' u xs' ys := by
  have hl : w1.heap[l]? = some (.cells #[v, u] 41 (0, 0)) := by rw [hg l h.lt (Ne.symm h.n1)]; exact h.blk
  have ne : ∀ k, (k ≠ l) → (w1.setCell ⟨l, 0, none⟩ v').heap[k]? = w1.heap[k]? := fun k hk => heap_setCell_other _ _ _ _ hk
  have n1' : v'.ownBlock ≠ some l := fun e => by
    rcases hat l e with h1 | h1
    · exact h.n1 h1
    · have := h.lt; omega
  refine ⟨heap_setCell_fr _ _ 0 _ _ _ _ hl, h.hB, ownsRow_carry hown fun k hk => ne k (fun e => n1' (e ▸ hk)), ownsRow_carry h.own2 fun k hk => ?_, n1', h.n2, fun k hk hk2 => ?_⟩
  · rw [ne k (fun e => h.n2 (e ▸ hk)), hg k (h.own2.lt k hk).2 (fun e => h.n3 k e.symm hk)]
  · rcases hat k hk with h1 | h1
    · exact h.n3 k h1 hk2
    · have := (h.own2.lt k hk2).2; omega
/-- The late ones are none any more. -/
theorem Lk.emptied {B l : Nat} {w : World} {v u : Value} {xs ys : List ByteArray} (h : Lk B l w v u xs ys) : Lk B l (w.setCell ⟨l, 1, none⟩ (.slice none 0 0)) v (.slice none 0 0) xs [] :=
  h.late (fun _ _ _ => rfl) ⟨rfl, Or.inl ⟨rfl, rfl⟩⟩ (fun k hk => by simp [Value.ownBlock] at hk)
theorem Lk.cells {B l : Nat} {w : World} {v u : Value} {xs ys : List ByteArray} (h : Lk B l w v u xs ys) : w.cell? ⟨l, 0, none⟩ = some v ∧ w.cell? ⟨l, 1, none⟩ = some u ∧ w.frozen? ⟨l, 0, none⟩ = false ∧ w.frozen? ⟨l, 1, none⟩ = false :=
  ⟨by rw [cell_of_row w l 0 _ _ _ h.blk]; rfl, by rw [cell_of_row w l 1 _ _ _ h.blk]; rfl, by simp [World.frozen?, h.blk], by simp [World.frozen?, h.blk]⟩
set_option maxHeartbeats 1000000 in
theorem Send_late (w : World) (B l : Nat) (v u : Value) (xs ys : List ByteArray) (s : ByteArray) (n b : Int) (h : Lk B l w v u xs ys) (hn : ys.length ≤ 1000) :
   Calls Try.prog 8 #[.pointer (some ⟨l, 0, none⟩), .string s, .agg #[.int .i64 3, .int .i64 n, .int .u32 b]] w fun e w' => e = .returned (.tuple #[]) ∧ Below B w w' ∧ ∃ u', Lk B l w' v u' xs (ys ++ [s]) := by
  obtain ⟨i0, hi0, hz0, hz1, hz2⟩ := info_parts info_str
  obtain ⟨k0, k1, f0, f1⟩ := h.cells
  have hlt := h.lt
  have hBl := h.hB
  have H := Lib.hid h; clear h
  go_enter Try.func8, Try.ntmps8
  go_wp2_with (with_reducible refine wpList_mark (o := ⟨some 23, _, _, _, _, _⟩) ?_)
  refine Marked.intro ?_
  refine wpList_append_lies _ rfl _ _ _ rfl B 9 i0 _ 1 16 Try.underlying33 hi0 hz0 hz1 hz2 rfl (by omega) u ys.length (ys.map .string) (by rfl) ((H.out.own2.alloc _).alloc _) ⟨w.heap.size + 1, 0, none⟩ 1 1 [.string s] (by rfl) (by rfl)
    (World.news_of_block (cs := #[.string s]) (t := 9) (fr := (0, 0)) (by simpa using heap_alloc_new (w.alloc _) _)) (by simp [Value.oneCell']) (by omega) (by unfold maxLen; omega) (by omega) (by simp; omega) (w.heap.size + 2) (by simp) ?_
  intro g cap w1 hown hgrow hat hg
  have hgr : ∀ k, k < w.heap.size → some k ≠ u.ownBlock → w1.heap[k]? = w.heap[k]? := fun k hk hne => by
    rw [hgrow.block k (by simp; omega) hne]
    rw [Below.heap_alloc _ _ _ (by simp; omega), Below.heap_alloc _ _ _ hk]
  have hbl : w1.heap[l]? = w.heap[l]? := hgr l hlt (Ne.symm H.out.n2)
  have k1' : w1.cell? ⟨l, 1, none⟩ = some u := (World.cell?_of_block hbl).trans k1
  have f1' : w1.frozen? ⟨l, 1, none⟩ = false := (World.frozen?_of_block hbl).trans f1
  have hbw := (((Below.refl B w).alloc (by omega) (.cells #[.int .i64 3, .int .i64 n, .int .u32 b] 29)).alloc (by simp; omega) (.cells #[.string s] 9)).grown hgrow (by simp; omega) (fun k hk => (H.out.own2.lt k hk).1)
  have HL := H.out.late (ys' := ys ++ [s]) hgr (by simpa using hown) (fun k hk => by
    have hk' : g = k := Option.some.inj hk
    rcases hat with h1 | h1
    · exact Or.inl (by rw [h1, hk'])
    · exact Or.inr (by omega))
  have HL' := Lib.hid HL; clear HL
  have Hbw := Lib.hid hbw; clear hbw
  clear hgr hgrow hat hown hbl
  go_wp2
  go_returns
  exact ⟨rfl, Hbw.out.setCell hBl _, _, HL'.out⟩
end Go.Proofs.Ythnddkcicpoboaa
