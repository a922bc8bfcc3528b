/- The walks of Link.Send of a lost one, of Arrive and All. -/
import Derived.Test.YthnddkcicpoboaaLinkSend
namespace Go.Proofs.Ythnddkcicpoboaa
open Go.RowKit
set_option linter.unusedVariables false
set_option linter.unusedSimpArgs false
theorem Send_drop (w : World) (l : Nat) (s : ByteArray) (n b : Int) :
   Calls Try.prog 8 #[.pointer (some ⟨l, 0, none⟩), .string s, .agg #[.int .i64 1, .int .i64 n, .int .u32 b]] w fun e w' => e = .returned (.tuple #[]) ∧ Below w.heap.size w w' := by
  go_enter Try.func8, Try.ntmps8
  go_wp2
  go_returns
  exact ⟨rfl, (Below.refl _ _).alloc (Nat.le_refl _) _⟩
/-- A list of texts that is read, in another block than the link's. -/
def Seg (H l : Nat) (w : World) (v : Value) (xs : List ByteArray) : Prop :=
  ∃ ad cap, v = .slice ad xs.length cap ∧ xs.length ≤ cap ∧ (xs ≠ [] → ∃ g o, ad = some ⟨g, o, none⟩ ∧ g ≠ l ∧ g < H ∧ ∀ (j : Nat) x, xs[j]? = some x → w.cell? ⟨g, o + j, none⟩ = some (.string x))
/-- A link that is read. -/
structure LkR (B H l : Nat) (w : World) (v u : Value) (xs ys : List ByteArray) : Prop where
  blk : w.heap[l]? = some (.cells #[v, u] 41 (0, 0))
  hB : B ≤ l
  lH : l < H
  HW : H ≤ w.heap.size
  s1 : Seg H l w v xs
  s2 : Seg H l w u ys
theorem seg_of_own {B l : Nat} {w : World} {v : Value} {xs : List ByteArray} (h : w.ownsRow B 9 1 v xs.length (xs.map .string)) (hn : v.ownBlock ≠ some l) : Seg w.heap.size l w v xs := by
  have hc : ∀ g, v.ownBlock = some g → _ := fun g hg => h.cells (g := g) hg
  have hl := h.lt
  obtain ⟨_, h⟩ := h
  rcases h with ⟨rfl, h⟩ | ⟨g, cap, cur, rfl, h1, h2, h3, _⟩
  · exact ⟨_, _, by rw [h], by omega, fun e => absurd (List.eq_nil_of_length_eq_zero h) e⟩
  · refine ⟨_, cap, rfl, h3, fun _ => ⟨g, 0, rfl, fun e => hn (by rw [← e]; rfl), (hl g rfl).2, fun j x hx => ?_⟩⟩
    have := hc g rfl j (.string x) (by simp [hx])
    rwa [Addr.add_lit] at this
theorem Lk.read {B l : Nat} {w : World} {v u : Value} {xs ys : List ByteArray} (h : Lk B l w v u xs ys) : LkR B w.heap.size l w v u xs ys :=
  ⟨h.blk, h.hB, h.lt, Nat.le_refl _, seg_of_own h.own1 h.n1, seg_of_own h.own2 h.n2⟩
theorem Seg.mono {H l : Nat} {w w' : World} {v : Value} {xs : List ByteArray} (h : Seg H l w v xs) (hb : ∀ k, k < H → k ≠ l → w'.heap[k]? = w.heap[k]?) : Seg H l w' v xs := by
  obtain ⟨ad, cap, e, hc, h⟩ := h
  refine ⟨ad, cap, e, hc, fun hx => ?_⟩
  obtain ⟨g, o, e2, hg, hH, h⟩ := h hx
  refine ⟨g, o, e2, hg, hH, fun j x hj => ?_⟩
  rw [World.cell?_of_block (hb g hH hg)]; exact h j x hj
theorem LkR.lt {B H l : Nat} {w : World} {v u : Value} {xs ys : List ByteArray} (h : LkR B H l w v u xs ys) : l < w.heap.size := Nat.lt_of_lt_of_le h.lH h.HW
theorem LkR.mono {B H l : Nat} {w w' : World} {v u : Value} {xs ys : List ByteArray} (h : LkR B H l w v u xs ys) (hb : Below H w w') : LkR B H l w' v u xs ys :=
  ⟨by rw [hb.block l h.lH]; exact h.blk, h.hB, h.lH, Nat.le_trans h.HW hb.size, h.s1.mono fun k hk _ => hb.block k hk, h.s2.mono fun k hk _ => hb.block k hk⟩
theorem LkR.cells {B H l : Nat} {w : World} {v u : Value} {xs ys : List ByteArray} (h : LkR B H l w v u xs ys) : w.cell? ⟨l, 0, none⟩ = some v ∧ w.cell? ⟨l, 1, none⟩ = some u ∧ w.frozen? ⟨l, 0, none⟩ = false ∧ w.frozen? ⟨l, 1, none⟩ = false :=
  ⟨by rw [cell_of_row w l 0 _ _ _ h.blk]; rfl, by rw [cell_of_row w l 1 _ _ _ h.blk]; rfl, by simp [World.frozen?, h.blk], by simp [World.frozen?, h.blk]⟩
theorem LkR.len {B H l : Nat} {w : World} {v u : Value} {xs ys : List ByteArray} (h : LkR B H l w v u xs ys) (hx : xs.length ≤ 1000000000) (hy : ys.length ≤ 1000000000) :
   Calls Try.prog 11 #[.pointer (some ⟨l, 0, none⟩)] w fun e w' => e = .returned (.int .i64 (((xs.length + ys.length : Nat) : Int))) ∧ ∃ d, w' = w.drewN d := by
  obtain ⟨hb, _, _, _, ⟨a1, c1, rfl, -⟩, ⟨a2, c2, rfl, -⟩⟩ := h
  exact Len_calls w l a1 a2 _ _ c1 c2 _ hb hx hy
/-- Nothing but one block has turned. -/
def OnlyAt (l : Nat) (w w' : World) : Prop := w'.heap.size = w.heap.size ∧ ∀ k, k ≠ l → w'.heap[k]? = w.heap[k]?
theorem below_at {B : Nat} {w : World} {l o : Nat} (hB : B ≤ l) (v : Value) : Below B w (w.setCell ⟨l, o, none⟩ v) := (Below.refl B w).setCell (p := ⟨l, o, none⟩) hB v
set_option maxHeartbeats 1000000 in
theorem Arrive_none (w : World) (B H l : Nat) (v u : Value) (h : LkR B H l w v u [] []) :
   Calls Try.prog 9 #[.pointer (some ⟨l, 0, none⟩)] w fun e w' => e = .returned (.tuple #[.string ⟨#[]⟩, .bool false]) ∧ ∃ d, w' = w.drewN d := by
  have hl := h.len (by simp) (by simp)
  have HL := Lib.hid hl; clear hl
  go_enter Try.func9, Try.ntmps9
  go_wp2_with fail
  refine HL.out.mono ?_
  rintro e w1 ⟨rfl, d, rfl⟩
  go_wp2
  go_ret2
  exact ⟨rfl, _, rfl⟩

theorem LkR.step {B H l : Nat} {w : World} {u : Value} {x : ByteArray} {xs ys : List ByteArray} {g o cap d : Nat} (hB : B ≤ l) (lH : l < H) (HW : H ≤ w.heap.size) (hblk : w.heap[l]? = some (.cells #[.slice (some ⟨g, o, none⟩) (xs.length + 1) cap, u] 41 (0, 0))) (hg : g ≠ l) (hgH : g < H)
    (hc : ∀ (j : Nat) y, (x :: xs)[j]? = some y → w.cell? ⟨g, o + j, none⟩ = some (.string y)) (s2 : Seg H l w u ys) (A : Option Addr) (c : Nat) (hcx : xs.length ≤ c) (hA : xs ≠ [] → A = some ⟨g, o + 1, none⟩) :
    LkR B H l ((w.drewN d).setCell ⟨l, 0, none⟩ (.slice A xs.length c)) (.slice A xs.length c) u xs ys := by
  have ne : ∀ k, k < H → (k ≠ l) → ((w.drewN d).setCell ⟨l, 0, none⟩ (.slice A xs.length c)).heap[k]? = w.heap[k]? := fun k _ hk => heap_setCell_other _ _ _ _ hk
  refine ⟨heap_setCell_fr (w.drewN d) _ 0 _ _ _ _ hblk, hB, lH, by simpa using HW, ?_, s2.mono ne⟩
  refine Seg.mono (w := w) ⟨A, c, rfl, hcx, fun h => ⟨g, o + 1, hA h, hg, hgH, fun j y hj => ?_⟩⟩ ne
  have := hc (j + 1) y (by simpa using hj)
  rwa [show o + 1 + j = o + (j + 1) by omega]
set_option maxHeartbeats 1000000 in
theorem Arrive_one (w : World) (B H l : Nat) (v u : Value) (x : ByteArray) (xs ys : List ByteArray) (h : LkR B H l w v u (x :: xs) ys) (hx : xs.length ≤ 1000000) (hy : ys.length ≤ 1000000) :
   Calls Try.prog 9 #[.pointer (some ⟨l, 0, none⟩)] w fun e w' => e = .returned (.tuple #[.string x, .bool true]) ∧ Below B w w' ∧ OnlyAt l w w' ∧ ∃ v', LkR B H l w' v' u xs ys := by
  have hl := h.len (by simp; omega) (by omega)
  have HL := Lib.hid hl; clear hl
  obtain ⟨k0, k1, f0, f1⟩ := h.cells
  have hlt := h.lt
  have hB := h.hB
  have lH := h.lH
  have HW := h.HW
  have hblk := h.blk
  have s2 := h.s2
  obtain ⟨ad, cap, rfl, hcap, hs⟩ := h.s1
  obtain ⟨g, o, rfl, hg, hgH, hc⟩ := hs (by simp)
  clear h hs
  have hc0 : w.cell? ⟨g, o, none⟩ = some (.string x) := hc 0 x rfl
  have Hc := Lib.hid hc; clear hc
  have Hb := Lib.hid hblk; clear hblk
  have S2 := Lib.hid s2; clear s2
  have hne : ((((x :: xs).length + ys.length : Nat) : Int) == 0) = false := by simp; omega
  have hne2 : ((xs.length : Int) + 1 == 0) = false := by simp; omega
  simp only [List.length_cons] at *
  go_enter Try.func9, Try.ntmps9
  go_wp2_with fail
  refine HL.out.mono ?_
  rintro e w1 ⟨rfl, d, rfl⟩
  go_wp2
  · rename_i h1
    have hx0 : xs = [] := List.eq_nil_of_length_eq_zero (by omega)
    go_ret2
    exact ⟨rfl, (below_drewN (Below.refl _ _) d).setCell hB _, ⟨by simp, fun k hk => heap_setCell_other _ _ _ _ hk⟩, _, LkR.step hB lH HW Hb.out hg hgH Hc.out S2.out _ _ (by omega) (fun e => absurd hx0 e)⟩
  · go_ret2
    exact ⟨rfl, (below_drewN (Below.refl _ _) d).setCell hB _, ⟨by simp, fun k hk => heap_setCell_other _ _ _ _ hk⟩, _, LkR.step hB lH HW Hb.out hg hgH Hc.out S2.out _ _ (by omega) (fun _ => rfl)⟩

theorem LkR.swap {B H l : Nat} {w : World} {v u : Value} {ys : List ByteArray} {d : Nat} (h : LkR B H l w v u [] ys) :
    LkR B H l (((w.drewN d).setCell ⟨l, 0, none⟩ u).setCell ⟨l, 1, none⟩ (.slice none 0 0)) u (.slice none 0 0) ys [] := by
  have ne : ∀ k, k < H → (k ≠ l) → (((w.drewN d).setCell ⟨l, 0, none⟩ u).setCell ⟨l, 1, none⟩ (.slice none 0 0)).heap[k]? = w.heap[k]? := fun k _ hk =>
    (heap_setCell_other _ _ _ _ hk).trans (heap_setCell_other _ _ _ _ hk)
  have h1 : ((w.drewN d).setCell ⟨l, 0, none⟩ u).heap[l]? = some (.cells #[u, u] 41 (0, 0)) := heap_setCell_fr (w.drewN d) _ 0 _ _ _ _ h.blk
  exact ⟨heap_setCell_fr _ _ 1 _ _ _ _ h1, h.hB, h.lH, by simpa using h.HW, h.s2.mono ne, ⟨none, 0, rfl, Nat.le_refl _, fun e => absurd rfl e⟩⟩
set_option maxHeartbeats 1000000 in
theorem Arrive_late (w : World) (B H l : Nat) (v u : Value) (x : ByteArray) (xs : List ByteArray) (h : LkR B H l w v u [] (x :: xs)) (hx : xs.length ≤ 1000000) :
   Calls Try.prog 9 #[.pointer (some ⟨l, 0, none⟩)] w fun e w' => e = .returned (.tuple #[.string x, .bool true]) ∧ Below B w w' ∧ OnlyAt l w w' ∧ ∃ v', LkR B H l w' v' (.slice none 0 0) xs [] := by
  have hl := h.len (by simp) (by simp; omega)
  obtain ⟨k0, k1, f0, f1⟩ := h.cells
  have hlt := h.lt
  have hB := h.hB
  have lH := h.lH
  have HW := h.HW
  have hsw := fun d => h.swap (d := d)
  obtain ⟨ad0, cap0, rfl, -, -⟩ := h.s1
  obtain ⟨adu, capu, rfl, hcap, hs⟩ := h.s2
  obtain ⟨g, o, rfl, hg, hgH, hc⟩ := hs (by simp)
  clear h hs
  have HL := Lib.hid hl; clear hl
  have hne : ((([] : List ByteArray).length + (x :: xs).length : Nat) : Int) = (xs.length : Int) + 1 := by simp
  have hne2 : ((xs.length : Int) + 1 == 0) = false := by simp; omega
  have Hne := Lib.hid hne; clear hne
  have hb2 : ∀ d, Hid (Below B w (((w.drewN d).setCell ⟨l, 0, none⟩ (.slice (some ⟨g, o, none⟩) (xs.length + 1) capu)).setCell ⟨l, 1, none⟩ (.slice none 0 0))) := fun d => Lib.hid (((below_drewN (Below.refl B w) d).setCell (p := ⟨l, 0, none⟩) hB _).setCell (p := ⟨l, 1, none⟩) hB _)
  simp only [List.length_cons, List.length_nil] at k0 k1 hsw hcap
  have q0 : ∀ d, (((w.drewN d).setCell ⟨l, 0, none⟩ (.slice (some ⟨g, o, none⟩) (xs.length + 1) capu)).setCell ⟨l, 1, none⟩ (.slice none 0 0)).cell? ⟨l, 0, none⟩ = some (.slice (some ⟨g, o, none⟩) (xs.length + 1) capu) := fun d => (hsw d).cells.1
  have q1 : ∀ d, (((w.drewN d).setCell ⟨l, 0, none⟩ (.slice (some ⟨g, o, none⟩) (xs.length + 1) capu)).setCell ⟨l, 1, none⟩ (.slice none 0 0)).frozen? ⟨l, 0, none⟩ = false := fun d => (hsw d).cells.2.2.1
  have ne : ∀ d k, k < w.heap.size → (k ≠ l) → (((w.drewN d).setCell ⟨l, 0, none⟩ (.slice (some ⟨g, o, none⟩) (xs.length + 1) capu)).setCell ⟨l, 1, none⟩ (.slice none 0 0)).heap[k]? = w.heap[k]? := fun d k _ hk =>
    (heap_setCell_other _ _ _ _ hk).trans (heap_setCell_other _ _ _ _ hk)
  have hgl : g < w.heap.size := World.block_lt_of_cell? w _ (hc 0 x rfl)
  have hcd : ∀ d (j : Nat) y, (x :: xs)[j]? = some y → (((w.drewN d).setCell ⟨l, 0, none⟩ (.slice (some ⟨g, o, none⟩) (xs.length + 1) capu)).setCell ⟨l, 1, none⟩ (.slice none 0 0)).cell? ⟨g, o + j, none⟩ = some (.string y) := fun d j y hy =>
    (World.cell?_of_block (ne d g hgl hg)).trans (hc j y hy)
  have hc0 := fun d => hcd d 0 x rfl
  simp only [Nat.add_zero] at hc0
  have Hcd := Lib.hid hcd; clear hcd hc
  have Ne := Lib.hid ne; clear ne
  have Hsw := Lib.hid hsw; clear hsw
  go_enter Try.func9, Try.ntmps9
  go_wp2_with fail
  refine HL.out.mono ?_
  rintro e w1 ⟨rfl, d, rfl⟩
  rw [Hne.out]
  by_cases h1 : capu = 1
  · subst h1
    go_wp2
    have hx0 : xs = [] := List.eq_nil_of_length_eq_zero (by omega)
    go_ret2
    subst hx0
    exact ⟨rfl, (hb2 d).out.setCell (p := ⟨l, 0, none⟩) hB _, ⟨by simp, fun k hk => (heap_setCell_other _ _ _ _ hk).trans ((heap_setCell_other _ _ _ _ hk).trans (heap_setCell_other _ _ _ _ hk))⟩, _, LkR.step (xs := []) (d := 0) hB lH (by simpa using HW) (Hsw.out d).blk hg hgH (Hcd.out d) (Hsw.out d).s2 (some ⟨g, o, none⟩) 0 (by simp) (fun e => absurd rfl e)⟩
  · go_wp2
    go_ret2
    exact ⟨rfl, (hb2 d).out.setCell (p := ⟨l, 0, none⟩) hB _, ⟨by simp, fun k hk => (heap_setCell_other _ _ _ _ hk).trans ((heap_setCell_other _ _ _ _ hk).trans (heap_setCell_other _ _ _ _ hk))⟩, _, LkR.step (d := 0) hB lH (by simpa using HW) (Hsw.out d).blk hg hgH (Hcd.out d) (Hsw.out d).s2 _ _ (by omega) (fun _ => rfl)⟩
end Go.Proofs.Ythnddkcicpoboaa
