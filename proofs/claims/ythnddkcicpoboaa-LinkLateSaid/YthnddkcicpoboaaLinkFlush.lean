/- The walk of Link.Send where late ones come behind. -/
import Derived.Test.YthnddkcicpoboaaLinkGo
namespace Go.Proofs.Ythnddkcicpoboaa
open Go.RowKit
set_option linter.unusedVariables false
set_option linter.unusedSimpArgs false
/-- What is known behind the append of the late ones. -/
theorem Flush_fin {B l : Nat} {w w2 : World} {v u : Value} {xs ys : List ByteArray} {s : ByteArray} {g cap : Nat} (h : Lk B l w v u (xs ++ [s]) ys) (hown : w2.ownsRow B 9 1 (.slice (some ⟨g, 0, none⟩) (xs.length + 1 + ys.length) cap) (xs.length + 1 + ys.length) (xs.map Value.string ++ [.string s] ++ ys.map .string))
    (hgrow : w.drew.grownBy w2 v.ownBlock) (hat : v.ownBlock = some g ∨ g = w.drew.heap.size) :
    w2.heap[l]? = w.heap[l]? ∧ Below B w w2 ∧ Lk B l (w2.setCell ⟨l, 0, none⟩ (.slice (some ⟨g, 0, none⟩) (xs.length + 1 + ys.length) cap)) (.slice (some ⟨g, 0, none⟩) (xs.length + 1 + ys.length) cap) u (xs ++ [s] ++ ys) ys := by
  have hgr : ∀ k, k < w.heap.size → some k ≠ v.ownBlock → w2.heap[k]? = w.heap[k]? := fun k hk hne => hgrow.block k hk hne
  have hB := h.hB
  have hl := h.lt
  refine ⟨hgr l h.lt (Ne.symm h.n1), (Below.refl B w).drew.grown hgrow (by show B ≤ w.heap.size; omega) (fun k hk => (h.own1.lt k hk).1), h.list hgr (by rw [show (xs ++ [s] ++ ys).length = xs.length + 1 + ys.length by simp only [List.length_append, List.length_cons, List.length_nil]]; simpa using hown) (fun k hk => ?_)⟩
  have hk' : g = k := Option.some.inj hk
  rcases hat with h1 | h1
  · exact Or.inl (by rw [h1, hk'])
  · exact Or.inr (by rw [← hk', h1]; exact Nat.le_refl _)
set_option maxHeartbeats 2000000 in
theorem Send_flush (w : World) (B l : Nat) (v : Value) (gu cu : Nat) (xs ys : List ByteArray) (s : ByteArray) (n b : Int) (h : Lk B l w v (.slice (some ⟨gu, 0, none⟩) ys.length cu) xs ys) (hx : xs.length ≤ 1000) (hy : ys.length ≤ 1000) (hy0 : 0 < ys.length) :
   Calls Try.prog 8 #[.pointer (some ⟨l, 0, none⟩), .string s, .agg #[.int .i64 0, .int .i64 n, .int .u32 b]] w fun e w' => e = .returned (.tuple #[]) ∧ Below B w w' ∧ ∃ v', Lk B l w' v' (.slice none 0 0) (xs ++ [s] ++ ys) [] := by
  obtain ⟨i0, hi0, hz0, hz1, hz2⟩ := info_parts info_str
  obtain ⟨k0, k1, f0, f1⟩ := h.cells
  have hlt := h.lt
  have hBl := h.hB
  have H := Lib.hid h; clear h
  go_enter Try.func8, Try.ntmps8
  have hb0 : Below w.heap.size w (w.alloc (.cells #[.int .i64 0, .int .i64 n, .int .u32 b] 29)).drew := ((Below.refl _ w).alloc (Nat.le_refl _) _).drew
  go_wp2_with fail
  go_region_law (first
    | (refine step_append_lies _ (by rfl) _ _ _ (by rfl) B 9 i0 _ 1 16 Try.underlying33 hi0 hz0 hz1 hz2 rfl (by omega) v xs.length (xs.map .string) (by rfl) (H.out.mono ((bn hb0 hb1).alloc (bn hb0 hb1).size _)).own1 _ 1 1 [.string s] (by rfl) (by rfl) (World.news_of_block (cs := #[.string s]) (t := 9) (fr := (0, 0)) (heap_alloc_new w1 _)) (by simp [Value.oneCell']) (by omega) (by unfold maxLen; omega) (by omega) (by have := (bn hb0 hb1).size; simp; omega) _ rfl ?_
       intro g cap w2 hown hgrow hat hg
       have hfin := Send_fin (H.out.mono (bn hb0 hb1)) hown hgrow hat
       have hbl := hfin.1
       have k0' : w2.cell? ⟨l, 0, none⟩ = some v := (World.cell?_of_block hbl).trans (by rw [(bn hb0 hb1).cell hlt]; exact k0)
       have f0' : w2.frozen? ⟨l, 0, none⟩ = false := (World.frozen?_of_block hbl).trans (by rw [(bn hb0 hb1).frozen hlt]; exact f0))
    | (go_simp; go_at_call 15; refine (Hurt_no _ s 0 n b rfl rfl).mono ?_; rintro e w1 ⟨rfl, hb1⟩; have k0a : w1.cell? ⟨l, 0, none⟩ = some v := (by rw [(bn hb0 hb1).cell hlt]; exact k0); have hlt1 : l < w1.heap.size := Nat.lt_of_lt_of_le hlt (bn hb0 hb1).size))
  all_goals
    clear hbl k0' f0' k0a hlt1 hgrow hat hg hown
    have hbw := ((bn hb0 hb1).mono (show B ≤ w.heap.size by omega)).trans hfin.2.1
    have hL := hfin.2.2
    clear hfin
    obtain ⟨k2, k3, f2, f3⟩ := hL.cells
    have hbw2 := hbw.setCell (p := ⟨l, 0, none⟩) hBl (.slice (some ⟨g, 0, none⟩) (xs.length + 1) cap)
    have HL := Lib.hid hL; clear hL hbw
    generalize (w2.setCell { block := l, off := 0 } (Value.slice (some { block := g, off := 0 }) (xs.length + 1) cap)) = w3 at *
    have hnews : ∀ (j : Nat) x, (ys.map Value.string)[j]? = some x → w3.drew.cell? ((⟨gu, 0, none⟩ : Addr).add j) = some x := fun j x hx => HL.out.own2.cells (g := gu) rfl j x hx
    have hnews' := Lib.hid hnews; clear hnews
    have hlt3 := HL.out.lt
    go_wp2_with fail
    go_region_law (first
      | (refine step_append_lies _ (by rfl) _ _ _ (by rfl) B 9 i0 _ 1 16 Try.underlying33 hi0 hz0 hz1 hz2 rfl (by omega) (.slice (some ⟨g, 0, none⟩) (xs.length + 1) cap) (xs.length + 1) (xs.map .string ++ [.string s]) (by rfl) (by have := HL.out.own1; simp only [List.length_append, List.length_cons, List.length_nil, List.map_append, List.map_cons, List.map_nil, Nat.zero_add] at this; exact this.drew) _ ys.length cu (ys.map .string) (by rfl) (by simp) hnews'.out (by simp [Value.oneCell']) hy0 (by unfold maxLen; omega) (by omega) (by simp; omega) _ rfl ?_
         intro g2 cap2 w4 hown2 hgrow2 hat2 hg2
         have hfin2 := Flush_fin HL.out hown2 hgrow2 hat2
         have k6 : w4.cell? ⟨l, 0, none⟩ = some (.slice (some ⟨g, 0, none⟩) (xs.length + 1) cap) := (World.cell?_of_block hfin2.1).trans k2
         have k7 : w4.cell? ⟨l, 1, none⟩ = some (.slice (some ⟨gu, 0, none⟩) ys.length cu) := (World.cell?_of_block hfin2.1).trans k3
         have f6 : w4.frozen? ⟨l, 0, none⟩ = false := (World.frozen?_of_block hfin2.1).trans f2))
    all_goals
      obtain ⟨k8, k9, f8, f9⟩ := hfin2.2.2.cells
      have H5 := Lib.hid hfin2.2.2.emptied
      have Hb := Lib.hid (((hbw2.trans hfin2.2.1).setCell (p := ⟨l, 0, none⟩) hBl (.slice (some ⟨g2, 0, none⟩) (xs.length + 1 + ys.length) cap2)).setCell (p := ⟨l, 1, none⟩) hBl (.slice none 0 0))
      clear hfin2 hgrow2 hat2 hown2 HL k6 k7 f6
      go_wp2
      go_returns
      exact ⟨rfl, Hb.out, _, H5.out⟩
end Go.Proofs.Ythnddkcicpoboaa
