/- The walk of Link.Send where it comes twice. -/
import Derived.Test.YthnddkcicpoboaaLinkFlush
namespace Go.Proofs.Ythnddkcicpoboaa
open Go.RowKit
set_option linter.unusedVariables false
set_option linter.unusedSimpArgs false
set_option maxHeartbeats 2000000 in
theorem Send_twice (w : World) (B l : Nat) (v : Value) (xs : List ByteArray) (s : ByteArray) (n b : Int) (h : Lk B l w v (.slice none 0 0) xs []) (hx : xs.length ≤ 1000) :
   Calls Try.prog 8 #[.pointer (some ⟨l, 0, none⟩), .string s, .agg #[.int .i64 2, .int .i64 n, .int .u32 b]] w fun e w' => e = .returned (.tuple #[]) ∧ Below B w w' ∧ ∃ v', Lk B l w' v' (.slice none 0 0) (xs ++ [s] ++ [s]) [] := by
  obtain ⟨i0, hi0, hz0, hz1, hz2⟩ := info_parts info_str
  obtain ⟨k0, k1, f0, f1⟩ := h.cells
  have hlt := h.lt
  have hBl := h.hB
  have H := Lib.hid h; clear h
  go_enter Try.func8, Try.ntmps8
  have hbA := ((Below.refl w.heap.size w).alloc (Nat.le_refl _) (.cells #[.int .i64 2, .int .i64 n, .int .u32 b] 29))
  have hfA := heap_alloc_new w (.cells #[.int .i64 2, .int .i64 n, .int .u32 b] 29)
  have hsA : (w.alloc (.cells #[.int .i64 2, .int .i64 n, .int .u32 b] 29)).heap.size = w.heap.size + 1 := by simp
  have HsA := Lib.hid hsA; clear hsA
  go_wp2_with (with_reducible refine wpList_mark (o := ⟨some 30, _, _, _, _, _⟩) ?_)
  refine Marked.intro ?_
  have HA := Lib.hid (H.out.mono hbA)
  obtain ⟨k0', k1', f0', f1'⟩ := HA.out.cells
  generalize w.alloc (.cells #[.int .i64 2, .int .i64 n, .int .u32 b] 29) = wA at *
  have hltA := HA.out.lt
  go_wp2_with (with_reducible refine wpList_mark (o := ⟨some 33, _, _, _, _, _⟩) ?_)
  refine Marked.intro ?_
  refine wpList_append_lies _ rfl _ _ _ rfl B 9 i0 _ 1 16 Try.underlying33 hi0 hz0 hz1 hz2 rfl (by omega) v xs.length (xs.map .string) (by rfl) (HA.out.own1.alloc _) ⟨wA.heap.size, 0, none⟩ 1 1 [.string s] (by rfl) (by rfl)
    (World.news_of_block (cs := #[.string s]) (t := 9) (fr := (0, 0)) (heap_alloc_new wA _)) (by simp [Value.oneCell']) (by omega) (by unfold maxLen; omega) (by omega) (by simp; omega) _ rfl ?_
  intro g0 cap0 wB hown hgrow hat hg
  have hfin := Send_fin HA.out hown hgrow hat
  have hbl := hfin.1
  have k0'' : wB.cell? ⟨l, 0, none⟩ = some v := (World.cell?_of_block hbl).trans k0'
  have f0'' : wB.frozen? ⟨l, 0, none⟩ = false := (World.frozen?_of_block hbl).trans f0'
  go_wp2_with fail
  have HC := hfin.2.2
  have hbC := ((hbA.mono (show B ≤ w.heap.size by omega)).trans hfin.2.1).setCell (p := ⟨l, 0, none⟩) hBl (.slice (some ⟨g0, 0, none⟩) (xs.length + 1) cap0)
  have hfC : (wB.setCell ⟨l, 0, none⟩ (.slice (some ⟨g0, 0, none⟩) (xs.length + 1) cap0)).heap[w.heap.size]? = some (.cells #[.int .i64 2, .int .i64 n, .int .u32 b] 29 (0, 0)) := by
    have hsz := HsA.out
    rw [heap_setCell_other _ _ _ _ (show w.heap.size ≠ l by omega), hgrow.block w.heap.size (by simp; omega) (fun e => by have := (H.out.own1.lt _ e.symm).2; omega), Below.heap_alloc _ _ _ (by omega)]
    exact hfA
  have hXl : (xs ++ [s]).length ≤ 1001 := by simp; omega
  clear hfin hbl k0'' f0'' hgrow hat hown hbA hfA k0' k1' f0' f1' hltA hg
  generalize wB.setCell ⟨l, 0, none⟩ (.slice (some ⟨g0, 0, none⟩) (xs.length + 1) cap0) = wC at *
  generalize Value.slice (some ⟨g0, 0, none⟩) (xs.length + 1) cap0 = vC at *
  generalize hX : xs ++ [s] = X at *
  have HX := Lib.hid hX; clear hX
  have hltC := HC.lt
  have cF0 : wC.cell? ⟨w.heap.size, 0, none⟩ = some (.int .i64 2) := by rw [cell_of_row _ _ 0 _ _ _ hfC]; rfl
  have cF1 : wC.cell? ⟨w.heap.size, 1, none⟩ = some (.int .i64 n) := by rw [cell_of_row _ _ 1 _ _ _ hfC]; rfl
  have cF2 : wC.cell? ⟨w.heap.size, 2, none⟩ = some (.int .u32 b) := by rw [cell_of_row _ _ 2 _ _ _ hfC]; rfl
  obtain ⟨kC0, kC1, fC0, fC1⟩ := HC.cells
  have HC := Lib.hid HC
  have hb0 : Below wC.heap.size wC wC.drew := (Below.refl _ wC).drew
  clear hfC
  go_region_law (first
    | (refine step_append_lies _ (by rfl) _ _ _ (by rfl) B 9 i0 _ 1 16 Try.underlying33 hi0 hz0 hz1 hz2 rfl (by omega) vC X.length (X.map .string) (by rfl) (HC.out.mono ((bn hb0 hb1).alloc (bn hb0 hb1).size _)).own1 _ 1 1 [.string s] (by rfl) (by rfl) (World.news_of_block (cs := #[.string s]) (t := 9) (fr := (0, 0)) (heap_alloc_new w1 _)) (by simp [Value.oneCell']) (by omega) (by unfold maxLen; omega) (by omega) (by have := (bn hb0 hb1).size; simp; omega) _ rfl ?_
       intro g cap w2 hown hgrow hat hg
       have hfin := Send_fin (HC.out.mono (bn hb0 hb1)) hown hgrow hat
       have hbl := hfin.1
       have kC0' : w2.cell? ⟨l, 0, none⟩ = some vC := (World.cell?_of_block hbl).trans (by rw [(bn hb0 hb1).cell hltC]; exact kC0)
       have f0' : w2.frozen? ⟨l, 0, none⟩ = false := (World.frozen?_of_block hbl).trans (by rw [(bn hb0 hb1).frozen hltC]; exact fC0))
    | (go_simp; go_at_call 15; refine (Hurt_no _ s 2 n b rfl rfl).mono ?_; rintro e w1 ⟨rfl, hb1⟩; have k0a : w1.cell? ⟨l, 0, none⟩ = some vC := (by rw [(bn hb0 hb1).cell hltC]; exact kC0); have hlt1 : l < w1.heap.size := Nat.lt_of_lt_of_le hltC (bn hb0 hb1).size))
  all_goals
    clear hbl kC0' f0' k0a hlt1 hgrow hat hg hown
    have hbw := (hbC.trans ((bn hb0 hb1).mono (show B ≤ wC.heap.size by omega))).trans hfin.2.1
    have hL := hfin.2.2
    clear hfin
    obtain ⟨k2, k3, f2, f3⟩ := hL.cells
    have hbw2 := hbw.setCell (p := ⟨l, 0, none⟩) hBl (.slice (some ⟨g, 0, none⟩) (X.length + 1) cap)
    have HL := Lib.hid hL; clear hL hbw
    generalize (w2.setCell { block := l, off := 0 } (Value.slice (some { block := g, off := 0 }) (X.length + 1) cap)) = w3 at *
    have hcap : X.length + 1 ≤ cap := by
      have h1 := HL.out.own1
      rw [List.length_append] at h1
      rcases h1.2 with ⟨h2, -⟩ | ⟨g', cap', cur, h2, -, -, h3, -⟩
      · cases h2
      · cases h2; exact h3
    go_wp2_with fail
    go_region_law (refine step_append_nothing (by rfl) _ _ _ (by rfl) 9 i0 _ Try.underlying33 hi0 hz0 _ _ _ (by rfl) (by rfl) hcap ?_)
    all_goals
      have h4 := HL.out.list (xs' := X ++ [s]) (v' := .slice (some ⟨g, 0, none⟩) (X.length + 1) cap) (fun _ _ _ => rfl) HL.out.own1 (fun k hk => Or.inl hk)
      obtain ⟨k4, k5, f4, f5⟩ := h4.cells
      have H5 := Lib.hid (h4.emptied.mono (Below.refl _ _).drew)
      have Hb := Lib.hid ((hbw2.setCell (p := ⟨l, 0, none⟩) hBl (.slice (some ⟨g, 0, none⟩) (X.length + 1) cap)).setCell (p := ⟨l, 1, none⟩) hBl (.slice none 0 0)).drew
      clear h4 HL
      go_wp2
      go_returns
      exact ⟨rfl, Hb.out, .slice (some ⟨g, 0, none⟩) (X.length + 1) cap, by rw [HX.out]; exact H5.out⟩
end Go.Proofs.Ythnddkcicpoboaa
