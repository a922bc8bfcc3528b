/- The walk of Link.Send where nothing is lost. -/
import Derived.Test.YthnddkcicpoboaaLinkSend
import Derived.Deep.RegionLaw
namespace Go.Proofs.Ythnddkcicpoboaa
open Go.RowKit
set_option linter.unusedVariables false
set_option linter.unusedSimpArgs false
/-- What is known behind the append of one text. -/
theorem Send_fin {B l : Nat} {w w2 : World} {v u : Value} {xs ys : List ByteArray} {s : ByteArray} {g cap : Nat} (h : Lk B l w v u xs ys) (hown : w2.ownsRow B 9 1 (.slice (some ⟨g, 0, none⟩) (xs.length + 1) cap) (xs.length + 1) (xs.map Value.string ++ [.string s]))
    (hgrow : (w.alloc (.cells #[.string s] 9)).grownBy w2 v.ownBlock) (hat : v.ownBlock = some g ∨ g = (w.alloc (.cells #[.string s] 9)).heap.size) :
    w2.heap[l]? = w.heap[l]? ∧ Below B w w2 ∧ Lk B l (w2.setCell ⟨l, 0, none⟩ (.slice (some ⟨g, 0, none⟩) (xs.length + 1) cap)) (.slice (some ⟨g, 0, none⟩) (xs.length + 1) cap) u (xs ++ [s]) ys := by
  have hgr : ∀ k, k < w.heap.size → some k ≠ v.ownBlock → w2.heap[k]? = w.heap[k]? := fun k hk hne => by
    rw [hgrow.block k (by simp; omega) hne]
    rw [Below.heap_alloc _ _ _ hk]
  have hB := h.hB
  have hl := h.lt
  refine ⟨hgr l h.lt (Ne.symm h.n1), ((Below.refl B w).alloc (by omega) _).grown hgrow (by simp; omega) (fun k hk => (h.own1.lt k hk).1), h.list hgr (by simpa using hown) (fun k hk => ?_)⟩
  have hk' : g = k := Option.some.inj hk
  rcases hat with h1 | h1
  · exact Or.inl (by rw [h1, hk'])
  · exact Or.inr (by simp at h1; omega)
theorem run_append_nothing {P : Program} (w : World) (t ty e : TypeId) (i : TypeInfo) (z : Value) (ht : P.underlying t = some (.slice e)) (hi : P.info? e = some i) (hz : i.zero = some z)
    (a : Addr) (n c : Nat) (hc : n ≤ c) : (Builtin.append_ #[t, t] ty #[.slice (some a) n c, .slice none 0 0]).run P w = .ok (.slice (some a) n c) w := by
  simp [Builtin.append_, run_underlying ht, sizeOf, typeInfo, zeroValue, hi, hz, Builtin.lenOf, hc, run_firstCells_none, storeCells]
theorem step_append_nothing {P : Program} {ops : Array Oper} {o : Oper} {a : Act} {w : World} {K : Act → World → Prop} {Q : Exit → Act → World → Prop} {E : Prop} (hgd : o.guard = none) (s x : Operand) (t : TypeId)
    (ho : o.op = .call { callee := .builtin .append, args := #[s, x], argTypes := #[t, t] }) (e : TypeId) (i : TypeInfo) (z : Value) (ht : P.underlying t = some (.slice e)) (hi : P.info? e = some i) (hz : i.zero = some z)
    (ad : Addr) (n c : Nat) (hs : a.eval s = .slice (some ad) n c) (hx : a.eval x = .slice none 0 0) (hc : n ≤ c) (h : K (a.put o.dst (.slice (some ad) n c)) w) :
    if Region.wanted o (yielded ops a.tmps) = true then Oper.wp P o a w K Q else E := by
  have hw : Region.wanted o (yielded ops a.tmps) = true := by simp [Region.wanted, hgd]
  rw [if_pos hw]
  have hr := run_append_nothing (P := P) w t o.type e i z ht hi hz ad n c hc
  unfold Oper.wp execOp
  simp only [ho, resolve, invoke, builtin, Sem.run_bind, Sem.run_pure, Result.andThen_ok, List.map_toArray, List.map_cons, List.map_nil, hs, hx, hr]
  exact h
set_option maxHeartbeats 2000000 in
theorem Send_go (w : World) (B l : Nat) (v : Value) (xs : List ByteArray) (s : ByteArray) (n b : Int) (h : Lk B l w v (.slice none 0 0) xs []) (hx : xs.length ≤ 1000) :
   Calls Try.prog 8 #[.pointer (some ⟨l, 0, none⟩), .string s, .agg #[.int .i64 0, .int .i64 n, .int .u32 b]] w fun e w' => e = .returned (.tuple #[]) ∧ Below B w w' ∧ ∃ v', Lk B l w' v' (.slice none 0 0) (xs ++ [s]) [] := by
  obtain ⟨i0, hi0, hz0, hz1, hz2⟩ := info_parts info_str
  obtain ⟨k0, k1, f0, f1⟩ := h.cells
  have hlt := h.lt
  have hBl := h.hB
  have H := Lib.hid h; clear h
  go_enter Try.func8, Try.ntmps8
  have hb0 : Below w.heap.size w (w.alloc (.cells #[.int .i64 0, .int .i64 n, .int .u32 b] 29)).drew := ((Below.refl _ w).alloc (Nat.le_refl _) _).drew
  go_wp2_with fail
  go_region_law (first
    | (refine step_append_lies _ (by rfl) _ _ _ (by rfl) B 9 i0 _ 1 16 Try.underlying33 hi0 hz0 hz1 hz2 rfl (by omega) v xs.length (xs.map .string) (by rfl) (H.out.mono ((bn hb0 hb1).alloc (bn hb0 hb1).size _)).own1 _ 1 1 [.string s] (by rfl) (by rfl) (World.news_of_block (cs := #[.string s]) (t := 9) (fr := (0, 0)) (heap_alloc_new w1 _)) (by simp [Value.oneCell']) (by omega) (by unfold maxLen; omega) (by omega) (by have := (bn hb0 hb1).size; simp; omega) _ rfl ?_
       intro g cap w2 hown hgrow hat hg
       have hfin := Send_fin (H.out.mono (bn hb0 hb1)) hown hgrow hat
       have hbl := hfin.1
       have k0' : w2.cell? ⟨l, 0, none⟩ = some v := (World.cell?_of_block hbl).trans (by rw [(bn hb0 hb1).cell hlt]; exact k0)
       have f0' : w2.frozen? ⟨l, 0, none⟩ = false := (World.frozen?_of_block hbl).trans (by rw [(bn hb0 hb1).frozen hlt]; exact f0))
    | (go_simp; go_at_call 15; refine (Hurt_no _ s 0 n b rfl rfl).mono ?_; rintro e w1 ⟨rfl, hb1⟩; have k0a : w1.cell? ⟨l, 0, none⟩ = some v := (by rw [(bn hb0 hb1).cell hlt]; exact k0); have hlt1 : l < w1.heap.size := Nat.lt_of_lt_of_le hlt (bn hb0 hb1).size))
  all_goals
    clear hbl k0' f0' k0a hlt1 hgrow hat hg hown
    have hbw := ((bn hb0 hb1).mono (show B ≤ w.heap.size by omega)).trans hfin.2.1
    have hL := hfin.2.2
    clear hfin
    obtain ⟨k2, k3, f2, f3⟩ := hL.cells
    have hbw2 := hbw.setCell (p := ⟨l, 0, none⟩) hBl (.slice (some ⟨g, 0, none⟩) (xs.length + 1) cap)
    have HL := Lib.hid hL; clear hL hbw
    generalize (w2.setCell { block := l, off := 0 } (Value.slice (some { block := g, off := 0 }) (xs.length + 1) cap)) = w3 at *
    have hcap : xs.length + 1 ≤ cap := by
      have h1 := HL.out.own1
      rw [List.length_append] at h1
      rcases h1.2 with ⟨h2, -⟩ | ⟨g', cap', cur, h2, -, -, h3, -⟩
      · cases h2
      · cases h2; exact h3
    go_wp2_with fail
    go_region_law (refine step_append_nothing (by rfl) _ _ _ (by rfl) 9 i0 _ Try.underlying33 hi0 hz0 _ _ _ (by rfl) (by rfl) hcap ?_)
    all_goals
      have h4 := HL.out.list (xs' := xs ++ [s]) (v' := .slice (some ⟨g, 0, none⟩) (xs.length + 1) cap) (fun _ _ _ => rfl) HL.out.own1 (fun k hk => Or.inl hk)
      obtain ⟨k4, k5, f4, f5⟩ := h4.cells
      have H5 := Lib.hid (h4.emptied.mono (Below.refl _ _).drew)
      have Hb := Lib.hid ((hbw2.setCell (p := ⟨l, 0, none⟩) hBl (.slice (some ⟨g, 0, none⟩) (xs.length + 1) cap)).setCell (p := ⟨l, 1, none⟩) hBl (.slice none 0 0)).drew
      clear h4 HL
      go_wp2
      go_returns
      exact ⟨rfl, Hb.out, _, H5.out⟩
end Go.Proofs.Ythnddkcicpoboaa
