/- The walk of varint.Writer.String, as often as it is asked. -/
import Derived.Test.YtpgcdfdfbcmodaaVarWriter
import Derived.Test.YtpgcdfdfbcmodaaQuietAlloc
namespace Go.Proofs.Ytpgcdfdfbcmodaa
open Go.RowKit
attribute [local go_sem] Lib.two Lib.twoUpon_value Lib.twoUpon_skip Lib.twoUpon_enter
set_option linter.unusedVariables false
set_option linter.unusedSimpArgs false
/-- A buffer's cells, whichever of them are frozen. -/
def BufAt (B : Nat) (v : Value) (l : List UInt8) (w : World) : Prop :=
  (v = .slice none 0 0 ∧ l = []) ∨ ∃ g cap cur fr, v = .slice (some ⟨g, 0, none⟩) l.length cap ∧ B ≤ g ∧ w.heap[g]? = some (.cells cur 5 fr) ∧ l.length ≤ cap ∧ cap ≤ maxLen ∧ cur.size = cap ∧ ∀ (j : Nat) x, l[j]? = some x → cur[j]? = some (.int .u8 (x.toNat : Int))
/-- A writer that holds so many bytes, and is read alone from now on. -/
def TxAt (B b : Nat) (v : Value) (l : List UInt8) (w : World) : Prop := B ≤ b ∧ (∃ p fr, w.heap[b]? = some (.cells #[p, v] 84 fr)) ∧ BufAt B v l w ∧ v.ownBlock ≠ some b ∧ B ≤ w.heap.size
theorem WrAt.tx {B b : Nat} {l : List UInt8} {w : World} (h : WrAt B b l w) : ∃ v, TxAt B b v l w := by
  obtain ⟨h1, h2⟩ := h
  obtain ⟨p, hB, v, hbk, hown, hne⟩ : ∃ p, Lib.BuilderAt 84 5 B b p (Lib.byteCells l) w := by
    rcases h1 with h | h
    · exact ⟨_, h⟩
    · exact ⟨_, h⟩
  refine ⟨v, hB, ⟨p, _, hbk⟩, ?_, hne, h2⟩
  rw [Lib.byteCells_length] at hown
  rcases hown.2 with ⟨rfl, h0⟩ | ⟨g, cap, cur, rfl, hbg, hg, hnc, hcm, hcs, htake⟩
  · exact Or.inl ⟨rfl, List.length_eq_zero_iff.1 h0⟩
  · refine Or.inr ⟨g, cap, cur, _, rfl, hbg, hg, hnc, hcm, by omega, fun j x hx => ?_⟩
    have hj : j < l.length := (List.getElem?_eq_some_iff.1 hx).1
    have : (cur.toList.take (l.length * 1))[j]? = some (.int .u8 (x.toNat : Int)) := by rw [htake]; simp [Lib.byteCells, hx]
    rw [List.getElem?_take, if_pos (by omega)] at this
    simpa using this
theorem heap_freeze (w : World) (p : Addr) (n k : Nat) : (k ≠ p.block → (w.freeze p n).heap[k]? = w.heap[k]?) ∧ (∀ cur t fr, w.heap[k]? = some (.cells cur t fr) → ∃ fr', (w.freeze p n).heap[k]? = some (.cells cur t fr')) ∧ (w.freeze p n).heap.size = w.heap.size := by
  unfold World.freeze
  split
  · exact ⟨fun _ => rfl, fun cur t fr h => ⟨fr, h⟩, rfl⟩
  · refine ⟨fun hk => by simp only [Array.getElem?_modify]; rw [if_neg (Ne.symm hk)], fun cur t fr h => ?_, by simp⟩
    simp only [Array.getElem?_modify]
    by_cases hk : p.block = k
    · rw [if_pos hk, h]; exact ⟨_, rfl⟩
    · rw [if_neg hk]; exact ⟨fr, h⟩
set_option maxHeartbeats 2000000 in
set_option maxRecDepth 100000 in
theorem BText_some (B b g cap : Nat) (p : Value) (cur : Array Value) (fr fr2 : Nat × Nat) (l : List UInt8) (w : World) (hl : l ≠ []) (hbk : w.heap[b]? = some (.cells #[p, .slice (some ⟨g, 0, none⟩) l.length cap] 84 fr2))
    (hg : w.heap[g]? = some (.cells cur 5 fr)) (hnc : l.length ≤ cap) (hcm : cap ≤ maxLen) (hcs : cur.size = cap) (hc : ∀ (j : Nat) x, l[j]? = some x → cur[j]? = some (.int .u8 (x.toNat : Int))) :
    Calls Try.prog 67 #[.pointer (some ⟨b, 0, none⟩)] w fun e w' => e = .returned (.string ⟨l.toArray⟩) ∧ w' = w.drew.freeze ⟨g, 0, none⟩ l.length := by
  have hl0 : l.length ≠ 0 := by simpa using hl
  have c1 : w.drew.cell? ⟨b, 1, none⟩ = some (.slice (some ⟨g, 0, none⟩) l.length cap) := by
    have : w.drew.heap[b]? = some (.cells #[p, .slice (some ⟨g, 0, none⟩) l.length cap] 84 fr2) := hbk
    rw [cell_of_row _ _ _ _ _ _ this]; rfl
  have hSD : (Builtin.unsafeSliceData_ #[62] 108 #[.slice (some ⟨g, 0, none⟩) l.length cap]).run Try.prog w.drew = .ok (.pointer (some ⟨g, 0, none⟩)) w.drew :=
    Lib.run_unsafeSliceData_row _ _ _ _ _ _ (by omega)
  have hUS : (Builtin.unsafeString_ #[108, 3] 9 #[.pointer (some ⟨g, 0, none⟩), .int .i64 l.length]).run Try.prog w.drew = .ok (.string ⟨l.toArray⟩) (w.drew.freeze ⟨g, 0, none⟩ l.length) := by
    have hg' : w.drew.heap[g]? = some (.cells cur 5 fr) := hg
    refine Lib.run_unsafeString_row w.drew 108 3 9 5 Try.underlying108 (by kernel_rfl) g cur.size (by simp [World.shape?, hg']) l hl (by omega) (by unfold maxLen at hcm; omega) ?_
    intro j x hx
    rw [Addr.add_lit, Nat.zero_add, cell_of_row _ _ _ _ _ _ hg']
    exact hc j x hx
  go_enter Try.func67, Try.ntmps67
  go_wp2_with fail
  go_still_tail 10, (by kernel_rfl)
  go_wp2
  go_ret
  exact ⟨rfl, rfl⟩
set_option maxHeartbeats 2000000 in
set_option maxRecDepth 100000 in
theorem BText_nil (b : Nat) (p : Value) (fr2 : Nat × Nat) (w : World) (hbk : w.heap[b]? = some (.cells #[p, .slice none 0 0] 84 fr2)) :
    Calls Try.prog 67 #[.pointer (some ⟨b, 0, none⟩)] w fun e w' => e = .returned (.string ⟨#[]⟩) ∧ w' = w.drew := by
  have hUS : ∀ q, (Builtin.unsafeString_ #[108, 3] 9 #[.pointer q, .int .i64 0]).run Try.prog w.drew = .ok (.string .empty) w.drew := fun q => Lib.run_unsafeString_none _ _ _ _ q
  have c1 : w.drew.cell? ⟨b, 1, none⟩ = some (.slice none 0 0) := by
    have : w.drew.heap[b]? = some (.cells #[p, .slice none 0 0] 84 fr2) := hbk
    rw [cell_of_row _ _ _ _ _ _ this]; rfl
  have hSD : (Builtin.unsafeSliceData_ #[62] 108 #[.slice none 0 0]).run Try.prog w.drew = .ok (.pointer none) w.drew := rfl
  go_enter Try.func67, Try.ntmps67
  go_wp2_with fail
  go_still_tail 10, (by kernel_rfl)
  go_wp2
  go_ret
  exact ⟨rfl, rfl⟩
set_option maxHeartbeats 2000000 in
set_option maxRecDepth 100000 in
theorem BText_room (b g cap : Nat) (p : Value) (fr2 : Nat × Nat) (w : World) (hc0 : cap ≠ 0) (hbk : w.heap[b]? = some (.cells #[p, .slice (some ⟨g, 0, none⟩) 0 cap] 84 fr2)) :
    Calls Try.prog 67 #[.pointer (some ⟨b, 0, none⟩)] w fun e w' => e = .returned (.string ⟨#[]⟩) ∧ w' = w.drew := by
  have hUS : ∀ q, (Builtin.unsafeString_ #[108, 3] 9 #[.pointer q, .int .i64 0]).run Try.prog w.drew = .ok (.string .empty) w.drew := fun q => Lib.run_unsafeString_none _ _ _ _ q
  have c1 : w.drew.cell? ⟨b, 1, none⟩ = some (.slice (some ⟨g, 0, none⟩) 0 cap) := by
    have : w.drew.heap[b]? = some (.cells #[p, .slice (some ⟨g, 0, none⟩) 0 cap] 84 fr2) := hbk
    rw [cell_of_row _ _ _ _ _ _ this]; rfl
  have hSD : (Builtin.unsafeSliceData_ #[62] 108 #[.slice (some ⟨g, 0, none⟩) 0 cap]).run Try.prog w.drew = .ok (.pointer (some ⟨g, 0, none⟩)) w.drew :=
    Lib.run_unsafeSliceData_row _ _ _ _ _ _ hc0
  clear hc0
  go_enter Try.func67, Try.ntmps67
  go_wp2_with fail
  go_still_tail 10, (by kernel_rfl)
  go_wp2
  go_ret
  exact ⟨rfl, rfl⟩
set_option maxHeartbeats 2000000 in
set_option maxRecDepth 100000 in
theorem BText_noroom (b g : Nat) (p : Value) (cur : Array Value) (fr fr2 : Nat × Nat) (w : World) (hbk : w.heap[b]? = some (.cells #[p, .slice (some ⟨g, 0, none⟩) 0 0] 84 fr2)) (hg : w.heap[g]? = some (.cells cur 5 fr)) :
    Calls Try.prog 67 #[.pointer (some ⟨b, 0, none⟩)] w fun e w' => e = .returned (.string ⟨#[]⟩) ∧ w' = w.drew.alloc (.view ⟨g, 0, none⟩ 5) := by
  have hlt : b < w.heap.size := (Array.getElem?_eq_some_iff.1 hbk).1
  have hUS : ∀ w q, (Builtin.unsafeString_ #[108, 3] 9 #[.pointer q, .int .i64 0]).run Try.prog w = .ok (.string .empty) w := fun w q => Lib.run_unsafeString_none _ _ _ _ q
  have c1 : w.drew.cell? ⟨b, 1, none⟩ = some (.slice (some ⟨g, 0, none⟩) 0 0) := by
    have : w.drew.heap[b]? = some (.cells #[p, .slice (some ⟨g, 0, none⟩) 0 0] 84 fr2) := hbk
    rw [cell_of_row _ _ _ _ _ _ this]; rfl
  have hSD : (Builtin.unsafeSliceData_ #[62] 108 #[.slice (some ⟨g, 0, none⟩) 0 0]).run Try.prog w.drew = .ok (.pointer (some ⟨w.drew.heap.size, 0, none⟩)) (w.drew.alloc (.view ⟨g, 0, none⟩ 5)) :=
    Lib.run_unsafeSliceData_zero w.drew _ _ 5 Try.underlying108 ⟨g, 0, none⟩ 0 (5, cur.size) (by have hg' : w.drew.heap[g]? = some (.cells cur 5 fr) := hg; simp [World.shape?, hg'])
  have c2 : (w.drew.alloc (.view ⟨g, 0, none⟩ 5)).cell? ⟨b, 1, none⟩ = some (.slice (some ⟨g, 0, none⟩) 0 0) := by
    have : (w.drew.alloc (.view ⟨g, 0, none⟩ 5)).heap[b]? = some (.cells #[p, .slice (some ⟨g, 0, none⟩) 0 0] 84 fr2) := (Below.heap_alloc w.drew _ b hlt).trans hbk
    rw [cell_of_row _ _ _ _ _ _ this]; rfl
  go_enter Try.func67, Try.ntmps67
  go_wp2_with fail
  generalize hW1 : w.drew.alloc (.view ⟨g, 0, none⟩ 5) = W1 at *
  generalize hW0 : w.drew = W0 at *
  refine Lib.wp_region_make_tail 4 10 W1 (by kernel_rfl) (by omega) (by kernel_rfl) ?_
  rw [hW0]
  have HW0 := Lib.hid hW0; clear hW0
  simp only [List.take_succ_cons, List.take_zero, List.drop_succ_cons, List.drop_zero]
  refine Lib.wpYL_step (by decide) (fun K hK => ?_); go_simp; refine hK _ ?_; clear hK K
  refine Lib.wpYL_step (by decide) (fun K hK => ?_); go_simp; refine hK _ ?_; clear hK K
  refine Lib.wpYL_step (by decide) (fun K hK => ?_); go_simp; refine hK _ ?_; clear hK K
  refine Lib.wpYL_step (by decide) (fun K hK => ?_); go_simp; refine hK _ ?_; clear hK K
  refine Lib.wpYL_make (v := .pointer (some ⟨W0.heap.size, 0, none⟩)) rfl rfl (by go_simp) ?_
  refine Lib.wpYL_step (by decide) (fun K hK => ?_); go_simp; refine hK _ ?_; clear hK K
  refine Lib.wpYL_step (by decide) (fun K hK => ?_); go_simp; refine hK _ ?_; clear hK K
  refine Lib.wpYL_step (by decide) (fun K hK => ?_); go_simp; refine hK _ ?_; clear hK K
  refine Lib.wpYL_step (by decide) (fun K hK => ?_); go_simp; refine hK _ ?_; clear hK K
  refine Lib.wpYL_step (by decide) (fun K hK => ?_); go_simp; refine hK _ ?_; clear hK K
  refine Lib.wpYL_nil ?_
  go_wp2
  go_ret
  exact ⟨rfl, by rw [← hW1, ← HW0.out]⟩
/-- The builder's text, as often as it is asked. -/
theorem BText_calls (B b : Nat) (v : Value) (l : List UInt8) (w : World) (h : TxAt B b v l w) :
    Calls Try.prog 67 #[.pointer (some ⟨b, 0, none⟩)] w fun e w' => e = .returned (.string ⟨l.toArray⟩) ∧ TxAt B b v l w' ∧ Below B w w' ∧ w.heap.size ≤ w'.heap.size ∧ ∀ k, k < w.heap.size → v.ownBlock ≠ some k → w'.heap[k]? = w.heap[k]? := by
  obtain ⟨hB, ⟨p, fr2, hbk⟩, hbuf, hne, hBw⟩ := h
  rcases hbuf with ⟨rfl, rfl⟩ | ⟨g, cap, cur, fr, rfl, hbg, hg, hnc, hcm, hcs, hc⟩
  · refine (BText_nil b p fr2 w hbk).mono ?_
    rintro e w' ⟨rfl, rfl⟩
    exact ⟨rfl, ⟨hB, ⟨p, fr2, hbk⟩, Or.inl ⟨rfl, rfl⟩, hne, hBw⟩, (Below.refl B w).drew, Nat.le_refl _, fun _ _ _ => rfl⟩
  · by_cases hl : l = []
    · subst hl
      by_cases hc0 : cap = 0
      · subst hc0
        refine (BText_noroom b g p cur fr fr2 w hbk hg).mono ?_
        rintro e w' ⟨rfl, rfl⟩
        have hlb : b < w.heap.size := (Array.getElem?_eq_some_iff.1 hbk).1
        have hlg : g < w.heap.size := (Array.getElem?_eq_some_iff.1 hg).1
        exact ⟨rfl, ⟨hB, ⟨p, fr2, (Below.heap_alloc w.drew _ b hlb).trans hbk⟩, Or.inr ⟨g, 0, cur, fr, rfl, hbg, (Below.heap_alloc w.drew _ g hlg).trans hg, hnc, hcm, hcs, hc⟩, hne, by simp; omega⟩, (Below.refl B w).drew.alloc hBw _, by simp, fun k hk _ => Below.heap_alloc w.drew _ k hk⟩
      · refine (BText_room b g cap p fr2 w hc0 hbk).mono ?_
        rintro e w' ⟨rfl, rfl⟩
        exact ⟨rfl, ⟨hB, ⟨p, fr2, hbk⟩, Or.inr ⟨g, cap, cur, fr, rfl, hbg, hg, hnc, hcm, hcs, hc⟩, hne, hBw⟩, (Below.refl B w).drew, Nat.le_refl _, fun _ _ _ => rfl⟩
    · refine (BText_some B b g cap p cur fr fr2 l w hl hbk hg hnc hcm hcs hc).mono ?_
      rintro e w' ⟨rfl, rfl⟩
      have hgb : b ≠ g := fun e => hne (by subst e; rfl)
      obtain ⟨fr', hg'⟩ := (heap_freeze w.drew ⟨g, 0, none⟩ l.length g).2.1 cur _ fr hg
      have hs := (heap_freeze w.drew ⟨g, 0, none⟩ l.length g).2.2
      refine ⟨rfl, ⟨hB, ⟨p, fr2, ((heap_freeze w.drew ⟨g, 0, none⟩ l.length b).1 hgb).trans hbk⟩, Or.inr ⟨g, cap, cur, fr', rfl, hbg, hg', hnc, hcm, hcs, hc⟩, hne, by rw [hs]; exact hBw⟩, Lib.below_freeze (Below.refl B w).drew (p := ⟨g, 0, none⟩) hbg _, Nat.le_of_eq hs.symm, fun k _ hk => ?_⟩
      exact (heap_freeze w.drew ⟨g, 0, none⟩ l.length k).1 (fun e => hk (by subst e; rfl))
set_option maxHeartbeats 2000000 in
set_option maxRecDepth 100000 in
theorem WString_calls (B b : Nat) (v : Value) (l : List UInt8) (w : World) (h : TxAt B b v l w) :
    Calls Try.prog 45 #[.pointer (some ⟨b, 0, none⟩)] w fun e w' => e = .returned (.string ⟨l.toArray⟩) ∧ TxAt B b v l w' ∧ Below B w w' ∧ w.heap.size ≤ w'.heap.size ∧ ∀ k, k < w.heap.size → v.ownBlock ≠ some k → w'.heap[k]? = w.heap[k]? := by
  have ht := BText_calls B b v l w h
  have HT := Lib.hid ht; clear ht h
  go_enter Try.func45, Try.ntmps45
  go_wp2_with fail
  refine HT.out.mono ?_
  rintro e w1 ⟨rfl, h1, h2, h3, h4⟩
  go_wp2
  go_ret
  exact ⟨rfl, h1, h2, h3, h4⟩
end Go.Proofs.Ytpgcdfdfbcmodaa
