/- The walks of package sack: Copy, Missing. -/
import Derived.Test.YtpgcdfdfbcmodaaSackRead
namespace Go.Proofs.Ytpgcdfdfbcmodaa
open Go.RowKit
set_option linter.unusedVariables false
set_option linter.unusedSimpArgs false
set_option maxRecDepth 100000 in
set_option maxHeartbeats 2000000 in
theorem Copy_calls (w : World) (g : Nat) (B : List Bool) (h : Mp B g w) :
   Calls Try.prog 53 #[.pointer (some ⟨g, 0, none⟩)] w fun e w' => e = .returned (.pointer (some ⟨w.heap.size, 0, none⟩)) ∧ Mp B w.heap.size w' ∧ Below w.heap.size w w' ∧ w'.heap.size = w.heap.size + 1 := by
  have hR := h.row
  have hb := (Below.refl w.heap.size w).alloc (Nat.le_refl _) (.cells (mapRow B) 97)
  have hm : Mp B w.heap.size (w.alloc (.cells (mapRow B) 97)) := ⟨heap_alloc_new _ _, h.one, h.le⟩
  have hs : (w.alloc (.cells (mapRow B) 97)).heap.size = w.heap.size + 1 := by simp
  have HM := Lib.hid hm; clear hm
  have HB := Lib.hid hb; clear hb
  have HS := Lib.hid hs; clear hs
  have HR := Lib.hid hR; clear hR h
  have hz := heap_alloc_new w (.cells #[.int .i64 0, .int .u64 0, .int .u64 0, .int .u64 0, .int .u64 0] 97)
  have HZ := Lib.hid hz; clear hz
  have hone : ∀ u ∈ (mapRow B).toList, u.oneCell' = true := by simp [mapRow, Value.oneCell']
  have H1 := Lib.hid hone; clear hone
  have hsz : (mapRow B).size = 5 := rfl
  have H5 := Lib.hid hsz; clear hsz
  generalize mapRow B = row at *
  go_enter Try.func53, Try.ntmps53
  go_wp2_with (with_reducible refine wpList_mark (o := ⟨some 8, _, _, _, _, _⟩) ?_)
  refine Marked.intro ?_
  refine wpList_run rfl (exec_load_row _ 97 (.tmp 7) (by rfl) w g _ _ _ (by rfl) _ Try.underlying97 rfl (by rw [H5.out]; kernel_rfl) HR.out) ?_
  go_wp2_with (with_reducible refine wpList_mark (o := ⟨none, .store _ _ _, _, _, _, _⟩) ?_)
  refine Marked.intro ?_
  refine wpList_do rfl (exec_store_row _ 97 (.tmp 3) (.tmp 8) (by rfl) _ w.heap.size 97 row #[.int .i64 0, .int .u64 0, .int .u64 0, .int .u64 0, .int .u64 0] (by rfl) (by rfl) (by rw [H5.out]; kernel_rfl) (by rw [H5.out]; rfl) H1.out HZ.out) ?_
  rw [setRow_alloc]
  go_wp2
  go_ret
  exact ⟨rfl, HM.out, HB.out, HS.out⟩
set_option maxRecDepth 100000 in
set_option maxHeartbeats 2000000 in
theorem Copy_nil (w : World) :
   Calls Try.prog 53 #[.pointer none] w fun e w' => e = .returned (.pointer none) ∧ w = w' := by
  go_enter Try.func53, Try.ntmps53
  go_wp2
  go_ret
  exact ⟨rfl, rfl⟩
theorem info_i64 : (Try.prog.info? 3).map (fun i => (i.zero, i.size, i.bytes)) = some (some (.int .i64 0), 1, 8) := by kernel_rfl
def intsV (l : List Nat) : List Value := l.map fun k : Nat => Value.int .i64 (k : Int)
theorem missB_le (B : List Bool) (a b : Int) (j : Nat) : (missB B a b j).length ≤ j := by
  have := List.length_filter_le (missF B a b) (List.range j)
  rw [List.length_range] at this; exact this
end Go.Proofs.Ytpgcdfdfbcmodaa
