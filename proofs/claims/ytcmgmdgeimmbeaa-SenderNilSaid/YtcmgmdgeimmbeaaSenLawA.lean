/- The walk of the law SenderNil: it answers true. -/
import Derived.Test.YtcmgmdgeimmbeaaSenAwake
import Derived.Test.YtcmgmdgeimmbeaaFrameWalk
namespace Go.Proofs.Ytcmgmdgeimmbeaa
open Go.RowKit
set_option linter.unusedVariables false
set_option linter.unusedSimpArgs false
set_option maxRecDepth 100000 in
set_option maxHeartbeats 8000000 in
theorem SenderNil_walk (f : Fr) (w : World) :
    Calls Try.prog 7 #[f.val] w fun e w' => e = .returned (.bool true) ∧ Below w.heap.size w w' := by
  obtain ⟨k, s, e, i, t, d⟩ := f
  unfold Fr.val
  have hb := (Below.refl w.heap.size w).alloc (Nat.le_refl _) (.cells #[.int .i64 k, .int .i64 s, .int .i64 e, .int .i64 i, .int .i64 t, .string d] 31)
  have hR := heap_alloc_new w (.cells #[.int .i64 k, .int .i64 s, .int .i64 e, .int .i64 i, .int .i64 t, .string d] 31)
  have hsz : (w.alloc (.cells #[.int .i64 k, .int .i64 s, .int .i64 e, .int .i64 i, .int .i64 t, .string d] 31)).heap.size = w.heap.size + 1 := by simp
  have HB := Lib.hid hb; have HR := Lib.hid hR; have HZ := Lib.hid hsz
  clear hb hR hsz
  go_enter Try.func7, Try.ntmps7
  go_wp2_with fail
  refine (Tick_nil _).mono ?_
  rintro x w1 ⟨rfl, hb1⟩
  have hR1 := (hb1.block w.heap.size (by rw [HZ.out]; omega)).trans HR.out
  have hc1 := bn HB.out hb1
  have hlt := (Array.getElem?_eq_some_iff.1 hR1).1
  clear hb1
  have HR1 := Lib.hid hR1; clear hR1
  go_wp2_with fail
  refine (awake_calls _).mono ?_
  rintro x w2 ⟨rfl, hb2⟩
  have hR2 := (hb2.block w.heap.size hlt).trans HR1.out
  have hc2 := bn hc1 hb2
  have q0 : w2.cell? ⟨w.heap.size, 0, none⟩ = some (.int .i64 k) := by rw [cell_of_row _ _ 0 _ _ _ hR2]; rfl
  have q1 : w2.cell? ⟨w.heap.size, 1, none⟩ = some (.int .i64 s) := by rw [cell_of_row _ _ 1 _ _ _ hR2]; rfl
  have q2 : w2.cell? ⟨w.heap.size, 2, none⟩ = some (.int .i64 e) := by rw [cell_of_row _ _ 2 _ _ _ hR2]; rfl
  have q3 : w2.cell? ⟨w.heap.size, 3, none⟩ = some (.int .i64 i) := by rw [cell_of_row _ _ 3 _ _ _ hR2]; rfl
  have q4 : w2.cell? ⟨w.heap.size, 4, none⟩ = some (.int .i64 t) := by rw [cell_of_row _ _ 4 _ _ _ hR2]; rfl
  have q5 : w2.cell? ⟨w.heap.size, 5, none⟩ = some (.string d) := by rw [cell_of_row _ _ 5 _ _ _ hR2]; rfl
  clear hb2 hR2
  go_wp2_with fail
  refine (Ack_nil _ k s e i t d).mono ?_
  rintro x w3 ⟨rfl, hb3⟩
  have hc3 := bn hc2 hb3
  clear hb3 q0 q1 q2 q3 q4 q5
  go_wp2_with fail
  refine (Done_nil _).mono ?_
  rintro x w4 ⟨rfl, rfl⟩
  go_wp2_with fail
  refine (Err_nil _).mono ?_
  rintro x w4 ⟨rfl, rfl⟩
  go_wp2_with fail
  refine (There_nil _).mono ?_
  rintro x w4 ⟨rfl, rfl⟩
  go_wp2_with fail
  refine (Tries_nil _ 0).mono ?_
  rintro x w4 ⟨rfl, rfl⟩
  go_wp2
  go_ret
  exact ⟨rfl, hc3⟩
end Go.Proofs.Ytcmgmdgeimmbeaa
