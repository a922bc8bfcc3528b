/- The walk of the law ReceiverNil: it answers true. -/
import Derived.Test.YtpgcdfdfbcmodaaRecAwake
namespace Go.Proofs.Ytpgcdfdfbcmodaa
open Go.RowKit
set_option linter.unusedVariables false
set_option linter.unusedSimpArgs false
set_option maxRecDepth 100000 in
set_option maxHeartbeats 8000000 in
theorem ReceiverNil_walk (f : Fr) (w : World) :
    Calls Try.prog 6 #[f.val] w fun e w' => e = .returned (.bool true) ∧ Below w.heap.size w w' := by
  have htk := fun w => Take_nil w f
  obtain ⟨k, s, e, i, t, d⟩ := f
  unfold Fr.val at *
  have hb := (Below.refl w.heap.size w).alloc (Nat.le_refl _) (.cells #[.int .i64 k, .int .i64 s, .int .i64 e, .int .i64 i, .int .i64 t, .string d] 32)
  have hR := heap_alloc_new w (.cells #[.int .i64 k, .int .i64 s, .int .i64 e, .int .i64 i, .int .i64 t, .string d] 32)
  have HB := Lib.hid hb; have HR := Lib.hid hR; have HT := Lib.hid htk
  clear hb hR htk
  go_enter Try.func6, Try.ntmps6
  go_wp2_with fail
  refine (Data_nil _).mono ?_
  generalize w.alloc (.cells #[.int .i64 k, .int .i64 s, .int .i64 e, .int .i64 i, .int .i64 t, .string d] 32) = w1 at *
  rintro x w2 ⟨rfl, rfl⟩
  go_wp2_with fail
  refine (awake_calls _).mono ?_
  rintro x w2 ⟨rfl, hb2⟩
  have hR2 := (hb2.block w.heap.size (Array.getElem?_eq_some_iff.1 HR.out).1).trans HR.out
  have HB2 := Lib.hid (bn HB.out hb2)
  have q0 : w2.cell? ⟨w.heap.size, 0, none⟩ = some (.int .i64 k) := by rw [cell_of_row _ _ 0 _ _ _ hR2]; rfl
  have q1 : w2.cell? ⟨w.heap.size, 1, none⟩ = some (.int .i64 s) := by rw [cell_of_row _ _ 1 _ _ _ hR2]; rfl
  have q2 : w2.cell? ⟨w.heap.size, 2, none⟩ = some (.int .i64 e) := by rw [cell_of_row _ _ 2 _ _ _ hR2]; rfl
  have q3 : w2.cell? ⟨w.heap.size, 3, none⟩ = some (.int .i64 i) := by rw [cell_of_row _ _ 3 _ _ _ hR2]; rfl
  have q4 : w2.cell? ⟨w.heap.size, 4, none⟩ = some (.int .i64 t) := by rw [cell_of_row _ _ 4 _ _ _ hR2]; rfl
  have q5 : w2.cell? ⟨w.heap.size, 5, none⟩ = some (.string d) := by rw [cell_of_row _ _ 5 _ _ _ hR2]; rfl
  clear hb2 hR2 HB HR
  go_wp2_with fail
  refine (HT.out _).mono ?_
  rintro x w3 ⟨rfl, hb3⟩
  have HB3 := Lib.hid (bn HB2.out hb3)
  clear hb3 q0 q1 q2 q3 q4 q5 HB2
  go_wp2_with fail
  refine (Ack_nil _).mono ?_
  rintro x w4 ⟨rfl, hb4⟩
  have HB4 := Lib.hid (bn HB3.out hb4)
  clear hb4 HB3
  go_wp2_with fail
  refine (Done_nil _).mono ?_
  rintro x w5 ⟨rfl, rfl⟩
  go_wp2_with fail
  refine (There_nil _).mono ?_
  rintro x w5 ⟨rfl, rfl⟩
  go_wp2_with fail
  refine (Drops_nil _ 1).mono ?_
  rintro x w5 ⟨rfl, rfl⟩
  go_wp2_with fail
  refine (Cursor_nil _).mono ?_
  rintro x w5 ⟨rfl, rfl⟩
  go_wp2
  go_ret
  exact ⟨rfl, HB4.out⟩
end Go.Proofs.Ytpgcdfdfbcmodaa
