/- The walk of the law SackPlays. (Printed by wip/print/sackplays.py.) -/
import Derived.Test.YtnblpbaflcgkkaaRefSack2
import Derived.Test.YtnblpbaflcgkkaaOpenSops
import Derived.Test.YtnblpbaflcgkkaaQuietTwo
import Derived.Deep.CutBlock
import Derived.Deep.CutRange
namespace Go.Proofs.Ytnblpbaflcgkkaa
open Go.RowKit Go.Sort
set_option linter.unusedVariables false
set_option linter.unusedSimpArgs false
theorem full_count (B : List Bool) : decide (baseB B = B.length) = decide (B.count true = B.length) := by
  rw [decide_eq_decide]
  constructor
  · intro h
    exact (all_true B (fun i hi => baseB_below B i (by omega))).2
  · intro h
    refine (all_true B (fun i hi => ?_)).1
    rw [List.count_eq_length] at h
    have := h B[i] (List.getElem_mem hi)
    rw [List.getD_eq_getElem?_getD, List.getElem?_eq_getElem hi]
    exact this.symm
theorem So_cells {w : World} {b : Nat} {x : Int × Int × Int × ByteArray} (h : w.heap[b]? = some (.cells #[.int .i64 x.1, .int .i64 x.2.1, .int .i64 x.2.2.1, .string x.2.2.2] 30 (0, 0))) :
    w.cell? ⟨b, 0, none⟩ = some (.int .i64 x.1) ∧ w.cell? ⟨b, 1, none⟩ = some (.int .i64 x.2.1) ∧ w.cell? ⟨b, 2, none⟩ = some (.int .i64 x.2.2.1) ∧ w.cell? ⟨b, 3, none⟩ = some (.string x.2.2.2) := by
  refine ⟨?_, ?_, ?_, ?_⟩ <;> rw [cell_of_row _ _ _ _ _ _ h] <;> rfl
theorem set_has (B : List Bool) (p : Nat) (h : B.getD p false = true) : B.set p true = B := by
  refine list_ext_getD _ _ (by simp) (fun i hi => ?_)
  rw [getD_set _ _ _ _ (getD_lt h)]
  split
  · rename_i e; subst e; exact h.symm
  · rfl
theorem row_of_made (n : Nat) (w : World) : BRow (List.replicate n false) w.heap.size n (w.alloc (.cells (List.replicate n (Value.bool false)).toArray 4)) :=
  ⟨_, heap_alloc_new w _, by simp, by simp, fun j b hj => by
    rw [List.getElem?_replicate] at hj
    split at hj
    · cases hj
      rename_i h
      simp [List.getElem?_replicate, h]
    · cases hj⟩
theorem Mp.keep {B : List Bool} {g : Nat} {w w' : World} (h : Mp B g w) (hk : w'.heap[g]? = w.heap[g]?) : Mp B g w' := ⟨hk.trans h.row, h.one, h.le⟩
set_option maxRecDepth 100000 in
set_option maxHeartbeats 16000000 in
theorem SackPlays_short (a0 : Int) (v1 : Value) (xs : List (Int × Int × Int × ByteArray)) (w : World) (w0 : (Lit.int .i64 a0).wf = true) (w1 : Sos w v1 xs) (hsh : 200 < (xs.length : Int) ∨ 256 < a0 ∨ a0 < 1) :
    Calls Try.prog 3 #[.int .i64 a0, v1] w fun e w' => e = .returned (.bool true) ∧ Below w.heap.size w w' := by
  obtain ⟨c0, c1⟩ := bounds_i64 w0
  obtain ⟨ad1, cap1, rfl, hxs⟩ := w1
  clear hxs
  by_cases h200 : 200 < (xs.length : Int)
  · have d1 : decide (200 < (xs.length : Int)) = true := decide_eq_true h200
    go_enter Try.func3, Try.ntmps3
    go_wp2_with fail
    refine (awake_calls _).mono ?_
    rintro e wA ⟨rfl, hb1⟩
    have HB1 := Lib.hid hb1; clear hb1
    go_wp2_with fail
    refine (awake_calls _).mono ?_
    rintro e wB ⟨rfl, hb2⟩
    have HB2 := Lib.hid (bn HB1.out hb2); clear hb2
    go_wp2
    go_ret
    exact ⟨rfl, HB2.out⟩

  · have d1 : decide (200 < (xs.length : Int)) = false := decide_eq_false h200
    by_cases h256 : 256 < a0
    · have d2 : decide (256 < a0) = true := decide_eq_true h256
      go_enter Try.func3, Try.ntmps3
      go_wp2_with fail
      refine (awake_calls _).mono ?_
      rintro e wA ⟨rfl, hb1⟩
      have HB1 := Lib.hid hb1; clear hb1
      go_wp2_with fail
      refine (awake_calls _).mono ?_
      rintro e wB ⟨rfl, hb2⟩
      have HB2 := Lib.hid (bn HB1.out hb2); clear hb2
      go_wp2
      go_ret
      exact ⟨rfl, HB2.out⟩

    · have d2 : decide (256 < a0) = false := decide_eq_false h256
      have h1 : a0 < 1 := by rcases hsh with h | h | h <;> omega
      have d3 : decide (a0 < 1) = true := decide_eq_true h1
      go_enter Try.func3, Try.ntmps3
      go_wp2_with fail
      refine (awake_calls _).mono ?_
      rintro e wA ⟨rfl, hb1⟩
      have HB1 := Lib.hid hb1; clear hb1
      go_wp2_with fail
      refine (New_bad _ _ (.inl h1)).mono ?_
      rintro e wB ⟨rfl, rfl⟩
      go_wp2
      go_ret
      exact ⟨rfl, HB1.out⟩

end Go.Proofs.Ytnblpbaflcgkkaa
