/- Plain laws on what a tick, and an ack, leave. -/
import Derived.Test.YtcmgmdgeimmbeaaSenLose
namespace Go.Proofs.Ytcmgmdgeimmbeaa
set_option linter.unusedVariables false
set_option linter.unusedSimpArgs false
theorem ack_facts (S : Sn) (k s e i t : Int) (d : ByteArray) : (S.ack k s e i t d).2.B.length = S.B.length ∧ (S.ack k s e i t d).2.now = S.now ∧ (∀ j, S.B.getD j false = true → (S.ack k s e i t d).2.B.getD j false = true) ∧ ((S.ack k s e i t d).1 ≠ 0 → (S.ack k s e i t d).2 = S) ∧ (S.ack k s e i t d).2.C = S.C ∧ (S.ack k s e i t d).2.T = S.T ∧ (S.ack k s e i t d).2.A = S.A ∧ (S.ack k s e i t d).2.lost = S.lost ∧ (S.ack k s e i t d).2.ses = S.ses ∧ (S.ack k s e i t d).2.ep = S.ep := by
  have triv : S.B.length = S.B.length ∧ S.now = S.now ∧ (∀ j, S.B.getD j false = true → S.B.getD j false = true) := ⟨rfl, rfl, fun _ h => h⟩
  unfold Sn.ack
  split
  · exact ⟨rfl, rfl, fun _ h => h, fun _ => rfl, rfl, rfl, rfl, rfl, rfl, rfl⟩
  · split
    · exact ⟨rfl, rfl, fun _ h => h, fun _ => rfl, rfl, rfl, rfl, rfl, rfl, rfl⟩
    · split
      · exact ⟨rfl, rfl, fun _ h => h, fun _ => rfl, rfl, rfl, rfl, rfl, rfl, rfl⟩
      · split
        · exact ⟨rfl, rfl, fun _ h => h, fun _ => rfl, rfl, rfl, rfl, rfl, rfl, rfl⟩
        · refine ⟨withB_length _ _ _, rfl, fun j hj => ?_, fun h => absurd rfl h, rfl, rfl, rfl, rfl, rfl, rfl⟩
          show (withB S.B _ S.B.length).getD j false = true
          rw [withB_get _ _ _ _ (getD_lt hj), hj]; rfl
theorem tick_facts (S : Sn) : (∀ i ∈ S.tick.1, i < S.B.length ∧ baseB S.B ≤ i ∧ i < baseB S.B + 8 ∧ S.B.getD i false = false) ∧ S.tick.2.2.B = S.B ∧ S.tick.2.2.now ≤ S.now + 1 ∧ S.tick.2.2.C = S.C ∧ S.tick.2.2.ses = S.ses ∧ S.tick.2.2.ep = S.ep ∧ (S.tick.2.1 = 0 ∨ S.tick.2.1 = 15 ∨ S.tick.2.1 = 16) := by
  unfold Sn.tick
  split
  · exact ⟨by simp, rfl, by simp, rfl, rfl, rfl, Or.inr (Or.inl rfl)⟩
  · split
    · exact ⟨by simp, rfl, by simp, rfl, rfl, rfl, Or.inr (Or.inr rfl)⟩
    · split
      · exact ⟨by simp, rfl, Nat.le_refl _, rfl, rfl, rfl, Or.inr (Or.inr rfl)⟩
      · obtain ⟨e1, e2, e3, e4, e5, e6, e7, e8⟩ := Sn.sentL_same S.step.due S.step
        refine ⟨fun i hi => ((Sn.mem_due S.step i).1 hi).1, e4, by rw [e5]; exact Nat.le_refl _, e3, e1, e2, Or.inl rfl⟩
theorem due_len (S : Sn) : S.due.length ≤ S.B.length := by
  unfold Sn.due
  have h1 := List.length_filter_le (fun i => !S.hold i) (missB S.B (baseB S.B : Nat) ((baseB S.B : Nat) + 8) S.B.length)
  have h2 := missB_le S.B (baseB S.B : Nat) ((baseB S.B : Nat) + 8) S.B.length
  omega
theorem tick_len (S : Sn) : S.tick.1.length ≤ S.B.length := by
  unfold Sn.tick
  split
  · simp
  · split
    · simp
    · split
      · simp
      · exact due_len S.step
end Go.Proofs.Ytcmgmdgeimmbeaa
