/- Plain laws on a tick that sends. -/
import Derived.Test.YtcmgmdgeimmbeaaSenFacts
namespace Go.Proofs.Ytcmgmdgeimmbeaa
set_option linter.unusedVariables false
set_option linter.unusedSimpArgs false
theorem tick_sent (S : Sn) (hw : S.wf) (h : S.tick.2.1 = 0) : (∀ i ∈ S.tick.1, S.tick.2.2.T.getD i 0 ≤ 8) ∧ baseB S.B < S.B.length ∧ S.tick.2.2.T.getD (baseB S.B) 0 ≠ 0 := by
  unfold Sn.tick at h ⊢
  split at h
  · simp at h
  · next hf =>
    split at h
    · simp at h
    · next hl =>
      split at h
      · simp at h
      · next hany =>
        rw [if_neg hf, if_neg hl, if_neg hany]
        have hb : baseB S.B < S.B.length := by
          have h1 := baseB_le S.B
          have h2 : baseB S.B ≠ S.B.length := by intro e; apply hf; unfold Sn.full; rw [e]; simp
          omega
        have hT : S.step.T.length = S.B.length := hw.lt
        have hA : S.step.A.length = S.B.length := hw.la
        rw [Bool.not_eq_true, List.any_eq_false] at hany
        refine ⟨fun i hi => ?_, hb, ?_⟩
        · have hlt : i < S.B.length := S.step.due_lt i hi
          show (S.step.sentL S.step.due).T.getD i 0 ≤ 8
          rw [(Sn.sentL_in S.step.due i S.step S.step.due_nodup hi (by omega) (by omega)).1]
          have := hany i hi
          unfold Sn.tried at this
          have h8 : ¬ 8 ≤ S.step.T.getD i 0 := by simpa using this
          omega
        · show (S.step.sentL S.step.due).T.getD (baseB S.B) 0 ≠ 0
          by_cases hm : baseB S.B ∈ S.step.due
          · rw [(Sn.sentL_in S.step.due _ S.step S.step.due_nodup hm (by omega) (by omega)).1]; omega
          · rw [(Sn.sentL_T S.step.due _ S.step hm).1]
            intro e0
            apply hm
            rw [Sn.mem_due]
            refine ⟨⟨hb, Nat.le_refl _, by show baseB S.B < baseB S.B + 8; omega, baseB_at S.B⟩, ?_⟩
            unfold Sn.hold
            rw [e0]; rfl
theorem tick_full15 (S : Sn) (h : S.tick.2.1 = 15) : S.tick.1 = [] ∧ S.tick.2.2.full = true := by
  unfold Sn.tick at h ⊢
  split at h
  · next hf => rw [if_pos hf]; exact ⟨rfl, hf⟩
  · split at h
    · simp at h
    · split at h <;> simp at h
theorem tick_lost16 (S : Sn) (h : S.tick.2.1 = 16) : S.tick.1 = [] ∧ S.tick.2.2.lost = true := by
  unfold Sn.tick at h ⊢
  split at h
  · simp at h
  · next hf =>
    split at h
    · next hl => rw [if_neg hf, if_pos hl]; exact ⟨rfl, hl⟩
    · next hl =>
      split at h
      · next ha => rw [if_neg hf, if_neg hl, if_pos ha]; exact ⟨rfl, rfl⟩
      · simp at h
end Go.Proofs.Ytcmgmdgeimmbeaa
