/- Plain laws on a sender that hears nothing. -/
import Derived.Test.YtcmgmdgeimmbeaaSenRounds
namespace Go.Proofs.Ytcmgmdgeimmbeaa
set_option linter.unusedVariables false
set_option linter.unusedSimpArgs false
/-- Nothing told, behind so many ticks. -/
structure Lose (N i : Nat) (S : Sn) : Prop where
  lost : S.lost = false
  now : S.now = i
  wf : S.wf
  bl : S.B.length = N
  b : ∀ k, S.B.getD k false = false
  t : ∀ k, k < min 8 N → S.T.getD k 0 = (i + 3) / 4
  a : ∀ k, k < min 8 N → 0 < i → S.A.getD k 0 + 3 = 4 * ((i + 3) / 4)
theorem Lose.base {N i : Nat} {S : Sn} (h : Lose N i S) : baseB S.B = 0 := baseB_unique S.B 0 (fun k hk => absurd hk (Nat.not_lt_zero _)) (h.b 0)
theorem Lose.hold {N i : Nat} {S : Sn} (h : Lose N i S) (k : Nat) (hk : k < min 8 N) : S.step.hold k = !decide (i % 4 = 0) := by
  unfold Sn.hold
  rw [show S.step.T = S.T from rfl, show S.step.A = S.A from rfl, show S.step.now = S.now + 1 from rfl, h.now, h.t k hk]
  by_cases h0 : i = 0
  · subst h0; simp
  · have ha := h.a k hk (by omega)
    by_cases hm : i % 4 = 0
    · have : ¬ (i + 1 < S.A.getD k 0 + 4) := by omega
      rw [decide_eq_false this]; simp [hm]
    · have h1 : i + 1 < S.A.getD k 0 + 4 := by omega
      have h2 : 0 < (i + 3) / 4 := by omega
      rw [decide_eq_true h1, decide_eq_true h2]; simp [hm]
theorem Lose.mem {N i : Nat} {S : Sn} (h : Lose N i S) (k : Nat) : k ∈ S.step.due ↔ k < min 8 N ∧ i % 4 = 0 := by
  rw [Sn.mem_due, show S.step.B = S.B from rfl, h.base, h.bl, h.b k]
  constructor
  · rintro ⟨⟨h1, -, h3, -⟩, h4⟩
    have hk : k < min 8 N := by omega
    rw [h.hold k hk] at h4
    exact ⟨hk, by simpa using h4⟩
  · rintro ⟨h1, h2⟩
    exact ⟨⟨by omega, by omega, by omega, rfl⟩, by rw [h.hold k h1]; simp [h2]⟩
theorem Lose.full {N i : Nat} {S : Sn} (h : Lose N i S) (hN : 1 ≤ N) : S.full = false := by
  unfold Sn.full; rw [h.base, h.bl]; simp; omega
theorem Lose.tick {N i : Nat} {S : Sn} (h : Lose N i S) (hN : 1 ≤ N) (hi : i < 32) : S.tick = (S.step.due, 0, S.step.sentL S.step.due) ∧ Lose N (i + 1) (S.step.sentL S.step.due) := by
  obtain ⟨e1, e2, e3, e4, e5, e6, e7, e8⟩ := Sn.sentL_same S.step.due S.step
  refine ⟨?_, ⟨e6.trans h.lost, by rw [e5]; show S.now + 1 = _; rw [h.now], Sn.wf.sentL (S := S.step) _ h.wf.step, by rw [e4]; exact h.bl, fun k => by rw [e4]; exact h.b k, fun k hk => ?_, fun k hk h0 => ?_⟩⟩
  · unfold Sn.tick
    rw [if_neg (by rw [h.full hN]; simp), if_neg (by rw [h.lost]; simp), if_neg]
    rw [Bool.not_eq_true, List.any_eq_false]
    intro k hk
    obtain ⟨h1, h2⟩ := (h.mem k).1 hk
    unfold Sn.tried
    rw [show S.step.T = S.T from rfl, h.t k h1]
    simp; omega
  · have hT : k < S.step.T.length := by rw [show S.step.T = S.T from rfl, h.wf.lt, h.bl]; omega
    have hA : k < S.step.A.length := by rw [show S.step.A = S.A from rfl, h.wf.la, h.bl]; omega
    by_cases hm : i % 4 = 0
    · rw [(Sn.sentL_in _ k S.step S.step.due_nodup ((h.mem k).2 ⟨hk, hm⟩) hT hA).1, show S.step.T = S.T from rfl, h.t k hk]; omega
    · rw [(Sn.sentL_T _ k S.step (fun hh => hm ((h.mem k).1 hh).2)).1, show S.step.T = S.T from rfl, h.t k hk]; omega
  · have hT : k < S.step.T.length := by rw [show S.step.T = S.T from rfl, h.wf.lt, h.bl]; omega
    have hA : k < S.step.A.length := by rw [show S.step.A = S.A from rfl, h.wf.la, h.bl]; omega
    by_cases hm : i % 4 = 0
    · rw [(Sn.sentL_in _ k S.step S.step.due_nodup ((h.mem k).2 ⟨hk, hm⟩) hT hA).2, show S.step.now = S.now + 1 from rfl, h.now]; omega
    · rw [(Sn.sentL_T _ k S.step (fun hh => hm ((h.mem k).1 hh).2)).2, show S.step.A = S.A from rfl]
      have := h.a k hk (by omega)
      omega
/-- It gives up. -/
theorem Lose.gone {N : Nat} {S : Sn} (h : Lose N 32 S) (hN : 1 ≤ N) : S.tick = ([], 16, { S.step with lost := true }) := by
  unfold Sn.tick
  rw [if_neg (by rw [h.full hN]; simp), if_neg (by rw [h.lost]; simp), if_pos]
  rw [List.any_eq_true]
  refine ⟨0, (h.mem 0).2 ⟨by omega, by decide⟩, ?_⟩
  unfold Sn.tried
  rw [show S.step.T = S.T from rfl, h.t 0 (by omega)]; rfl
theorem tick_gone {S : Sn} (hf : S.full = false) (hl : S.lost = true) : S.tick = ([], 16, S) := by
  unfold Sn.tick
  rw [if_neg (by rw [hf]; simp), if_pos hl]
theorem lose_start (ses ep : Int) (C : List ByteArray) : Lose C.length 0 (Sn.start ses ep C) := by
  have gd : ∀ n k, (List.replicate n 0).getD k 0 = 0 := fun n k => by rw [List.getD_eq_getElem?_getD, List.getElem?_replicate]; split <;> simp
  refine ⟨rfl, rfl, ⟨by simp [Sn.start], by simp [Sn.start], by simp [Sn.start], fun j => ?_⟩, by simp [Sn.start], fun k => ?_, fun k hk => ?_, fun k hk h0 => absurd h0 (Nat.lt_irrefl 0)⟩
  · show (List.replicate C.length 0).getD j 0 ≤ 0
    rw [gd]; exact Nat.le_refl _
  · show (List.replicate C.length false).getD k false = _
    rw [List.getD_eq_getElem?_getD, List.getElem?_replicate]; split <;> simp
  · show (List.replicate C.length 0).getD k 0 = _
    rw [gd]
end Go.Proofs.Ytcmgmdgeimmbeaa
