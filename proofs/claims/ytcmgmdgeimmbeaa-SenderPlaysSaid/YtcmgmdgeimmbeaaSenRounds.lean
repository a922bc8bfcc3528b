/- Plain laws on a sender that is told all, or nothing. -/
import Derived.Test.YtcmgmdgeimmbeaaSenMay
namespace Go.Proofs.Ytcmgmdgeimmbeaa
set_option linter.unusedVariables false
set_option linter.unusedSimpArgs false
theorem range_between (a b : Nat) : ∀ N, (List.range N).filter (fun i => decide (a ≤ i) && decide (i < b)) = List.range' a (min b N - a)
  | 0 => by simp
  | N + 1 => by
    rw [List.range_succ, List.filter_append, range_between a b N]
    by_cases h : a ≤ N ∧ N < b
    · have e1 : min b (N + 1) - a = (min b N - a) + 1 := by omega
      have e2 : a + (min b N - a) = N := by omega
      rw [e1, List.range'_concat, Nat.one_mul, e2]
      simp [h.1, h.2]
    · have e1 : min b (N + 1) - a = min b N - a := by omega
      rw [e1]
      have : (decide (a ≤ N) && decide (N < b)) = false := by
        rw [Bool.and_eq_false_iff]; simp only [decide_eq_false_iff_not]; omega
      simp [this]
theorem filter_ext {α : Type} (p q : α → Bool) (l : List α) (h : ∀ x ∈ l, p x = q x) : l.filter p = l.filter q := List.filter_congr h
/-- All told so far: the first n are there, sent once. -/
structure Whole (C : List ByteArray) (S : Sn) (n r : Nat) : Prop where
  ses : S.ses = 1
  ep : S.ep = 2
  c : S.C = C
  lost : S.lost = false
  now : S.now = r
  wf : S.wf
  b : ∀ i, i < C.length → S.B.getD i false = decide (i < n)
  t : ∀ i, i < C.length → S.T.getD i 0 = if i < n then 1 else 0
theorem Whole.bl {C : List ByteArray} {S : Sn} {n r : Nat} (h : Whole C S n r) : S.B.length = C.length := by rw [← h.wf.lc, h.c]
theorem Whole.base {C : List ByteArray} {S : Sn} {n r : Nat} (h : Whole C S n r) (hn : n ≤ C.length) : baseB S.B = n := by
  refine baseB_unique S.B n (fun k hk => ?_) ?_
  · rw [h.b k (by omega)]; simpa using hk
  · by_cases e : n < C.length
    · rw [h.b n e]; simp
    · exact getD_ge (by rw [h.bl]; omega)
theorem whole_due {C : List ByteArray} {S : Sn} {n r : Nat} (h : Whole C S n r) (hn : n ≤ C.length) : S.step.due = List.range' n (min (n + 8) C.length - n) ∧ ∀ i ∈ S.step.due, S.T.getD i 0 = 0 := by
  have hb := h.base hn
  have hm : ∀ i ∈ S.step.due, S.T.getD i 0 = 0 := by
    intro i hi
    rw [Sn.mem_due] at hi
    obtain ⟨⟨h1, h2, -⟩, -⟩ := hi
    rw [show S.step.B = S.B from rfl, h.bl] at h1
    rw [show S.step.B = S.B from rfl, hb] at h2
    rw [h.t i h1, if_neg (by omega)]
  refine ⟨?_, hm⟩
  unfold Sn.due missB
  rw [List.filter_filter, show S.step.B = S.B from rfl, h.bl, hb, ← range_between n (n + 8) C.length]
  refine filter_ext _ _ _ fun i hi => ?_
  rw [List.mem_range] at hi
  unfold missF Sn.hold
  rw [show S.step.T = S.T from rfl, h.t i hi, h.b i hi]
  by_cases h1 : n ≤ i
  · have h2 : ¬ i < n := by omega
    have h3 : (n : Int) ≤ (i : Int) := by omega
    by_cases h4 : i < n + 8
    · have h5 : (i : Int) < (n : Int) + 8 := by omega
      simp [h1, h2, h3, h4, h5]
    · have h5 : ¬ (i : Int) < (n : Int) + 8 := by omega
      simp [h1, h2, h3, h4, h5]
  · have h2 : i < n := by omega
    simp [h1, h2]
theorem whole_tick {C : List ByteArray} {S : Sn} {n r : Nat} (h : Whole C S n r) (hn : n < C.length) :
    S.tick = (List.range' n (min (n + 8) C.length - n), 0, S.step.sentL S.step.due) ∧ S.full = false := by
  obtain ⟨h1, h2⟩ := whole_due h (by omega)
  have hf : S.full = false := by unfold Sn.full; rw [h.base (by omega), h.bl]; simp; omega
  refine ⟨?_, hf⟩
  unfold Sn.tick
  rw [if_neg (by rw [hf]; simp), if_neg (by rw [h.lost]; simp), if_neg, h1]
  rw [Bool.not_eq_true, List.any_eq_false]
  intro i hi
  have := h2 i hi
  unfold Sn.tried
  rw [show S.step.T = S.T from rfl, this]; simp
theorem told_first (n i : Nat) : toldB (n : Nat) ⟨#[]⟩ i = decide (i < n) := by
  unfold toldB
  rw [bitS_out _ _ (by show 0 ≤ _; omega)]
  simp
theorem whole_ack {C : List ByteArray} {S : Sn} {n r : Nat} (h : Whole C S n r) (hn : n ≤ C.length) :
    (S.step.sentL S.step.due).ack 2 1 2 ((min (n + 8) C.length : Nat) : Int) (C.length : Nat) ⟨#[]⟩ = (0, { S.step.sentL S.step.due with B := withB S.B (toldB ((min (n + 8) C.length : Nat) : Int) ⟨#[]⟩) S.B.length }) ∧
    Whole C { S.step.sentL S.step.due with B := withB S.B (toldB ((min (n + 8) C.length : Nat) : Int) ⟨#[]⟩) S.B.length } (min (n + 8) C.length) (r + 1) := by
  obtain ⟨e1, e2, e3, e4, e5, e6, e7, e8⟩ := Sn.sentL_same S.step.due S.step
  obtain ⟨h1, h2⟩ := whole_due h hn
  have hB : (S.step.sentL S.step.due).B = S.B := e4
  refine ⟨?_, ?_⟩
  · unfold Sn.ack
    rw [if_neg (by simp), if_neg (by rw [e1]; simp [Sn.step, h.ses]), if_neg (by rw [e2]; simp [Sn.step, h.ep]), if_neg, hB]
    rw [hB, h.bl]
    omega
  · have hwf := Sn.wf.sentL (S := S.step) S.step.due h.wf.step
    have hl := withB_length S.B (toldB ((min (n + 8) C.length : Nat) : Int) ⟨#[]⟩) S.B.length
    refine ⟨e1.trans h.ses, e2.trans h.ep, e3.trans h.c, e6.trans h.lost, by rw [show ({ S.step.sentL S.step.due with B := withB S.B (toldB ((min (n + 8) C.length : Nat) : Int) ⟨#[]⟩) S.B.length } : Sn).now = (S.step.sentL S.step.due).now from rfl, e5]; show S.now + 1 = _; rw [h.now], ⟨?_, ?_, ?_, hwf.ale⟩, fun i hi => ?_, fun i hi => ?_⟩
    · show (S.step.sentL S.step.due).C.length = _; rw [hwf.lc, hB]; exact hl.symm
    · show (S.step.sentL S.step.due).T.length = _; rw [hwf.lt, hB]; exact hl.symm
    · show (S.step.sentL S.step.due).A.length = _; rw [hwf.la, hB]; exact hl.symm
    · show (withB S.B _ S.B.length).getD i false = _
      rw [withB_get _ _ _ _ (by rw [h.bl]; exact hi), told_first, h.b i hi, h.bl]
      by_cases h3 : i < n
      · have : i < min (n + 8) C.length := by omega
        simp [h3, this]
      · simp [h3, hi]
    · show (S.step.sentL S.step.due).T.getD i 0 = _
      have hTl : S.step.T.length = C.length := by rw [show S.step.T = S.T from rfl, h.wf.lt, h.bl]
      have hAl : S.step.A.length = C.length := by rw [show S.step.A = S.A from rfl, h.wf.la, h.bl]
      by_cases hm : i ∈ S.step.due
      · rw [(Sn.sentL_in S.step.due i S.step S.step.due_nodup hm (by omega) (by omega)).1, show S.step.T = S.T from rfl, h2 i hm]
        rw [h1, List.mem_range'_1] at hm
        rw [if_pos (by omega)]
      · rw [(Sn.sentL_T S.step.due i S.step hm).1, show S.step.T = S.T from rfl, h.t i hi]
        rw [h1, List.mem_range'_1] at hm
        by_cases h3 : i < n
        · rw [if_pos h3, if_pos (by omega)]
        · rw [if_neg h3, if_neg (by omega)]
theorem whole_start (C : List ByteArray) : Whole C (Sn.start 1 2 C) 0 0 := by
  refine ⟨rfl, rfl, rfl, rfl, rfl, ⟨by simp [Sn.start], by simp [Sn.start], by simp [Sn.start], fun j => ?_⟩, fun i hi => ?_, fun i hi => ?_⟩
  · show (List.replicate C.length 0).getD j 0 ≤ 0
    rw [List.getD_eq_getElem?_getD, List.getElem?_replicate]; split <;> simp
  · show (List.replicate C.length false).getD i false = _
    rw [List.getD_eq_getElem?_getD, List.getElem?_replicate]; split <;> simp
  · show (List.replicate C.length 0).getD i 0 = _
    rw [List.getD_eq_getElem?_getD, List.getElem?_replicate]; split <;> simp
end Go.Proofs.Ytcmgmdgeimmbeaa
