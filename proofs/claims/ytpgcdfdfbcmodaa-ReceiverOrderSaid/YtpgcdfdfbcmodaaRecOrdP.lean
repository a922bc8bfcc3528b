/- In whatever order chunks come: plain lists. -/
import Derived.Test.YtpgcdfdfbcmodaaRecOrd
namespace Go.Proofs.Ytpgcdfdfbcmodaa
set_option linter.unusedVariables false
set_option linter.unusedSimpArgs false
structure OrdR (n : Nat) (C : List ByteArray) (t : Nat) (R : Rv) : Prop where
  s : R.ses = 1
  e : R.ep = 2
  l : R.B.length = n
  lc : R.C.length = n
  c : ∀ i, R.B.getD i false = true → R.C.getD i ⟨#[]⟩ = C.getD i ⟨#[]⟩
  d : R.D 9 + R.B.count true = t
  k : R.cnt ≤ t
  b : ∀ x, R.D x ≤ t
theorem count_put : ∀ (B : List Bool) (i : Nat), i < B.length → B.getD i false = false → (B.set i true).count true = B.count true + 1
  | [], i, h, _ => by simp at h
  | b :: B, 0, h, hb => by
    simp at hb
    subst hb
    simp
  | b :: B, i + 1, h, hb => by
    have := count_put B i (by simpa using h) (by simpa using hb)
    rw [List.set_cons_succ, List.count_cons, List.count_cons, this]; omega
theorem ord_start (n : Nat) (C : List ByteArray) : OrdR n C 0 (Rv.start 1 2 n) :=
  ⟨rfl, rfl, by simp [Rv.start], by simp [Rv.start], fun i h => by
    simp only [Rv.start, List.getD_eq_getElem?_getD, List.getElem?_replicate] at h
    split at h <;> simp at h, by simp [Rv.start, List.count_replicate], Nat.le_refl _, fun _ => Nat.le_refl _⟩
theorem ord_wrong {n : Nat} {C : List ByteArray} {t : Nat} {R : Rv} (h : OrdR n C t R) (i : Nat) (hi : i < n) (hn : n ≤ 256) (c : ByteArray) (hc : c.size ≤ 1000) :
    R.wrong ⟨1, 1, 2, i, n, c⟩ = if R.B.getD i false = true then 9 else 0 := by
  have hok : Fr.ok ⟨1, 1, 2, i, n, c⟩ := by
    unfold Fr.ok
    simp
    omega
  unfold Rv.wrong
  rw [if_neg (by simp [hok]), if_neg (by simp [h.s]), if_neg (by simp [h.e]), if_neg (by rw [h.l]; simp; omega), if_neg (by simp; omega)]
  rfl
theorem ord_take {n : Nat} {C : List ByteArray} {t : Nat} {R : Rv} (h : OrdR n C t R) (i : Nat) (hi : i < n) (hn : n ≤ 256) (hc : (C.getD i ⟨#[]⟩).size ≤ 1000) :
    OrdR n C (t + 1) (R.take ⟨1, 1, 2, i, n, C.getD i ⟨#[]⟩⟩).2 ∧ (R.take ⟨1, 1, 2, i, n, C.getD i ⟨#[]⟩⟩).2.B.getD i false = true ∧ ∀ j, R.B.getD j false = true → (R.take ⟨1, 1, 2, i, n, C.getD i ⟨#[]⟩⟩).2.B.getD j false = true := by
  have hw := ord_wrong h i hi hn _ hc
  have hk := h.k
  by_cases hb : R.B.getD i false = true
  · rw [if_pos hb] at hw
    rw [take_bad R _ (by rw [hw]; decide), hw]
    refine ⟨⟨h.s, h.e, h.l, h.lc, h.c, ?_, Nat.succ_le_succ hk, fun x => ?_⟩, hb, fun j hj => hj⟩
    · have h9 : (R.drop 9).D 9 = R.D 9 + 1 := by simp [Rv.drop]
      have := h.d
      show (R.drop 9).D 9 + R.B.count true = t + 1
      rw [h9]; omega
    · show (if x = _ then R.D x + 1 else R.D x) ≤ _
      have := h.b x
      split <;> omega
  · rw [if_neg hb] at hw
    have hb2 : R.B.getD i false = false := by simpa using hb
    rw [take_good R _ hw]
    have hset : ∀ j, (R.B.set i true).getD j false = if i = j then true else R.B.getD j false := fun j => by
      simp only [List.getD_eq_getElem?_getD, List.getElem?_set]
      by_cases hj : i = j
      · rw [if_pos hj, if_pos hj, if_pos (by rw [h.l]; exact hi)]; rfl
      · rw [if_neg hj, if_neg hj]
    refine ⟨⟨h.s, h.e, ?_, ?_, fun j hj => ?_, ?_, Nat.le_succ_of_le hk, fun x => Nat.le_succ_of_le (h.b x)⟩, ?_, fun j hj => ?_⟩
    · simp [Rv.put, h.l]
    · simp [Rv.put, h.lc]
    · have hj' : (R.B.set i true).getD j false = true := hj
      rw [hset] at hj'
      show (R.C.set i _).getD j _ = _
      simp only [List.getD_eq_getElem?_getD, List.getElem?_set]
      by_cases hij : i = j
      · subst hij
        rw [if_pos rfl, if_pos (by rw [h.lc]; exact hi)]; rfl
      · rw [if_neg hij] at hj' ⊢
        have := h.c j hj'
        simpa only [List.getD_eq_getElem?_getD] using this
    · have := h.d
      show R.D 9 + (R.B.set i true).count true = _
      rw [count_put R.B i (by rw [h.l]; exact hi) hb2]; omega
    · show (R.B.set i true).getD i false = true
      rw [hset, if_pos rfl]
    · show (R.B.set i true).getD j false = true
      rw [hset]
      split
      · rfl
      · exact hj
/-- At the end all lies there. -/
theorem ord_end {n : Nat} {C : List ByteArray} {t : Nat} {R : Rv} (h : OrdR n C t R) (hC : C.length = n) (hall : ∀ i, i < n → R.B.getD i false = true) :
    baseB R.B = R.B.length ∧ R.C = C ∧ R.D 9 + n = t ∧ R.B.count true = n := by
  have hB : R.B = List.replicate n true := by
    apply List.ext_getElem (by rw [h.l]; simp)
    intro i q1 q2
    have := hall i (by rw [← h.l]; exact q1)
    simpa [List.getD_eq_getElem?_getD, q1] using this
  have hcnt : R.B.count true = n := by rw [hB]; simp
  refine ⟨?_, ?_, ?_, hcnt⟩
  · refine baseB_unique R.B R.B.length (fun k hk => hall k (by rw [← h.l]; exact hk)) (by simp [List.getD_eq_getElem?_getD])
  · apply List.ext_getElem (by rw [h.lc, hC])
    intro i q1 q2
    have := h.c i (hall i (by rw [← h.lc]; exact q1))
    simpa [List.getD_eq_getElem?_getD, q1, q2] using this
  · have := h.d; omega
end Go.Proofs.Ytpgcdfdfbcmodaa
