/- More plain laws on maps of bits, for the laws' walks. -/
import Derived.Test.YtpgcdfdfbcmodaaSackMerge
namespace Go.Proofs.Ytpgcdfdfbcmodaa
set_option linter.unusedVariables false
set_option linter.unusedSimpArgs false
theorem setB_length (B : List Bool) (i : Int) : (setB B i).length = B.length := by unfold setB; split <;> simp
theorem count_set_le (B : List Bool) (i : Nat) : B.count true ≤ (B.set i true).count true := by
  by_cases h : i < B.length
  · cases hb : B.getD i false with
    | false => rw [count_set B i h hb]; omega
    | true =>
      have : B.set i true = B := by
        apply list_ext_getD _ _ (by simp)
        intro k _
        rw [getD_set _ _ _ _ h]
        split
        · rename_i e; subst e; exact hb.symm
        · rfl
      rw [this]; exact Nat.le_refl _
  · rw [List.set_eq_of_length_le (by omega)]; exact Nat.le_refl _
theorem count_setB_le (B : List Bool) (i : Int) : B.count true ≤ (setB B i).count true := by
  unfold setB; split
  · exact count_set_le _ _
  · exact Nat.le_refl _
theorem setB_get (B : List Bool) (i k : Nat) (h : i < B.length) : (setB B (i : Int)).getD k false = (decide (k = i) || B.getD k false) := by
  rw [setB_nat, getD_set _ _ _ _ h]
  by_cases e : k = i
  · simp [e]
  · simp [e]
theorem count_with (B : List Bool) (t : Nat → Bool) : ∀ j, j ≤ B.length → (withB B t j).count true = B.count true + newB B t j
  | 0, _ => by rw [withB_zero]; rfl
  | j + 1, h => by
    have ih := count_with B t j (by omega)
    rw [withB_step B t j (by omega), newB]
    cases ht : t j && !B.getD j false with
    | false => rw [if_neg (by decide), ih]; rfl
    | true =>
      rw [if_pos rfl, count_set _ _ (by rw [withB_length]; omega) (by rw [withB_at]; simp at ht; exact ht.2), ih]
      rfl
theorem all_true (D : List Bool) (h : ∀ i, i < D.length → D.getD i false = true) : baseB D = D.length ∧ D.count true = D.length := by
  constructor
  · refine baseB_unique D _ h (getD_ge (Nat.le_refl _))
  · have : D = List.replicate D.length true := by
      apply list_ext_getD _ _ (by simp)
      intro i hi
      rw [List.length_replicate] at hi
      rw [h i hi, List.getD_eq_getElem?_getD, List.getElem?_replicate, if_pos hi]; rfl
    rw [this]; simp
theorem with_full (C : List Bool) (s : ByteArray) : baseB (withB C (toldB (C.length : Nat) s) C.length) = C.length := by
  have h := (all_true (withB C (toldB (C.length : Nat) s) C.length) (fun i hi => by
    rw [withB_length] at hi
    rw [withB_get _ _ _ _ hi, toldB_below _ _ _ (by omega)]
    simp [hi])).1
  rwa [withB_length] at h
theorem missB_prefix (B : List Bool) (a b : Int) (j : Nat) : ∀ k, missB B a b j <+: missB B a b (j + k)
  | 0 => List.prefix_rfl
  | k + 1 => by
    refine (missB_prefix B a b j k).trans ?_
    rw [← Nat.add_assoc, missB_step]
    split
    · exact List.prefix_append _ _
    · exact List.prefix_rfl
theorem missF_all (B : List Bool) (i : Nat) (h : i < B.length) : missF B 0 (B.length : Nat) i = !B.getD i false := by
  unfold missF; rw [decide_eq_true (by omega), decide_eq_true (by omega)]; rfl
theorem count_miss (B : List Bool) : ∀ j, j ≤ B.length → (missB B 0 (B.length : Nat) j).length + (B.take j).count true = j
  | 0, _ => by simp [missB]
  | j + 1, h => by
    have ih := count_miss B j (by omega)
    have hg : B[j]'(by omega) = B.getD j false := by rw [List.getD_eq_getElem?_getD, List.getElem?_eq_getElem (by omega)]; rfl
    rw [missB_step, missF_all B j (by omega), List.take_succ_eq_append_getElem (by omega), List.count_append, hg]
    cases hb : B.getD j false with
    | false => rw [if_pos (by decide), List.length_append]; simp; omega
    | true => rw [if_neg (by decide)]; simp; omega
theorem miss_count (B : List Bool) : (missB B 0 (B.length : Nat) B.length).length + B.count true = B.length := by
  have := count_miss B B.length (Nat.le_refl _)
  rwa [List.take_length] at this
theorem mem_miss (B : List Bool) (x : Nat) : x ∈ missB B 0 (B.length : Nat) B.length ↔ x < B.length ∧ B.getD x false = false := by
  unfold missB
  rw [List.mem_filter, List.mem_range]
  constructor
  · rintro ⟨h, h2⟩; rw [missF_all B x h] at h2; exact ⟨h, by simpa using h2⟩
  · rintro ⟨h, h2⟩; exact ⟨h, by rw [missF_all B x h, h2]; rfl⟩
theorem nodup_miss (B : List Bool) (a b : Int) (j : Nat) : (missB B a b j).Nodup := by
  unfold missB; exact List.nodup_range.filter _
theorem miss_head (B : List Bool) (h : missB B 0 (B.length : Nat) B.length ≠ []) : (missB B 0 (B.length : Nat) B.length)[0]? = some (baseB B) := by
  have hle := baseB_le B
  have h0 : missB B 0 (B.length : Nat) (baseB B) = [] := by
    rw [missB_skip B 0 (B.length : Nat) (baseB B) 0 (by omega) (fun i _ hi => by rw [missF_all B i (by omega), baseB_below B i hi]; rfl)]; rfl
  by_cases hb : baseB B < B.length
  · have h1 : missB B 0 (B.length : Nat) (baseB B + 1) = [baseB B] := by
      rw [missB_step, missF_all B _ hb, baseB_at, if_pos (by decide), h0]; rfl
    obtain ⟨k, hk⟩ : ∃ k, B.length = baseB B + 1 + k := ⟨B.length - (baseB B + 1), by omega⟩
    obtain ⟨r, hr⟩ := missB_prefix B 0 (B.length : Nat) (baseB B + 1) k
    have e : missB B 0 (B.length : Nat) B.length = missB B 0 (B.length : Nat) (baseB B + 1 + k) := congrArg (missB B 0 (B.length : Nat)) hk
    rw [e, ← hr, h1]; rfl
  · have e : baseB B = B.length := by omega
    have e2 : missB B 0 (B.length : Nat) B.length = missB B 0 (B.length : Nat) (baseB B) := congrArg (missB B 0 (B.length : Nat)) e.symm
    rw [e2, h0] at h; exact absurd rfl h
/-- What is told by another map. -/
theorem told_of (X : List Bool) (k : Int) (i : Nat) : toldB (baseB X : Nat) (tellB X k) i = (decide (i < baseB X) || (decide (baseB X < i) && decide (i - baseB X - 1 < upTo k) && X.getD i false)) := by
  rcases Nat.lt_trichotomy i (baseB X) with h | h | h
  · rw [toldB_below _ _ _ (by omega)]; simp [h]
  · rw [toldB_same _ _ _ (by omega)]; simp [h]
  · rw [toldB_above _ _ i (i - baseB X - 1) (by omega), bitS_tell]
    unfold behindF
    rw [show baseB X + 1 + (i - baseB X - 1) = i by omega]
    have : ¬ i < baseB X := by omega
    simp [this, h]
theorem told_sub (X : List Bool) (k : Int) (i : Nat) (h : toldB (baseB X : Nat) (tellB X k) i = true) : X.getD i false = true := by
  rw [told_of] at h
  simp only [Bool.or_eq_true, Bool.and_eq_true, decide_eq_true_eq] at h
  rcases h with h | h
  · exact baseB_below X i h
  · exact h.2
theorem told_has (X : List Bool) (k : Int) (i : Nat) (h : X.getD i false = true) (hi : i < baseB X ∨ i < baseB X + 1 + upTo k) : toldB (baseB X : Nat) (tellB X k) i = true := by
  rw [told_of, h]
  have hne : i ≠ baseB X := fun e => by rw [e, baseB_at] at h; cases h
  rcases Nat.lt_or_ge i (baseB X) with h1 | h1
  · simp [h1]
  · have h2 : baseB X < i := by omega
    have h3 : i - baseB X - 1 < upTo k := by omega
    simp [h2, h3]
theorem told_256 (X : List Bool) (i : Nat) (hl : X.length ≤ 256) (hi : i < X.length) : toldB (baseB X : Nat) (tellB X 256) i = X.getD i false := by
  cases hx : X.getD i false with
  | true => exact told_has X 256 i hx (Or.inr (by have : upTo 256 = 256 := by decide
                                                  omega))
  | false =>
    cases ht : toldB (baseB X : Nat) (tellB X 256) i with
    | false => rfl
    | true => rw [told_sub X 256 i ht] at hx; cases hx
theorem newB_none (B : List Bool) (t : Nat → Bool) : ∀ j, (∀ i, i < j → t i = true → B.getD i false = true) → newB B t j = 0
  | 0, _ => rfl
  | j + 1, h => by
    rw [newB, newB_none B t j (fun i hi => h i (by omega))]
    cases ht : t j with
    | false => rfl
    | true => rw [h j (by omega) ht]; rfl
theorem count_le_of (A B : List Bool) (hl : A.length = B.length) (h : ∀ i, A.getD i false = true → B.getD i false = true) : A.count true ≤ B.count true := by
  induction A generalizing B with
  | nil => simp
  | cons a A ih =>
    cases B with
    | nil => simp at hl
    | cons b B =>
      have := ih B (by simpa using hl) (fun i hi => by have := h (i + 1); simp only [List.getD_cons_succ] at this; exact this hi)
      have h0 := h 0
      simp only [List.getD_cons_zero] at h0
      rw [List.count_cons, List.count_cons]
      cases a
      · simp; omega
      · rw [h0 rfl]; simp; omega
theorem baseB_mono (A B : List Bool) (h : ∀ i, A.getD i false = true → B.getD i false = true) : baseB A ≤ baseB B := by
  rcases Nat.lt_or_ge (baseB B) (baseB A) with h1 | h1
  · have := h _ (baseB_below A _ h1)
    rw [baseB_at] at this; cases this
  · exact h1
theorem setB_mono (B : List Bool) (i : Int) (k : Nat) (h : B.getD k false = true) : (setB B i).getD k false = true := by
  unfold setB; split
  · have hk := getD_lt h
    by_cases hi : i.toNat < B.length
    · rw [getD_set _ _ _ _ hi]; split
      · rfl
      · exact h
    · rw [List.set_eq_of_length_le (by omega)]; exact h
  · exact h
/-- The base rises only with itself. -/
theorem base_rises (B : List Bool) (i : Nat) (h : baseB B < baseB (setB B (i : Int))) : newI B (i : Int) = true ∧ i = baseB B := by
  have h1 := baseB_below _ _ h
  by_cases hi : i < B.length
  · rw [setB_get _ _ _ hi, baseB_at] at h1
    have e : baseB B = i := by simpa using h1
    refine ⟨?_, e.symm⟩
    unfold newI
    rw [hasB_nat, ← e, baseB_at, decide_eq_true (by omega), decide_eq_true (by omega)]; rfl
  · rw [setB_nat, List.set_eq_of_length_le (by omega)] at h; omega
end Go.Proofs.Ytpgcdfdfbcmodaa
