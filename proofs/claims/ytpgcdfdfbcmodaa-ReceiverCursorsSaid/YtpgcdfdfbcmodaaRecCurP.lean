/- What is read as a receiver is its cursor: no program in sight. -/
import Derived.Test.YtpgcdfdfbcmodaaRecRRes
import Derived.Test.YtpgcdfdfbcmodaaRecBack
namespace Go.Proofs.Ytpgcdfdfbcmodaa
set_option linter.unusedVariables false
set_option linter.unusedSimpArgs false
theorem uintL_back : ∀ (l : List UInt8) (i acc v : Nat) (r : List UInt8), uintL i acc l = (v, r, 0) → ∃ m, v = acc + m * 2 ^ (7 * i) ∧ l = numL m ++ r ∧ (0 < i → 0 < m)
  | [], i, acc, v, r, h => by simp [uintL] at h
  | c :: l, i, acc, v, r, h => by
    have hc : c.toNat < 256 := UInt8.toNat_lt c
    rw [uintL] at h
    split at h
    · simp at h
    · next h1 =>
      split at h
      · next h2 =>
        simp only [Prod.mk.injEq, and_true] at h
        refine ⟨c.toNat, h.1.symm, ?_, fun hi => ?_⟩
        · rw [numL_small _ h2, h.2]; simp
        · have : c.toNat ≠ 0 := fun hc => h1 (Or.inr ⟨hi, hc⟩)
          omega
      · next h2 =>
        obtain ⟨m, e1, e2, e3⟩ := uintL_back l (i + 1) _ v r h
        have hm := e3 (by omega)
        have d1 : (c.toNat % 128 + m * 128) / 128 = m := by omega
        have d2 : (c.toNat % 128 + m * 128) % 128 + 128 = c.toNat := by omega
        refine ⟨c.toNat % 128 + m * 128, ?_, ?_, fun _ => by omega⟩
        · rw [e1, show 7 * (i + 1) = 7 * i + 7 from by omega, Nat.pow_add, Nat.add_mul]
          generalize 2 ^ (7 * i) = p
          rw [show (2 : Nat) ^ 7 = 128 from rfl, Nat.mul_comm p 128, ← Nat.mul_assoc, Nat.add_assoc]
        · rw [numL_big _ (by omega), d1, d2, e2]; simp
theorem uintR_back {l r : List UInt8} {e v : Nat} (h : uintR l e = (v, r, 0)) : e = 0 ∧ l = numL v ++ r := by
  unfold uintR at h
  split at h
  · next h1 => simp only [Prod.mk.injEq] at h; exact absurd h.2.2 h1
  · next h1 =>
    obtain ⟨m, e1, e2, -⟩ := uintL_back l 0 0 v r h
    rw [Nat.mul_zero, Nat.pow_zero, Nat.mul_one, Nat.zero_add] at e1
    exact ⟨Classical.byContradiction h1, by rw [e1]; exact e2⟩
theorem textR_back {l c r : List UInt8} (h : textR l 0 1000 = (c, r, 0)) : l = numL c.length ++ (c ++ r) := by
  unfold textR at h
  cases hu : uintR l 0 with
  | mk v q =>
  obtain ⟨l', e'⟩ := q
  rw [hu] at h
  simp only at h
  split at h
  · next h1 => simp only [Prod.mk.injEq] at h; exact absurd h.2.2 h1
  · next h1 =>
    obtain rfl : e' = 0 := Classical.byContradiction h1
    have hl := (uintR_back hu).2
    split at h
    · simp at h
    · unfold rawR at h
      rw [if_neg (by simp), if_neg (by omega)] at h
      split at h
      · simp at h
      · next h3 =>
        rw [Int.toNat_natCast] at h
        simp only [Prod.mk.injEq, and_true] at h
        obtain ⟨rfl, rfl⟩ := h
        rw [List.length_take, Nat.min_eq_left (by omega), List.take_append_drop]
        exact hl
theorem doneR_back {l : List UInt8} (h : ¬ doneR l 0 ≠ 0) : l = [] := by
  unfold doneR at h
  rw [if_neg (by simp)] at h
  by_cases hl : l = []
  · exact hl
  · rw [if_neg hl] at h; simp at h
theorem getD_set_ne {α : Type} (l : List α) (i j : Nat) (a d : α) (h : i ≠ j) : (l.set i a).getD j d = l.getD j d := by
  rw [List.getD_eq_getElem?_getD, List.getD_eq_getElem?_getD, List.getElem?_set_ne h]
theorem getD_set_eq {α : Type} (l : List α) (i : Nat) (a d : α) (h : i < l.length) : (l.set i a).getD i d = a := by
  rw [List.getD_eq_getElem?_getD, List.getElem?_set_self h]; rfl
theorem Rv.ent_put_ne (R : Rv) (i j : Nat) (d : ByteArray) (h : i ≠ j) : (R.put i d).ent j = R.ent j := by
  unfold Rv.ent Rv.put
  simp only
  rw [getD_set_ne _ _ _ _ _ h, getD_set_ne _ _ _ _ _ h]
theorem Rv.curC_put (R : Rv) (i : Nat) (d : ByteArray) (hi : i < R.B.length) (hi2 : i < R.C.length) (hab : ∀ j, i ≤ j → R.B.getD j false = false) : ∀ m, (R.put i d).curC m = R.curC m ++ (if i < m then numL i ++ (numL d.size ++ d.data.toList) else [])
  | 0 => by simp [Rv.curC]
  | m + 1 => by
    rw [Rv.curC_succ, Rv.curC_succ, R.curC_put i d hi hi2 hab m]
    by_cases h1 : i < m
    · rw [R.ent_put_ne i m d (by omega), ent_no (hab m (by omega)), if_pos h1, if_pos (by omega)]; simp
    · by_cases h2 : i = m
      · subst h2
        rw [if_neg h1, if_pos (by omega), ent_no (hab i (by omega)), ent_yes (R := R.put i d) (getD_set_eq _ _ _ _ hi)]
        rw [show (R.put i d).C.getD i ⟨#[]⟩ = d from getD_set_eq _ _ _ _ hi2, List.append_nil]
      · rw [R.ent_put_ne i m d h2, if_neg h1, if_neg (by omega)]; simp
theorem resGo_back : ∀ (k : Nat) (R R' : Rv) (n : Nat) (la : Int) (l : List UInt8) (c : Nat), resGo k R n la l = (some R', c) → R.B.length = n → R.C.length = n → -1 ≤ la → (∀ j : Nat, la < j → R.B.getD j false = false) →
    R'.ses = R.ses ∧ R'.ep = R.ep ∧ R'.B.length = n ∧ R'.curC n ++ numL n = R.curC n ++ l
  | 0, R, R', n, la, l, c, h, _, _, _, _ => by simp [resGo] at h
  | k + 1, R, R', n, la, l, c, h, hB, hC, hla, hab => by
    rw [resGo] at h
    cases hu : uintR l 0 with
    | mk i q =>
    obtain ⟨l', e'⟩ := q
    rw [hu] at h
    simp only at h
    split at h
    · simp at h
    · next h1 =>
      obtain rfl : e' = 0 := Classical.byContradiction h1
      have hl := (uintR_back hu).2
      split at h
      · next h2 =>
        subst h2
        split at h
        · simp at h
        · next h3 =>
          obtain rfl := doneR_back h3
          simp only [Prod.mk.injEq, Option.some.injEq] at h
          obtain ⟨rfl, -⟩ := h
          rw [List.append_nil] at hl
          exact ⟨rfl, rfl, hB, by rw [hl]⟩
      · next h2 =>
        split at h
        · simp at h
        · next h3 =>
          split at h
          · simp at h
          · next h4 =>
            cases ht : textR l' 0 1000 with
            | mk t q =>
            obtain ⟨l2, e2⟩ := q
            rw [ht] at h
            simp only at h
            split at h
            · simp at h
            · next h5 =>
              obtain rfl : e2 = 0 := Classical.byContradiction h5
              have hl2 := textR_back ht
              have hin : i < n := by omega
              have hs : (bstr t).size = t.length := bstr_size t
              have hd : (bstr t).data.toList = t := rfl
              obtain ⟨a1, a2, a3, a4⟩ := resGo_back k (R.put i (bstr t)) R' n i l2 c h (by simp [Rv.put, hB]) (by simp [Rv.put, hC]) (by omega) (fun j hj => by
                show (R.B.set i true).getD j false = false
                rw [getD_set_ne _ _ _ _ _ (by omega)]
                exact hab j (by omega))
              refine ⟨a1, a2, a3, ?_⟩
              rw [a4, R.curC_put i (bstr t) (by omega) (by omega) (fun j hj => hab j (by omega)), if_pos hin, hs, hd, hl, hl2]
              simp only [List.append_assoc]
theorem start_absent (a b n : Nat) (j : Nat) : (Rv.start a b n).B.getD j false = false := by
  show (List.replicate n false).getD j false = false
  rw [List.getD_eq_getElem?_getD]
  rcases Nat.lt_or_ge j n with h | h
  · rw [List.getElem?_replicate_of_lt h]; rfl
  · rw [List.getElem?_eq_none (by simpa using h)]; rfl
theorem start_cur (a b n : Nat) : ∀ m, (Rv.start a b n).curC m = []
  | 0 => rfl
  | m + 1 => by rw [Rv.curC_succ, start_cur a b n m, ent_no (start_absent a b n m)]; rfl
theorem resR_back {l : List UInt8} {R : Rv} {c : Nat} (h : resR l = (some R, c)) : R.curL = l := by
  unfold resR at h
  cases h1 : uintR l 0 with
  | mk a q1 =>
  obtain ⟨l1, e1⟩ := q1
  rw [h1] at h
  simp only at h
  cases h2 : uintR l1 e1 with
  | mk b q2 =>
  obtain ⟨l2, e2⟩ := q2
  rw [h2] at h
  simp only at h
  cases h3 : uintR l2 e2 with
  | mk n q3 =>
  obtain ⟨l3, e3⟩ := q3
  rw [h3] at h
  simp only at h
  split at h
  · simp at h
  · next g1 =>
    obtain rfl : e3 = 0 := Classical.byContradiction g1
    split at h
    · simp at h
    · next g2 =>
      obtain ⟨rfl, r3⟩ := uintR_back h3
      obtain ⟨rfl, r2⟩ := uintR_back h2
      obtain ⟨-, r1⟩ := uintR_back h1
      have hm : ((0 : Int) ≤ sm a ∧ (sm a : Int) < 4294967296) ∧ ((0 : Int) ≤ sm b ∧ (sm b : Int) < 4294967296) ∧ 1 ≤ (sm n : Int) ∧ (sm n : Int) ≤ 256 := by
        simp only [mayR, Bool.not_eq_false, Bool.and_eq_true, decide_eq_true_eq] at g2
        omega
      have ha : sm a = a := by have := hm.1.2; unfold sm at this ⊢; omega
      have hb : sm b = b := by have := hm.2.1.2; unfold sm at this ⊢; omega
      rw [ha, hb] at h
      obtain ⟨a1, a2, a3, a4⟩ := resGo_back 257 _ R n (-1) l3 c h (by simp [Rv.start]) (by simp [Rv.start]) (by omega) (fun j _ => start_absent a b n j)
      have s1 : R.ses.toNat = a := by rw [a1]; rfl
      have s2 : R.ep.toNat = b := by rw [a2]; rfl
      rw [R.curL_eq, s1, s2, a3, a4, start_cur, List.nil_append, r1, r2, r3]
theorem resGo_none : ∀ (k : Nat) (R : Rv) (n : Nat) (la : Int) (l : List UInt8), (n : Int) - la ≤ k → la < n → (resGo k R n la l).1 = none → (resGo k R n la l).2 ≠ 0
  | 0, R, n, la, l, hk, hla, _ => by omega
  | k + 1, R, n, la, l, hk, hla, h => by
    rw [resGo] at h ⊢
    cases hu : uintR l 0 with
    | mk i q =>
    obtain ⟨l', e'⟩ := q
    rw [hu] at h
    simp only at h ⊢
    by_cases h1 : e' ≠ 0
    · rw [if_pos h1]; exact h1
    · rw [if_neg h1] at h ⊢
      by_cases h2 : i = n
      · rw [if_pos h2] at h ⊢
        by_cases h3 : doneR l' 0 ≠ 0
        · rw [if_pos h3]; exact h3
        · rw [if_neg h3] at h; simp at h
      · rw [if_neg h2] at h ⊢
        by_cases h3 : n < i
        · rw [if_pos h3]; simp
        · rw [if_neg h3] at h ⊢
          by_cases h4 : (i : Int) ≤ la
          · rw [if_pos h4]; simp
          · rw [if_neg h4] at h ⊢
            cases ht : textR l' 0 1000 with
            | mk t q =>
            obtain ⟨l2, e2⟩ := q
            rw [ht] at h
            simp only at h ⊢
            by_cases h5 : e2 ≠ 0
            · rw [if_pos h5]; exact h5
            · rw [if_neg h5] at h ⊢
              exact resGo_none k _ n i l2 (by omega) (by omega) h
theorem resR_none {l : List UInt8} (h : (resR l).1 = none) : (resR l).2 ≠ 0 := by
  unfold resR at h ⊢
  cases h1 : uintR l 0 with
  | mk a q1 =>
  obtain ⟨l1, e1⟩ := q1
  rw [h1] at h
  simp only at h ⊢
  cases h2 : uintR l1 e1 with
  | mk b q2 =>
  obtain ⟨l2, e2⟩ := q2
  rw [h2] at h
  simp only at h ⊢
  cases h3 : uintR l2 e2 with
  | mk n q3 =>
  obtain ⟨l3, e3⟩ := q3
  rw [h3] at h
  simp only at h ⊢
  by_cases g1 : e3 ≠ 0
  · rw [if_pos g1]; exact g1
  · rw [if_neg g1] at h ⊢
    by_cases g2 : mayR (sm a) (sm b) (sm n) = false
    · rw [if_pos g2]; simp
    · rw [if_neg g2] at h ⊢
      have hm : 1 ≤ (sm n : Int) ∧ (sm n : Int) ≤ 256 := by
        simp only [mayR, Bool.not_eq_false, Bool.and_eq_true, decide_eq_true_eq] at g2
        omega
      have hn : n ≤ 256 := by have := hm.2; unfold sm at this; omega
      exact resGo_none 257 _ n (-1) l3 (by omega) (by omega) h
end Go.Proofs.Ytpgcdfdfbcmodaa
