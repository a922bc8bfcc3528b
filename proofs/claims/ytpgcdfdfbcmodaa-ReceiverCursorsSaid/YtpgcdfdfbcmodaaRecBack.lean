/- Receivers of one cursor are alike. -/
import Derived.Test.YtpgcdfdfbcmodaaRecAwake
namespace Go.Proofs.Ytpgcdfdfbcmodaa
set_option linter.unusedVariables false
set_option linter.unusedSimpArgs false
theorem text_num (c : ByteArray) (hc : c.size ≤ 1000) (rest : List UInt8) : textR (numL c.size ++ (c.data.toList ++ rest)) 0 1000 = (c.data.toList, rest, 0) := by
  have hl : c.data.toList.length = c.size := rfl
  unfold textR
  rw [uintR_num c.size (by omega), if_neg (by simp), if_neg (by simp; omega)]
  unfold rawR
  rw [if_neg (by simp), if_neg (by simp), if_neg (by simp [hl]; omega)]
  simp [hl]
def Rv.tailL (R : Rv) (n : Nat) : Nat → Nat → List UInt8
  | 0, _ => numL n
  | m + 1, j => R.ent j ++ R.tailL n m (j + 1)
theorem Rv.tail_cur (R : Rv) (n : Nat) : ∀ (m j : Nat), j + m = n → R.curC j ++ R.tailL n m j = R.curC n ++ numL n
  | 0, j, h => by obtain rfl : j = n := by omega
                  rfl
  | m + 1, j, h => by
    rw [Rv.tailL, ← List.append_assoc, ← R.curC_succ]
    exact R.tail_cur n m (j + 1) (by omega)
theorem ent_no {R : Rv} {j : Nat} (h : R.B.getD j false = false) : R.ent j = [] := by unfold Rv.ent; rw [h]; rfl
theorem ent_yes {R : Rv} {j : Nat} (h : R.B.getD j false = true) : R.ent j = numL j ++ (numL (R.C.getD j ⟨#[]⟩).size ++ (R.C.getD j ⟨#[]⟩).data.toList) := by unfold Rv.ent; rw [h]; rfl
theorem Rv.tail_head (R : Rv) (n : Nat) : ∀ (m j : Nat), j + m = n → ∃ k rest, R.tailL n m j = numL k ++ rest ∧ j ≤ k ∧ k ≤ n
  | 0, j, h => ⟨n, [], by simp [Rv.tailL], by omega, by omega⟩
  | m + 1, j, h => by
    cases hB : R.B.getD j false with
    | true => exact ⟨j, _, by rw [Rv.tailL, ent_yes hB, List.append_assoc], by omega, by omega⟩
    | false =>
      obtain ⟨k, rest, h1, h2, h3⟩ := R.tail_head n m (j + 1) (by omega)
      exact ⟨k, rest, by rw [Rv.tailL, ent_no hB, List.nil_append, h1], by omega, h3⟩
theorem num_inj {a b : Nat} {x y : List UInt8} (ha : a < 18446744073709551616) (hb : b < 18446744073709551616) (h : numL a ++ x = numL b ++ y) : a = b ∧ x = y := by
  have h1 := uintR_num a ha x
  rw [h, uintR_num b hb y] at h1
  simp only [Prod.mk.injEq, and_true] at h1
  exact ⟨h1.1.symm, h1.2.symm⟩
theorem bytes_eq {a b : ByteArray} (h : a.data.toList = b.data.toList) : a = b := by
  obtain ⟨⟨a⟩⟩ := a
  obtain ⟨⟨b⟩⟩ := b
  simp only at h
  rw [h]
theorem tail_inj {R1 R2 : Rv} (h1 : R1.wf) (h2 : R2.wf) (n : Nat) (hn : n ≤ 256) : ∀ (m j : Nat), j + m = n → R1.tailL n m j = R2.tailL n m j →
    ∀ i, j ≤ i → i < n → R1.B.getD i false = R2.B.getD i false ∧ (R1.B.getD i false = true → R1.C.getD i ⟨#[]⟩ = R2.C.getD i ⟨#[]⟩)
  | 0, j, h, _, i, hi, hi2 => by omega
  | m + 1, j, h, he, i, hi, hi2 => by
    rw [Rv.tailL, Rv.tailL] at he
    have ih := tail_inj h1 h2 n hn m (j + 1) (by omega)
    cases hB1 : R1.B.getD j false with
    | false =>
      rw [ent_no hB1, List.nil_append] at he
      cases hB2 : R2.B.getD j false with
      | false =>
        rw [ent_no hB2, List.nil_append] at he
        by_cases hij : i = j
        · subst hij; rw [hB1, hB2]; exact ⟨rfl, fun h => by cases h⟩
        · exact ih he i (by omega) hi2
      | true =>
        obtain ⟨k, rest, e1, e2, e3⟩ := R1.tail_head n m (j + 1) (by omega)
        rw [e1, ent_yes hB2, List.append_assoc] at he
        have := (num_inj (by omega) (by omega) he).1
        omega
    | true =>
      rw [ent_yes hB1, List.append_assoc] at he
      cases hB2 : R2.B.getD j false with
      | false =>
        rw [ent_no hB2, List.nil_append] at he
        obtain ⟨k, rest, e1, e2, e3⟩ := R2.tail_head n m (j + 1) (by omega)
        rw [e1] at he
        have := (num_inj (by omega) (by omega) he).1
        omega
      | true =>
        rw [ent_yes hB2] at he
        simp only [List.append_assoc] at he
        have he2 := (num_inj (a := j) (b := j) (by omega) (by omega) he).2
        have t1 := text_num (R1.C.getD j ⟨#[]⟩) (R1.cs_at h1 j) (R1.tailL n m (j + 1))
        rw [he2, text_num _ (R2.cs_at h2 j)] at t1
        simp only [Prod.mk.injEq, and_true] at t1
        by_cases hij : i = j
        · subst hij; rw [hB1, hB2]; exact ⟨rfl, fun _ => bytes_eq t1.1.symm⟩
        · exact ih t1.2.symm i (by omega) hi2
/-- Where nothing is there nothing lies. -/
def Rv.bare (R : Rv) : Prop := ∀ i, R.B.getD i false = false → R.C.getD i ⟨#[]⟩ = ⟨#[]⟩
theorem cur_inj {R1 R2 : Rv} (h1 : R1.wf) (h2 : R2.wf) (n : Nat) (hn : n ≤ 256) (l1 : R1.B.length = n) (l2 : R2.B.length = n) (b1 : R1.bare) (b2 : R2.bare) (hs : R1.ses = R2.ses) (hp : R1.ep = R2.ep) (he : R1.curL = R2.curL) : R1.B = R2.B ∧ R1.C = R2.C := by
  rw [R1.curL_eq, R2.curL_eq, hs, hp, l1, l2, List.append_cancel_left_eq, List.append_cancel_left_eq, List.append_cancel_left_eq] at he
  rw [← R1.tail_cur n n 0 (by omega), ← R2.tail_cur n n 0 (by omega)] at he
  have hi := tail_inj h1 h2 n hn n 0 (by omega) (by simpa [Rv.curC] using he)
  constructor
  · apply List.ext_getElem (by rw [l1, l2])
    intro i q1 q2
    have := (hi i (by omega) (by omega)).1
    simpa [List.getD_eq_getElem?_getD, q1, q2] using this
  · have k1 := h1.lc
    have k2 := h2.lc
    apply List.ext_getElem (by omega)
    intro i q1 q2
    have hh := hi i (by omega) (by omega)
    have : R1.C.getD i ⟨#[]⟩ = R2.C.getD i ⟨#[]⟩ := by
      cases hB : R1.B.getD i false with
      | true => exact hh.2 hB
      | false => rw [b1 i hB, b2 i (hh.1 ▸ hB)]
    simpa [List.getD_eq_getElem?_getD, q1, q2] using this
theorem bare_start (ses ep : Int) (n : Nat) : (Rv.start ses ep n).bare := fun i _ => by
  show (List.replicate n (⟨#[]⟩ : ByteArray)).getD i ⟨#[]⟩ = _
  rw [List.getD_eq_getElem?_getD]
  by_cases h : i < n
  · simp [List.getElem?_replicate, h]
  · simp [List.getElem?_replicate, h]
theorem bare_take {R : Rv} (h : R.bare) (f : Fr) : (R.take f).2.bare := by
  unfold Rv.take
  split
  · exact h
  · next hw =>
    intro i hi
    obtain ⟨-, hok, -, -, ht, hlt, -⟩ := Rv.wrong_zero (Classical.byContradiction hw)
    obtain ⟨-, -, -, -, -, hi0, -⟩ := hok
    simp only [Rv.put, List.getD_eq_getElem?_getD, List.getElem?_set] at hi ⊢
    by_cases he : f.i.toNat = i
    · rw [if_pos he] at hi
      by_cases hl : i < R.B.length
      · rw [if_pos (by omega)] at hi; simp at hi
      · omega
    · rw [if_neg he] at hi ⊢
      have := h i (by simpa [List.getD_eq_getElem?_getD] using hi)
      simpa [List.getD_eq_getElem?_getD] using this
end Go.Proofs.Ytpgcdfdfbcmodaa
