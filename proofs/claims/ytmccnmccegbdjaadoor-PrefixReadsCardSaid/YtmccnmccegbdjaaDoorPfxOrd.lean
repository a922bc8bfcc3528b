/- The order of prefixes: plain. -/
import Derived.Test.YtmccnmccegbdjaaDoorPfxMk
namespace Go.Proofs.YtmccnmccegbdjaaDoor
open Go.RowKit Go.Sort
set_option linter.unusedVariables false
set_option linter.unusedSimpArgs false
/-- The numbers by which prefixes are ordered, one behind the other. -/
def key (p : Px) (i : Nat) : Int := if i = 0 then kindN p.six else if i ≤ 16 then p.A.getD (i - 1) 0 else p.n
def LT (f g : Nat → Int) : Prop := ∃ i, i < 18 ∧ (∀ j, j < i → f j = g j) ∧ f i < g i
theorem LT.trans {f g h : Nat → Int} (a : LT f g) (b : LT g h) : LT f h := by
  obtain ⟨i, hi, h1, h2⟩ := a
  obtain ⟨k, hk, h3, h4⟩ := b
  rcases Nat.lt_trichotomy i k with h | h | h
  · exact ⟨i, hi, fun j hj => (h1 j hj).trans (h3 j (by omega)), by rw [← h3 i h]; exact h2⟩
  · subst h; exact ⟨i, hi, fun j hj => (h1 j hj).trans (h3 j hj), by omega⟩
  · exact ⟨k, hk, fun j hj => (h1 j (by omega)).trans (h3 j hj), by rw [h1 k h]; exact h4⟩
theorem LT.irrefl {f g : Nat → Int} (a : LT f g) (e : ∀ i, i < 18 → f i = g i) : False := by
  obtain ⟨i, hi, _, h⟩ := a
  have := e i hi; omega
theorem LT.asymm {f g : Nat → Int} (a : LT f g) (b : LT g f) : False := (a.trans b).irrefl (fun _ _ => rfl)
theorem LT.of_eq {f g f' g' : Nat → Int} (a : LT f g) (e1 : ∀ i, i < 18 → f i = f' i) (e2 : ∀ i, i < 18 → g i = g' i) : LT f' g' := by
  obtain ⟨i, hi, h1, h2⟩ := a
  exact ⟨i, hi, fun j hj => by rw [← e1 j (by omega), ← e2 j (by omega)]; exact h1 j hj, by rw [← e1 i hi, ← e2 i hi]; exact h2⟩
theorem cmpN_cases (A B : List Nat) : (cmpN A B = 0 ∧ ∀ j, j < 16 → A.getD j 0 = B.getD j 0) ∨ (∃ i, i < 16 ∧ (∀ j, j < i → A.getD j 0 = B.getD j 0) ∧ ((cmpN A B = -1 ∧ A.getD i 0 < B.getD i 0) ∨ (cmpN A B = 1 ∧ B.getD i 0 < A.getD i 0))) := by
  unfold cmpN
  cases e : (List.range 16).find? (fun i => A.getD i 0 != B.getD i 0) with
  | none =>
    left
    rw [List.find?_eq_none] at e
    exact ⟨rfl, fun j hj => by have := e j (List.mem_range.2 hj); simpa using this⟩
  | some i =>
    right
    rw [List.find?_range_eq_some] at e
    obtain ⟨e1, e2, e3⟩ := e
    have hne : A.getD i 0 ≠ B.getD i 0 := by simpa using e1
    refine ⟨i, List.mem_range.1 e2, fun j hj => by have := e3 j hj; simpa using this, ?_⟩
    simp only
    by_cases h : A.getD i 0 < B.getD i 0
    · left; rw [if_pos h]; exact ⟨rfl, h⟩
    · right; rw [if_neg h]; exact ⟨rfl, by omega⟩
theorem cmpI_cases (x y : Int) : (cmpI x y = 0 ∧ x = y) ∨ (cmpI x y = -1 ∧ x < y) ∨ (cmpI x y = 1 ∧ y < x) := by
  unfold cmpI
  by_cases h1 : x < y
  · rw [if_pos h1]; exact .inr (.inl ⟨rfl, h1⟩)
  · rw [if_neg h1]
    by_cases h2 : y < x
    · rw [if_pos h2]; exact .inr (.inr ⟨rfl, h2⟩)
    · rw [if_neg h2]; exact .inl ⟨rfl, by omega⟩
/-- What comparing tells. -/
theorem compare_cases (p q : Px) : (p.compare q = 0 ∧ ∀ i, i < 18 → key p i = key q i) ∨ (p.compare q = -1 ∧ LT (key p) (key q)) ∨ (p.compare q = 1 ∧ LT (key q) (key p)) := by
  have kA : ∀ (r : Px) (j : Nat), j < 16 → key r (j + 1) = (r.A.getD j 0 : Nat) := fun r j hj => by
    unfold key; rw [if_neg (by omega), if_pos (by omega), Nat.add_sub_cancel]
  have kn : ∀ r : Px, key r 17 = r.n := fun r => rfl
  have k0 : ∀ r : Px, key r 0 = kindN r.six := fun r => rfl
  unfold Px.compare
  rcases cmpI_cases (kindN p.six) (kindN q.six) with ⟨e1, h1⟩ | ⟨e1, h1⟩ | ⟨e1, h1⟩
  · rw [e1]
    have hk0 : key p 0 = key q 0 := by rw [k0, k0]; exact h1
    rcases cmpN_cases p.A q.A with ⟨e2, h2⟩ | ⟨i, hi, h2, ⟨e2, h3⟩ | ⟨e2, h3⟩⟩
    · rw [e2]
      have hall : ∀ j, j < 17 → key p j = key q j := fun j hj => by
        cases j with
        | zero => exact hk0
        | succ j => rw [kA p j (by omega), kA q j (by omega), h2 j (by omega)]
      rcases cmpI_cases p.n q.n with ⟨e3, h4⟩ | ⟨e3, h4⟩ | ⟨e3, h4⟩
      · rw [e3]
        refine .inl ⟨rfl, fun j hj => ?_⟩
        by_cases h : j < 17
        · exact hall j h
        · obtain rfl : j = 17 := by omega
          rw [kn, kn]; exact h4
      · rw [e3]
        exact .inr (.inl ⟨rfl, 17, by omega, hall, by rw [kn, kn]; exact h4⟩)
      · rw [e3]
        exact .inr (.inr ⟨rfl, 17, by omega, fun j hj => (hall j hj).symm, by rw [kn, kn]; exact h4⟩)
    · rw [e2]
      refine .inr (.inl ⟨rfl, i + 1, by omega, fun j hj => ?_, by rw [kA p i hi, kA q i hi]; omega⟩)
      cases j with
      | zero => exact hk0
      | succ j => rw [kA p j (by omega), kA q j (by omega), h2 j (by omega)]
    · rw [e2]
      refine .inr (.inr ⟨rfl, i + 1, by omega, fun j hj => ?_, by rw [kA p i hi, kA q i hi]; omega⟩)
      cases j with
      | zero => exact hk0.symm
      | succ j => rw [kA p j (by omega), kA q j (by omega), h2 j (by omega)]
  · rw [e1]
    exact .inr (.inl ⟨rfl, 0, by omega, fun j hj => by omega, by rw [k0, k0]; exact h1⟩)
  · rw [e1]
    exact .inr (.inr ⟨rfl, 0, by omega, fun j hj => by omega, by rw [k0, k0]; exact h1⟩)
theorem key_byte (r : Px) (j : Nat) (hj : j < 16) : key r (j + 1) = (r.A.getD j 0 : Nat) := by
  unfold key; rw [if_neg (by omega), if_pos (by omega), Nat.add_sub_cancel]
theorem key_kind (r : Px) : key r 0 = kindN r.six := rfl
theorem key_len (r : Px) : key r 17 = r.n := rfl
theorem kindN_inj {a b : Bool} (h : kindN a = kindN b) : a = b := by
  cases a <;> cases b <;> first | rfl | exact absurd h (by decide)
theorem key_eq {p q : Px} (hp : p.A.length = 16) (hq : q.A.length = 16) (h : ∀ i, i < 18 → key p i = key q i) : p = q := by
  have h0 := h 0 (by omega)
  have hn : p.n = q.n := h 17 (by omega)
  have hA : p.A = q.A := list_ext_getD _ _ (by omega) fun j hj => by
    have := h (j + 1) (by omega)
    rw [key_byte p j (by omega), key_byte q j (by omega)] at this
    exact Int.ofNat_inj.1 this
  have h6 : p.six = q.six := by
    rw [key_kind, key_kind] at h0
    exact kindN_inj (Int.ofNat_inj.1 h0)
  cases p; cases q
  simp_all
theorem compare_swap (p q : Px) : p.compare q = -(q.compare p) := by
  rcases compare_cases p q with ⟨e, h⟩ | ⟨e, h⟩ | ⟨e, h⟩ <;> rcases compare_cases q p with ⟨e', h'⟩ | ⟨e', h'⟩ | ⟨e', h'⟩ <;> rw [e, e'] <;> first | rfl | skip
  · exact (h'.irrefl (fun i hi => (h i hi).symm)).elim
  · exact (h'.irrefl h).elim
  · exact (h.irrefl (fun i hi => (h' i hi).symm)).elim
  · exact (h.asymm h').elim
  · exact (h.irrefl h').elim
  · exact (h.asymm h').elim
theorem compare_zero {p q : Px} (hp : p.A.length = 16) (hq : q.A.length = 16) : p.compare q = 0 ↔ p = q := by
  constructor
  · intro e
    rcases compare_cases p q with ⟨_, h⟩ | ⟨e', _⟩ | ⟨e', _⟩
    · exact key_eq hp hq h
    · rw [e'] at e; cases e
    · rw [e'] at e; cases e
  · rintro rfl
    rcases compare_cases p p with ⟨e, _⟩ | ⟨_, h⟩ | ⟨_, h⟩
    · exact e
    · exact (h.irrefl (fun _ _ => rfl)).elim
    · exact (h.irrefl (fun _ _ => rfl)).elim
/-- At most. -/
theorem compare_le (p q : Px) : p.compare q ≤ 0 ↔ (∀ i, i < 18 → key p i = key q i) ∨ LT (key p) (key q) := by
  rcases compare_cases p q with ⟨e, h⟩ | ⟨e, h⟩ | ⟨e, h⟩ <;> rw [e]
  · exact ⟨fun _ => .inl h, fun _ => by decide⟩
  · exact ⟨fun _ => .inr h, fun _ => by decide⟩
  · refine ⟨fun h0 => absurd h0 (by decide), fun h0 => ?_⟩
    rcases h0 with h0 | h0
    · exact (h.irrefl (fun i hi => (h0 i hi).symm)).elim
    · exact (h.asymm h0).elim
theorem compare_trans {p q r : Px} (h1 : p.compare q ≤ 0) (h2 : q.compare r ≤ 0) : p.compare r ≤ 0 := by
  rw [compare_le] at *
  rcases h1 with h1 | h1 <;> rcases h2 with h2 | h2
  · exact .inl fun i hi => (h1 i hi).trans (h2 i hi)
  · exact .inr (h2.of_eq (fun i hi => (h1 i hi).symm) (fun _ _ => rfl))
  · exact .inr (h1.of_eq (fun _ _ => rfl) h2)
  · exact .inr (h1.trans h2)
theorem byte_div : ∀ x : Fin 256, ∀ l : Fin 9, mk1 ((l.val : Nat) : Int) x.val = x.val / 2 ^ (8 - l.val) * 2 ^ (8 - l.val) := by decide +kernel
theorem byte_between (x y l : Nat) (hx : x < 256) (hy : y < 256) (hl : l ≤ 8) (h1 : mk1 ((l : Nat) : Int) x ≤ y) (h2 : y ≤ x) : mk1 ((l : Nat) : Int) y = mk1 ((l : Nat) : Int) x := by
  have e1 := byte_div ⟨x, hx⟩ ⟨l, by omega⟩
  have e2 := byte_div ⟨y, hy⟩ ⟨l, by omega⟩
  simp only at e1 e2
  rw [e1] at h1 ⊢
  rw [e2]
  have h : l = 0 ∨ l = 1 ∨ l = 2 ∨ l = 3 ∨ l = 4 ∨ l = 5 ∨ l = 6 ∨ l = 7 ∨ l = 8 := by omega
  clear e1 e2
  rcases h with rfl | rfl | rfl | rfl | rfl | rfl | rfl | rfl | rfl <;> simp only [Nat.reduceSub, Nat.reducePow] at h1 ⊢ <;> omega
theorem contains_parts {p r : Px} (h : p.contains r = true) : p.right = true ∧ r.right = true ∧ p.six = r.six ∧ p.n ≤ r.n ∧ maskL r.A p.n = p.A := by
  unfold Px.contains at h
  simp only [Bool.and_eq_true, decide_eq_true_eq] at h
  exact ⟨h.1, h.2.1, h.2.2.1, h.2.2.2.1, h.2.2.2.2⟩
theorem contains_le {p r : Px} (hr : r.wf) (h : p.contains r = true) : p.compare r ≤ 0 := by
  obtain ⟨h1, h2, h3, h4, h5⟩ := contains_parts h
  obtain ⟨n, hn, _⟩ := Px.right_n h1
  rw [hn] at h5
  have hc : cmpN p.A r.A ≤ 0 := cmpN_le _ _ fun i hi => by
    rw [← h5, mask_get r.A n i hr.len hi, mk1_clamp]
    have := byte_le ⟨r.A.getD i 0, hr.small i⟩ ⟨min (n - 8 * i) 8, by omega⟩ ⟨8, by omega⟩ (by show min (n - 8 * i) 8 ≤ 8; omega)
    simp only at this
    exact this
  unfold Px.compare
  have h0 : cmpI (kindN p.six) (kindN r.six) = 0 := by rw [h3]; unfold cmpI; rw [if_neg (by omega), if_neg (by omega)]
  have h6 : cmpI p.n r.n ≤ 0 := by unfold cmpI; split <;> (try split) <;> omega
  rw [h0]
  simp only [orL, if_true]
  split
  · split
    · exact Int.le_refl 0
    · exact h6
  · exact hc
/-- What comes at most, where all ahead of it is alike. -/
theorem le_at {p q : Px} (h : p.compare q ≤ 0) (i : Nat) (hi : i < 18) (he : ∀ j, j < i → key p j = key q j) : key p i ≤ key q i := by
  rw [compare_le] at h
  rcases h with h | ⟨k, hk, h1, h2⟩
  · rw [h i hi]; exact Int.le_refl _
  · rcases Nat.lt_trichotomy i k with h3 | h3 | h3
    · rw [h1 i h3]; exact Int.le_refl _
    · subst h3; omega
    · have := he k h3; omega
theorem contains_between {p q r : Px} (hp : p.wf) (hq : q.wf) (hr : r.wf) (h : p.contains r = true) (h1 : p.compare q ≤ 0) (h2 : q.compare r ≤ 0) (hqr : q.right = true) : p.contains q = true := by
  obtain ⟨c1, c2, c3, c4, c5⟩ := contains_parts h
  obtain ⟨n, hn, hn2⟩ := Px.right_n c1
  have hw := widthN_le p.six
  rw [hn] at c5
  have pg : ∀ j, j < 16 → p.A.getD j 0 = mk1 ((n : Int) - 8 * j) (r.A.getD j 0) := fun j hj => by rw [← mask_get r.A n j hr.len hj, c5]
  have hfull : ∀ j, 8 * j + 8 ≤ n → ∀ x, mk1 ((n : Int) - 8 * j) x = x := fun j hj x => by
    unfold mk1; rw [if_neg (by omega), if_neg (by omega)]
  have hnone : ∀ j, n ≤ 8 * j → ∀ x, mk1 ((n : Int) - 8 * j) x = 0 := fun j hj x => by
    unfold mk1; rw [if_pos (by omega)]
  -- all ahead of the last byte that counts is alike in all three
  have hall : ∀ i, i ≤ n / 8 → ∀ j, j < i + 1 → key p j = key q j ∧ key q j = key r j := by
    intro i
    induction i with
    | zero =>
      intro _ j hj
      obtain rfl : j = 0 := by omega
      have a1 := le_at h1 0 (by omega) (fun j hj => by omega)
      have a2 := le_at h2 0 (by omega) (fun j hj => by omega)
      have a3 : key p 0 = key r 0 := by rw [key_kind, key_kind, c3]
      omega
    | succ i ih =>
      intro hi j hj
      have ih' := ih (by omega)
      by_cases hji : j < i + 1
      · exact ih' j hji
      · obtain rfl : j = i + 1 := by omega
        have a1 := le_at h1 (i + 1) (by omega) (fun j hj => (ih' j hj).1)
        have a2 := le_at h2 (i + 1) (by omega) (fun j hj => (ih' j hj).2)
        have a3 : key p (i + 1) = key r (i + 1) := by
          rw [key_byte p i (by omega), key_byte r i (by omega), pg i (by omega), hfull i (by omega)]
        omega
  have hH := hall (n / 8) (Nat.le_refl _)
  have hmask : maskL q.A n = p.A := by
    apply list_ext_getD
    · rw [mask_len, hq.len, hp.len]
    · intro j hj
      rw [mask_len, hq.len] at hj
      rw [mask_get q.A n j hq.len hj]
      rcases Nat.lt_trichotomy j (n / 8) with h3 | h3 | h3
      · rw [hfull j (by omega)]
        have := (hH (j + 1) (by omega)).1
        rw [key_byte p j hj, key_byte q j hj] at this
        omega
      · subst h3
        have a1 := le_at h1 (n / 8 + 1) (by omega) (fun j hj => (hH j hj).1)
        have a2 := le_at h2 (n / 8 + 1) (by omega) (fun j hj => (hH j hj).2)
        rw [key_byte p _ hj, key_byte q _ hj] at a1
        rw [key_byte q _ hj, key_byte r _ hj] at a2
        rw [pg _ hj] at a1 ⊢
        rw [mk1_clamp] at a1
        rw [mk1_clamp, mk1_clamp n (n / 8) (r.A.getD (n / 8) 0)]
        exact byte_between _ _ _ (hr.small _) (hq.small _) (by omega) (by omega) (by omega)
      · rw [hnone j (by omega), pg j hj, hnone j (by omega)]
  have hsix : p.six = q.six := by
    have := (hH 0 (by omega)).1
    rw [key_kind, key_kind] at this
    exact kindN_inj (Int.ofNat_inj.1 this)
  obtain ⟨m, hm, hm2⟩ := Px.right_n hqr
  have hnm : p.n ≤ q.n := by
    rcases Int.lt_or_le q.n p.n with h3 | h3
    · exfalso
      have hqA : maskL q.A m = q.A := by
        have := hqr
        unfold Px.right at this
        simp only [Bool.and_eq_true, decide_eq_true_eq] at this
        rw [← hm]; exact this.2
      have hAA : p.A = q.A := by
        rw [← hmask]
        have := mask_mask q.A hq.len hq.small n m
        rw [hqA, Nat.min_eq_right (by omega), hqA] at this
        exact this
      have a1 := le_at h1 17 (by omega) (fun j hj => by
        cases j with
        | zero => exact (hH 0 (by omega)).1
        | succ j => rw [key_byte p j (by omega), key_byte q j (by omega), hAA])
      rw [key_len, key_len] at a1
      omega
    · exact h3
  unfold Px.contains
  rw [c1, hqr, decide_eq_true hsix, decide_eq_true hnm, hn, hmask, decide_eq_true rfl]
  rfl
end Go.Proofs.YtmccnmccegbdjaaDoor
