/- The sender as plain lists: no program in sight. -/
import Derived.Test.YtcmgmdgeimmbeaaSenDel
namespace Go.Proofs.Ytcmgmdgeimmbeaa
set_option linter.unusedVariables false
set_option linter.unusedSimpArgs false
structure Sn where
  ses : Int
  ep : Int
  C : List ByteArray
  B : List Bool
  T : List Nat
  A : List Nat
  now : Nat
  lost : Bool
/-- Not yet due. -/
def Sn.hold (S : Sn) (i : Nat) : Bool := decide (0 < S.T.getD i 0) && decide (S.now < S.A.getD i 0 + 4)
def Sn.due (S : Sn) : List Nat := (missB S.B (baseB S.B : Nat) ((baseB S.B : Nat) + 8) S.B.length).filter fun i => !S.hold i
def Sn.sent1 (S : Sn) (i : Nat) : Sn := { S with T := S.T.set i (S.T.getD i 0 + 1), A := S.A.set i S.now }
def Sn.sentL (S : Sn) (l : List Nat) : Sn := l.foldl Sn.sent1 S
def Sn.step (S : Sn) : Sn := { S with now := S.now + 1 }
def Sn.full (S : Sn) : Bool := decide (baseB S.B = S.B.length)
def Sn.tried (S : Sn) (i : Nat) : Bool := decide (8 ≤ S.T.getD i 0)
def Sn.tick (S : Sn) : List Nat × Nat × Sn :=
  if S.full = true then ([], 15, S) else if S.lost = true then ([], 16, S)
  else if S.step.due.any S.step.tried = true then ([], 16, { S.step with lost := true })
  else (S.step.due, 0, S.step.sentL S.step.due)
def Sn.ack (S : Sn) (k s e i t : Int) (d : ByteArray) : Nat × Sn :=
  if k ≠ 2 then (1, S) else if s ≠ S.ses then (12, S) else if e ≠ S.ep then (13, S) else if t ≠ (S.B.length : Nat) ∨ i < 0 ∨ t < i then (14, S)
  else (0, { S with B := withB S.B (toldB i d) S.B.length })
structure Sn.wf (S : Sn) : Prop where
  lc : S.C.length = S.B.length
  lt : S.T.length = S.B.length
  la : S.A.length = S.B.length
  ale : ∀ j, S.A.getD j 0 ≤ S.now
theorem getD_set_le (l : List Nat) (i v j n : Nat) (h : l.getD j 0 ≤ n) (hv : v ≤ n) : (l.set i v).getD j 0 ≤ n := by
  simp only [List.getD_eq_getElem?_getD, List.getElem?_set] at h ⊢
  split
  · split
    · simpa using hv
    · simp
  · exact h
theorem getD_set_self (l : List Nat) (i v : Nat) (h : i < l.length) : (l.set i v).getD i 0 = v := by simp [List.getD_eq_getElem?_getD, h]
theorem getD_set_ne (l : List Nat) (i v j : Nat) (h : i ≠ j) : (l.set i v).getD j 0 = l.getD j 0 := by simp [List.getD_eq_getElem?_getD, h]
theorem Sn.wf.step {S : Sn} (h : S.wf) : S.step.wf := ⟨h.lc, h.lt, h.la, fun j => Nat.le_succ_of_le (h.ale j)⟩
theorem Sn.due_lt (S : Sn) : ∀ i ∈ S.due, i < S.B.length := by
  intro i hi
  unfold Sn.due missB at hi
  rw [List.mem_filter, List.mem_filter, List.mem_range] at hi
  exact hi.1.1
theorem Sn.due_nodup (S : Sn) : S.due.Nodup := List.Pairwise.filter _ (nodup_miss _ _ _ _)
theorem Sn.mem_due (S : Sn) (i : Nat) : i ∈ S.due ↔ (i < S.B.length ∧ baseB S.B ≤ i ∧ i < baseB S.B + 8 ∧ S.B.getD i false = false) ∧ S.hold i = false := by
  unfold Sn.due missB missF
  rw [List.mem_filter, List.mem_filter, List.mem_range]
  simp only [Bool.and_eq_true, decide_eq_true_eq, Bool.not_eq_true']
  constructor
  · rintro ⟨⟨h1, ⟨h2, h3⟩, h4⟩, h5⟩; exact ⟨⟨h1, by omega, by omega, h4⟩, h5⟩
  · rintro ⟨⟨h1, h2, h3, h4⟩, h5⟩; exact ⟨⟨h1, ⟨by omega, by omega⟩, h4⟩, h5⟩
theorem Sn.sentL_snoc (S : Sn) (l : List Nat) (i : Nat) : S.sentL (l ++ [i]) = (S.sentL l).sent1 i := by unfold Sn.sentL; rw [List.foldl_append]; rfl
theorem Sn.sentL_cons (S : Sn) (i : Nat) (l : List Nat) : S.sentL (i :: l) = (S.sent1 i).sentL l := rfl
theorem Sn.sentL_same (l : List Nat) : ∀ S : Sn, (S.sentL l).ses = S.ses ∧ (S.sentL l).ep = S.ep ∧ (S.sentL l).C = S.C ∧ (S.sentL l).B = S.B ∧ (S.sentL l).now = S.now ∧ (S.sentL l).lost = S.lost ∧ (S.sentL l).T.length = S.T.length ∧ (S.sentL l).A.length = S.A.length := by
  induction l with
  | nil => intro S; exact ⟨rfl, rfl, rfl, rfl, rfl, rfl, rfl, rfl⟩
  | cons i l ih =>
    intro S
    rw [Sn.sentL_cons]
    obtain ⟨h1, h2, h3, h4, h5, h6, h7, h8⟩ := ih (S.sent1 i)
    exact ⟨h1, h2, h3, h4, h5, h6, by rw [h7]; simp [Sn.sent1], by rw [h8]; simp [Sn.sent1]⟩
theorem Sn.sentL_T (l : List Nat) (i : Nat) : ∀ S : Sn, i ∉ l → (S.sentL l).T.getD i 0 = S.T.getD i 0 ∧ (S.sentL l).A.getD i 0 = S.A.getD i 0 := by
  induction l with
  | nil => intro S _; exact ⟨rfl, rfl⟩
  | cons k l ih =>
    intro S h
    rw [List.mem_cons, not_or] at h
    rw [Sn.sentL_cons]
    obtain ⟨h1, h2⟩ := ih (S.sent1 k) h.2
    rw [h1, h2]
    exact ⟨getD_set_ne _ _ _ _ (Ne.symm h.1), getD_set_ne _ _ _ _ (Ne.symm h.1)⟩
theorem Sn.sentL_in (l : List Nat) (i : Nat) : ∀ S : Sn, l.Nodup → i ∈ l → i < S.T.length → i < S.A.length → (S.sentL l).T.getD i 0 = S.T.getD i 0 + 1 ∧ (S.sentL l).A.getD i 0 = S.now := by
  induction l with
  | nil => intro S _ h; simp at h
  | cons k l ih =>
    intro S hn h h1 h2
    rw [List.nodup_cons] at hn
    rw [Sn.sentL_cons]
    by_cases e : i = k
    · subst e
      obtain ⟨q1, q2⟩ := Sn.sentL_T l i (S.sent1 i) hn.1
      rw [q1, q2]
      exact ⟨getD_set_self _ _ _ h1, getD_set_self _ _ _ h2⟩
    · obtain ⟨q1, q2⟩ := ih (S.sent1 k) hn.2 (by simpa [e] using h) (by simp [Sn.sent1, h1]) (by simp [Sn.sent1, h2])
      rw [q1, q2]
      exact ⟨by rw [show (S.sent1 k).T.getD i 0 = S.T.getD i 0 from getD_set_ne _ _ _ _ (Ne.symm e)], rfl⟩
theorem Sn.wf.sent1 {S : Sn} (h : S.wf) (i : Nat) : (S.sent1 i).wf := ⟨h.lc, by simp [Sn.sent1, h.lt], by simp [Sn.sent1, h.la], fun j => getD_set_le _ _ _ _ _ (h.ale j) (Nat.le_refl _)⟩
theorem Sn.wf.sentL {S : Sn} (l : List Nat) : ∀ {S : Sn}, S.wf → (S.sentL l).wf := by
  induction l with
  | nil => intro S h; exact h
  | cons i l ih => intro S h; rw [Sn.sentL_cons]; exact ih (h.sent1 i)
end Go.Proofs.Ytcmgmdgeimmbeaa
