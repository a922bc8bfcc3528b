/- Resumed from its own cursor a receiver is what it was: no program in sight. -/
import Derived.Test.YtpgcdfdfbcmodaaRecLawC
namespace Go.Proofs.Ytpgcdfdfbcmodaa
set_option linter.unusedVariables false
set_option linter.unusedSimpArgs false
/-- What of a receiver is there behind its first j chunks. -/
def Rv.mid (R : Rv) (n j : Nat) : Rv := ⟨R.ses, R.ep, R.B.take j ++ List.replicate (n - j) false, R.C.take j ++ List.replicate (n - j) ⟨#[]⟩, fun _ => 0, 0⟩
def Rv.fresh (R : Rv) : Rv := { R with D := fun _ => 0, cnt := 0 }
theorem Rv.mid_all (R : Rv) (n : Nat) (hb : R.B.length = n) (hc : R.C.length = n) : R.mid n n = R.fresh := by
  simp [Rv.mid, Rv.fresh, List.take_of_length_le, hb, hc]
theorem Rv.mid_none (R : Rv) (n : Nat) : R.mid n 0 = Rv.start R.ses R.ep n := by simp [Rv.mid, Rv.start]
theorem take_rep {α} (l : List α) (d x : α) (n j : Nat) (hl : l.length = n) (hj : j < n) (hx : l.getD j d = x) : (l.take j ++ List.replicate (n - j) d).set j x = l.take (j + 1) ++ List.replicate (n - (j + 1)) d := by
  subst hl
  have h1 : l[j]? = some x := by rw [List.getD_eq_getElem?_getD, List.getElem?_eq_getElem hj] at hx; rw [List.getElem?_eq_getElem hj]; simpa using hx
  have h2 : l.length - j = (l.length - (j + 1)) + 1 := by omega
  rw [h2, List.replicate_succ, List.set_append_right _ _ (by simp; omega), List.length_take, Nat.min_eq_left (by omega), Nat.sub_self, List.set_cons_zero, List.take_add_one, h1]
  simp
theorem Rv.mid_put (R : Rv) (n j : Nat) (hb : R.B.length = n) (hc : R.C.length = n) (hj : j < n) (h : R.B.getD j false = true) : (R.mid n j).put j (R.C.getD j ⟨#[]⟩) = R.mid n (j + 1) := by
  unfold Rv.put Rv.mid
  simp only [Rv.mk.injEq, true_and, and_true]
  exact ⟨take_rep R.B false true n j hb hj h, take_rep R.C ⟨#[]⟩ _ n j hc hj rfl⟩
theorem Rv.mid_skip (R : Rv) (n j : Nat) (hb : R.B.length = n) (hc : R.C.length = n) (hj : j < n) (h : R.B.getD j false = false) (hR : R.bare) : R.mid n j = R.mid n (j + 1) := by
  have h1 := take_rep R.B false false n j hb hj h
  have h2 := take_rep R.C ⟨#[]⟩ ⟨#[]⟩ n j hc hj (hR j h)
  unfold Rv.mid
  rw [← h1, ← h2]
  simp only [Rv.mk.injEq, true_and, and_true]
  have e1 : (R.B.take j ++ List.replicate (n - j) false)[j]? = some false := by
    rw [List.getElem?_append_right (by simp; omega), List.length_take, Nat.min_eq_left (by omega), Nat.sub_self, List.getElem?_replicate, if_pos (by omega)]
  have e2 : (R.C.take j ++ List.replicate (n - j) (⟨#[]⟩ : ByteArray))[j]? = some ⟨#[]⟩ := by
    rw [List.getElem?_append_right (by simp; omega), List.length_take, Nat.min_eq_left (by omega), Nat.sub_self, List.getElem?_replicate, if_pos (by omega)]
  constructor
  · apply List.ext_getElem?
    intro i
    rw [List.getElem?_set]
    split
    · next hi => subst hi; rw [e1]; split <;> first | rfl | (next hh => simp at hh; omega)
    · rfl
  · apply List.ext_getElem?
    intro i
    rw [List.getElem?_set]
    split
    · next hi => subst hi; rw [e2]; split <;> first | rfl | (next hh => simp at hh; omega)
    · rfl
theorem done_nil : doneR [] 0 = 0 := by decide
theorem resGo_tail (R : Rv) (hw : R.wf) (hR : R.bare) (n : Nat) (hn : n ≤ 256) (hb : R.B.length = n) : ∀ (m j k : Nat) (la : Int), j + m = n → la < j → m < k → resGo k (R.mid n j) n la (R.tailL n m j) = (some R.fresh, 0)
  | 0, j, k, la, h, hl, hk => by
    obtain ⟨k, rfl⟩ : ∃ k', k = k' + 1 := ⟨k - 1, by omega⟩
    obtain rfl : j = n := by omega
    have hu := uintR_num j (by omega) []
    rw [List.append_nil] at hu
    rw [resGo, Rv.tailL, hu]
    simp only [ne_eq, not_true_eq_false, if_false, if_true, done_nil]
    rw [R.mid_all j hb (hw.lc.trans hb)]
  | m + 1, j, k, la, h, hl, hk => by
    cases hB : R.B.getD j false with
    | false =>
      rw [Rv.tailL, ent_no hB, List.nil_append, R.mid_skip n j hb (hw.lc.trans hb) (by omega) hB hR]
      exact resGo_tail R hw hR n hn hb m (j + 1) k la (by omega) (by omega) (by omega)
    | true =>
      obtain ⟨k, rfl⟩ : ∃ k', k = k' + 1 := ⟨k - 1, by omega⟩
      have ih := resGo_tail R hw hR n hn hb m (j + 1) k j (by omega) (by omega) (by omega)
      have hu := uintR_num j (by omega) (numL (R.C.getD j ⟨#[]⟩).size ++ ((R.C.getD j ⟨#[]⟩).data.toList ++ R.tailL n m (j + 1)))
      have ht := text_num (R.C.getD j ⟨#[]⟩) (R.cs_at hw j) (R.tailL n m (j + 1))
      rw [resGo, Rv.tailL, ent_yes hB, List.append_assoc, List.append_assoc, hu]
      simp only [ne_eq, not_true_eq_false, if_false]
      rw [if_neg (by omega), if_neg (by omega), if_neg (by omega), ht]
      simp only [not_true_eq_false, if_false]
      rw [show bstr (R.C.getD j ⟨#[]⟩).data.toList = R.C.getD j ⟨#[]⟩ from rfl, R.mid_put n j hb (hw.lc.trans hb) (by omega) hB]
      exact ih
theorem resR_curL (R : Rv) (hw : R.wf) (hR : R.bare) (n : Nat) (h1 : 1 ≤ n) (hn : n ≤ 256) (hb : R.B.length = n) : resR R.curL = (some R.fresh, 0) := by
  obtain ⟨S, hS⟩ : ∃ S : Nat, R.ses = S := ⟨R.ses.toNat, by have := hw.s0; omega⟩
  obtain ⟨E, hE⟩ : ∃ E : Nat, R.ep = E := ⟨R.ep.toNat, by have := hw.e0; omega⟩
  have hS1 : S < 4294967296 := by have := hw.s1; omega
  have hE1 : E < 4294967296 := by have := hw.e1; omega
  have hg := resGo_tail R hw hR n hn hb n 0 257 (-1) (by omega) (by omega) (by omega)
  have ht := R.tail_cur n n 0 (by omega)
  have hz : R.curC 0 = [] := rfl
  rw [hz, List.nil_append] at ht
  rw [ht, R.mid_none, hS, hE] at hg
  have hsm : ∀ x : Nat, x < 4294967296 → sm x = x := fun x hx => Nat.min_eq_left (by omega)
  rw [R.curL_eq, hS, hE, hb, Int.toNat_natCast, Int.toNat_natCast]
  unfold resR
  rw [uintR_num S (by omega)]
  simp only
  rw [uintR_num E (by omega)]
  simp only
  rw [uintR_num n (by omega)]
  simp only [ne_eq, not_true_eq_false, if_false]
  rw [hsm S hS1, hsm E hE1, hsm n (by omega)]
  rw [if_neg (by simp [mayR]; omega)]
  exact hg
/-- Two receivers of one cursor, with n chunks, which have seen j frames. -/
structure TwoR (n j : Nat) (X Y : Rv) : Prop where
  wx : X.wf
  wy : Y.wf
  s : Y.ses = X.ses
  e : Y.ep = X.ep
  B : Y.B = X.B
  C : Y.C = X.C
  l : X.B.length = n
  b : X.bare
  cx : X.cnt ≤ j
  cy : Y.cnt ≤ j
  dx : ∀ e, X.D e ≤ j
  dy : ∀ e, Y.D e ≤ j
theorem wf_start (n : Nat) : (Rv.start 1 2 n).wf := ⟨by simp [Rv.start], by simp [Rv.start], by simp [Rv.start], by simp [Rv.start], by simp [Rv.start], fun c hc => by simp [Rv.start] at hc; rw [hc.2]; decide⟩
theorem two_start (n : Nat) : TwoR n 0 (Rv.start 1 2 n) (Rv.start 1 2 n) := ⟨wf_start n, wf_start n, rfl, rfl, rfl, rfl, by simp [Rv.start], bare_start _ _ _, Nat.le_refl _, Nat.le_refl _, fun _ => Nat.le_refl _, fun _ => Nat.le_refl _⟩
theorem wrong_same {X Y : Rv} (hs : Y.ses = X.ses) (he : Y.ep = X.ep) (hB : Y.B = X.B) (f : Fr) : Y.wrong f = X.wrong f := by unfold Rv.wrong; rw [hs, he, hB]
theorem TwoR.take {n j : Nat} {X Y : Rv} (h : TwoR n j X Y) (f : Fr) : (Y.take f).1 = (X.take f).1 ∧ TwoR n (j + 1) (X.take f).2 (Y.take f).2 := by
  have hw := wrong_same h.s h.e h.B f
  have hX := take_D X f j h.cx h.dx
  have hY := take_D Y f j h.cy h.dy
  have wX := Rv.take_wf h.wx f
  have wY := Rv.take_wf h.wy f
  have bX := bare_take h.b f
  by_cases hz : X.wrong f = 0
  · rw [take_good X f hz] at *
    rw [take_good Y f (hw.trans hz)] at *
    exact ⟨rfl, wX, wY, h.s, h.e, by show Y.B.set _ _ = X.B.set _ _; rw [h.B], by show Y.C.set _ _ = X.C.set _ _; rw [h.C], by show (X.B.set _ _).length = n; rw [List.length_set]; exact h.l, bX, hX.1, hY.1, hX.2, hY.2⟩
  · rw [take_bad X f hz] at *
    rw [take_bad Y f (by rw [hw]; exact hz)] at *
    exact ⟨hw, wX, wY, h.s, h.e, h.B, h.C, h.l, bX, hX.1, hY.1, hX.2, hY.2⟩
theorem TwoR.fresh {n j : Nat} {X Y : Rv} (h : TwoR n j X Y) : TwoR n j X Y.fresh :=
  ⟨h.wx, ⟨h.wy.s0, h.wy.s1, h.wy.e0, h.wy.e1, h.wy.lc, h.wy.cs⟩, h.s, h.e, h.B, h.C, h.l, h.b, h.cx, Nat.zero_le _, h.dx, fun _ => Nat.zero_le _⟩
theorem cur_same {X Y : Rv} (hs : Y.ses = X.ses) (he : Y.ep = X.ep) (hB : Y.B = X.B) (hC : Y.C = X.C) : Y.curL = X.curL := by unfold Rv.curL; rw [hs, he, hB, hC]
theorem TwoR.res {n j : Nat} {X Y : Rv} (h : TwoR n j X Y) (h1 : 1 ≤ n) (hn : n ≤ 256) : resR X.curL = (some X.fresh, 0) ∧ resR Y.curL = (some Y.fresh, 0) := by
  have hb : Y.bare := fun i => by rw [h.B, h.C]; exact h.b i
  exact ⟨resR_curL X h.wx h.b n h1 hn h.l, resR_curL Y h.wy hb n h1 hn (by rw [h.B]; exact h.l)⟩
theorem TwoR.tells {n j : Nat} {X Y : Rv} (h : TwoR n j X Y) : Y.curL = X.curL ∧ Y.fresh.curL = X.curL ∧ dS Y = dS X ∧ dE Y = dE X :=
  ⟨cur_same h.s h.e h.B h.C, cur_same h.s h.e h.B h.C, by unfold dS; rw [h.B, h.C], by unfold dE; rw [h.B]⟩
end Go.Proofs.Ytpgcdfdfbcmodaa
