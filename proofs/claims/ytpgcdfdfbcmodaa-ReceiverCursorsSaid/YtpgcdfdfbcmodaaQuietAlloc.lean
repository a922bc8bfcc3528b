/- A region that draws its order, of which one operation makes memory and waits for nothing in particular, the others up to a chain of last ones leave the world as it is: walked once, in the order of the text. -/
import Derived.StillTailTactics
import Derived.Test.YtpgcdfdfbcmodaaLib
namespace Go.Proofs.Ytpgcdfdfbcmodaa.Lib
open Go
section
variable {P : Program} {ops : Array Oper} {md : Region.Mode} {W0 W1 : World} {p : Nat}
/-- What operation k yields, in whichever of both worlds; the one that makes memory goes from the first to the second. -/
def YY (P : Program) (ops : Array Oper) (W0 W1 : World) (p k : Nat) (o : Oper) (v : Value) (a : Act) : Prop :=
  if k = p then Region.wanted o (yielded ops a.tmps) = true ∧ (execOp a.eval o).run P W0 = .ok (.value v) W1
  else YieldsAt P ops W0 o v a ∧ YieldsAt P ops W1 o v a
theorem YY.of_same {k : Nat} {o : Oper} {v : Value} {a a' : Act} (hy : YY P ops W0 W1 p k o v a) (he : execOp a'.eval o = execOp a.eval o)
    (hw : Region.wanted o (yielded ops a'.tmps) = Region.wanted o (yielded ops a.tmps)) : YY P ops W0 W1 p k o v a' := by
  unfold YY at *
  split at hy
  · rename_i h; rw [if_pos h, he, hw]; exact hy
  · rename_i h; rw [if_neg h]; exact ⟨hy.1.of_same he hw, hy.2.of_same he hw⟩
def wpY (P : Program) (md : Region.Mode) (ops : Array Oper) (W0 W1 : World) (p n : Nat) (L : Array Bool → Act → Prop) : Nat → Array Bool → Act → Prop
  | 0, listed, a => L listed a
  | f + 1, listed, a =>
    Region.ready md ops listed ≠ [] ∧ ∀ i ∈ Region.ready md ops listed, i < n ∧ ∃ o v, ops[i]? = some o ∧ YY P ops W0 W1 p i o v a ∧
      wpY P md ops W0 W1 p n L f (listed.setIfInBounds i true) (a.put o.dst v)
theorem YY.put {j : Nat} {oi oj : Oper} {v u : Value} {a : Act} (hap : oi.apart ops oj = true)
    (hsj : ∀ cs b, oj.op ≠ .select cs b) (h : YY P ops W0 W1 p j oj u (a.put oi.dst v)) : YY P ops W0 W1 p j oj u a := by
  obtain ⟨h1, h2, h3⟩ := Oper.apart_spec hap
  exact h.of_same (execOp_put oj hsj a oi.dst v h1).symm (wanted_put oj a oi.dst v h1).symm
theorem YY.keep {i : Nat} {oi oj : Oper} {v u : Value} {a : Act} (hap : oi.apart ops oj = true)
    (hsi : ∀ cs b, oi.op ≠ .select cs b) (h : YY P ops W0 W1 p i oi v a) : YY P ops W0 W1 p i oi v (a.put oj.dst u) := by
  obtain ⟨h1, h2, h3⟩ := Oper.apart_spec hap
  exact h.of_same (execOp_put oi hsi a oj.dst u h3) (wanted_put oi a oj.dst u h3)
theorem wpY_first {n i : Nat} {oi : Oper} {v : Value} {L : Array Bool → Act → Prop} (hi : ops[i]? = some oi) (hsel : ∀ (j : Nat) (o : Oper) cs b, ops[j]? = some o → o.op ≠ .select cs b)
    (hs : Region.sinkB md ops n = true) (hc : Region.chainB md ops n = true) (hn : n < ops.size) (hin : i < n)
    (hdone : ∀ listed a, L listed a → ∀ j ∈ Region.ready md ops listed, n ≤ j) :
    ∀ (f : Nat) (listed : Array Bool) (a : Act), HeadInv md ops n listed →
      (∀ j oj, ops[j]? = some oj → j ≠ i → listed.getD j true = false → (∀ e ∈ oj.after, Region.binds md e = true → e.on ≠ i) → oi.apart ops oj = true) →
      i ∈ Region.ready md ops listed → YY P ops W0 W1 p i oi v a →
      wpY P md ops W0 W1 p n L f (listed.setIfInBounds i true) (a.put oi.dst v) → wpY P md ops W0 W1 p n L (f + 1) listed a := by
  intro f
  induction f with
  | zero =>
    intro listed a inv _ hr hy H
    have hun := (mem_ready.1 hr).1
    refine ⟨fun h => (by rw [h] at hr; cases hr), fun j hj => ?_⟩
    have hjn : j < n := by
      rcases Nat.lt_or_ge j n with h | h
      · exact h
      · exact absurd hj (tail_waits hs hc hn inv _ i rfl hin hun j h)
    refine ⟨hjn, ?_⟩
    by_cases hji : j = i
    · subst hji; exact ⟨oi, v, hi, hy, H⟩
    · have := hdone _ _ H j (ready_mono hj hji)
      omega
  | succ f ih =>
    intro listed a inv hfree hr hy H
    have hun := (mem_ready.1 hr).1
    refine ⟨fun h => (by rw [h] at hr; cases hr), fun j hj => ?_⟩
    have hjn : j < n := by
      rcases Nat.lt_or_ge j n with h | h
      · exact h
      · exact absurd hj (tail_waits hs hc hn inv _ i rfl hin hun j h)
    refine ⟨hjn, ?_⟩
    by_cases hji : j = i
    · subst hji; exact ⟨oi, v, hi, hy, H⟩
    · obtain ⟨_, oj, u, hoj, hyj, h1⟩ := H.2 j (ready_mono hj hji)
      obtain ⟨hjun, oj', hoj', hall⟩ := mem_ready.1 hj
      have : oj' = oj := Option.some.inj (hoj'.symm.trans hoj)
      subst this
      have hnot : ∀ e ∈ oj'.after, Region.binds md e = true → e.on ≠ i := fun e he hb heq => by
        have h1 := hall e he hb
        rw [heq, getD_both hun] at h1
        cases h1
      have hap := hfree j oj' hoj hji hjun hnot
      have hfree' : ∀ k ok, ops[k]? = some ok → k ≠ i → (listed.setIfInBounds j true).getD k true = false →
          (∀ e ∈ ok.after, Region.binds md e = true → e.on ≠ i) → oi.apart ops ok = true := fun k ok hk hki hun hno => by
        refine hfree k ok hk hki ?_ hno
        by_cases hjk : j = k
        · subst hjk; exact hjun
        · rw [getD_set_ne true hjk] at hun; exact hun
      refine ⟨oj', u, hoj, YY.put hap (fun cs b => hsel j oj' cs b hoj) hyj, ?_⟩
      refine ih (listed.setIfInBounds j true) _ (inv.set hj hjn) hfree' (ready_mono hr (Ne.symm hji)) (YY.keep hap (fun cs b => hsel i oi cs b hi) hy) ?_
      rw [Array.setIfInBounds_comm _ _ hji, ← Act.put_comm a v u (Oper.apart_spec hap).2.1]
      exact h1
theorem upon_of_yields {o : Oper} {v : Value} {a : Act} {W : World} {K : Act → World → Prop} {Q : Exit → Act → World → Prop} {i : Nat} (hi : ops[i]? = some o)
    (hy : YieldsAt P ops W o v a) (h : K (a.put o.dst v) W) : wpOp P ops Q i K a W :=
  wpOp_of_stOp (K := fun a' => K a' W) (fun _ h => h) (hy.stOp hi h)
theorem wpAny_of_Y {n g : Nat} {L : Array Bool → Act → Prop} {Q' : Exit → Act → World → Prop} (hpn : p < ops.size)
    (hL : ∀ listed a, L listed a → listed.getD p false = true ∧ wpAny P md ops Q' g listed a W1) :
    ∀ (f : Nat) (listed : Array Bool) (a : Act), listed.size = ops.size → wpY P md ops W0 W1 p n L f listed a →
      wpAny P md ops Q' (f + g) listed a (if listed.getD p false then W1 else W0) := by
  intro f
  induction f with
  | zero =>
    intro listed a _ h
    obtain ⟨h1, h2⟩ := hL _ _ h
    rw [Nat.zero_add, h1]; exact h2
  | succ f ih =>
    intro listed a hsz h
    rw [show f + 1 + g = (f + g) + 1 by omega]
    refine ⟨fun h0 => absurd h0 h.1, fun i hi => ?_⟩
    obtain ⟨_, o, v, ho, hy, hK⟩ := h.2 i hi
    have hK' := ih _ _ (by simpa using hsz) hK
    have hun := (mem_ready.1 hi).1
    unfold YY at hy
    by_cases hip : i = p
    · subst hip
      rw [if_pos rfl] at hy
      rw [getD_both hun]
      rw [show (listed.setIfInBounds i true).getD i false = true by simp [hsz, hpn]] at hK'
      simp only [Bool.false_eq_true, if_false, if_true] at hK' ⊢
      unfold wpOp
      simp only [ho, hy.1, if_true]
      refine .inl ?_
      unfold Oper.wp
      rw [hy.2]
      exact hK'
    · rw [if_neg hip] at hy
      rw [getD_set_ne false hip] at hK'
      refine upon_of_yields ho ?_ hK'
      split
      · exact hy.2
      · exact hy.1
/-- The walk, in the order of the text. -/
def wpYL (P : Program) (ops : Array Oper) (W0 W1 : World) (p : Nat) (Lq : Act → Prop) : List Oper → Nat → Act → Prop
  | [], _, a => Lq a
  | o :: l, k, a => ∃ v, YY P ops W0 W1 p k o v a ∧ wpYL P ops W0 W1 p Lq l (k + 1) (a.put o.dst v)
theorem wpY_lex {n g : Nat} {Lq : Act → Prop} (hsel : Region.noSelect ops = true) (hs : Region.sinkB md ops n = true) (hc : Region.chainB md ops n = true) (hn : n < ops.size) (hp : p < n) :
    ∀ (l : List Oper) (k : Nat) (listed : Array Bool) (a : Act), (∀ j, j < l.length → l[j]? = ops[k + j]?) → k + l.length = n → HeadInv md ops n listed →
    (p < k → listed.getD p false = true) →
    Region.lexHead md ops g l.length k listed = true → wpYL P ops W0 W1 p Lq l k a →
    wpY P md ops W0 W1 p n (fun listed' a' => (listed'.getD p false = true ∧ Region.seqB md ops g n listed' = true) ∧ Lq a') l.length listed a := by
  intro l
  induction l with
  | nil =>
    intro k listed a hl hk inv hpk hB h
    have hk' : k = n := by simpa using hk
    subst hk'
    exact ⟨⟨hpk hp, by simpa [Region.lexHead] using hB⟩, h⟩
  | cons o l ih =>
    intro k listed a hl hk inv hpk hB h
    have h0 : ops[k]? = some o := by simpa using (hl 0 (by simp)).symm
    simp only [List.length_cons, Region.lexHead, Bool.and_eq_true] at hB
    obtain ⟨⟨hr, hf⟩, hB'⟩ := hB
    have hkn : k < n := by simp only [List.length_cons] at hk; omega
    have hr' : k ∈ Region.ready md ops listed := by simpa using hr
    obtain ⟨v, hy, hK⟩ := h
    refine wpY_first h0 (Region.noSelect_spec hsel) hs hc hn hkn (fun listed' a' hL => seqB_ready hL.1.2) l.length listed a inv (Region.free_spec h0 hf) hr' hy ?_
    refine ih (k + 1) _ _ (fun j hj => by have := hl (j + 1) (by simp; omega); simpa [Nat.add_assoc, Nat.add_comm 1 j] using this) (by simp only [List.length_cons] at hk; omega) (inv.set hr' hkn) (fun hpk1 => ?_) hB' hK
    by_cases hkp : k = p
    · subst hkp
      simp [inv.size]; omega
    · rw [getD_set_ne false hkp]; exact hpk (by omega)
theorem wp_region_make_tail {id : Nat} {Q : Exit → Act → World → Prop} {a : Act} {w : World} {l : List Oper} (p n : Nat) (W1 : World) (hm : P.follows .mixedOrders = true) (hp : p < n) (hB : Region.lexTailB .any l.toArray n = true)
    (h : wpYL P l.toArray w.drew W1 p (fun a' => wpList P l.toArray Q (l.drop n) a' W1) (l.take n) 0 a) : (Code.region id l.toArray true).wp P Q a w := by
  simp only [Region.lexTailB, Bool.and_eq_true, decide_eq_true_eq] at hB
  obtain ⟨⟨⟨⟨hsel, hn⟩, hs⟩, hc⟩, hlex⟩ := hB
  have hn' : n < l.length := by simpa using hn
  have htl : (l.take n).length = n := by simp; omega
  have hdl : (l.drop n).length = l.toArray.size - n := by simp
  have inv0 : HeadInv .any l.toArray n (Array.replicate l.toArray.size false) :=
    ⟨by simp, fun j oj _ hl => (by rw [getD_replicate_false] at hl; cases hl), fun t _ ht => getD_in (by simpa using ht) (getD_replicate_false _ _)⟩
  have H := wpY_lex (md := .any) (g := l.toArray.size - n) hsel hs hc hn hp (l.take n) 0 _ a (fun j hj => by
    have hj' : j < n := by rw [htl] at hj; exact hj
    simp [hj']) (by simpa using htl) inv0 (fun h => absurd h (by omega)) (by rw [htl]; exact hlex) h
  refine wp_region_any hm ?_
  have := wpAny_of_Y (P := P) (md := .any) (ops := l.toArray) (Q' := Q) (g := l.toArray.size - n) (by omega) (fun listed a' hL => by
    have := wpAny_of_seq (md := .any) (Q' := Q) (l.drop n) n listed a' W1 (fun j => by simp [List.getElem?_drop]) (by rw [hdl]; exact hL.1.2) hL.2
    exact ⟨hL.1.1, by rwa [hdl] at this⟩) _ _ _ inv0.size H
  rw [htl, show n + (l.toArray.size - n) = l.toArray.size by omega, getD_replicate_false] at this
  exact this
/-- An operation's outcome in both worlds. -/
def twoUpon (P : Program) (o : Oper) (a : Act) (W0 W1 : World) (next : Act → Prop) : Result Next → Result Next → Prop
  | .ok (.value v) w0, .ok (.value v') w1 => w0 = W0 ∧ w1 = W1 ∧ v' = v ∧ next (a.put o.dst v)
  | .ok .skip w0, .ok .skip w1 => w0 = W0 ∧ w1 = W1 ∧ next (a.put o.dst undef)
  | .ok (.enter f args) w0, .ok (.enter f' args') w1 => w0 = W0 ∧ w1 = W1 ∧ f' = f ∧ args' = args ∧ ∃ v, (Calls P f args W0 (fun e w'' => e = .returned v ∧ w'' = W0) ∧ Calls P f args W1 (fun e w'' => e = .returned v ∧ w'' = W1)) ∧ next (a.put o.dst v)
  | _, _ => False
theorem twoUpon_value (o : Oper) (a : Act) (next : Act → Prop) (v v' : Value) : twoUpon P o a W0 W1 next (.ok (.value v) W0) (.ok (.value v') W1) = (v' = v ∧ next (a.put o.dst v)) := by simp [twoUpon]
theorem twoUpon_skip (o : Oper) (a : Act) (next : Act → Prop) : twoUpon P o a W0 W1 next (.ok .skip W0) (.ok .skip W1) = next (a.put o.dst undef) := by simp [twoUpon]
theorem twoUpon_enter (o : Oper) (a : Act) (next : Act → Prop) (f f' : FuncId) (args args' : Array Value) : twoUpon P o a W0 W1 next (.ok (.enter f args) W0) (.ok (.enter f' args') W1) =
    (f' = f ∧ args' = args ∧ ∃ v, (Calls P f args W0 (fun e w'' => e = .returned v ∧ w'' = W0) ∧ Calls P f args W1 (fun e w'' => e = .returned v ∧ w'' = W1)) ∧ next (a.put o.dst v)) := by simp [twoUpon]
def two (P : Program) (ops : Array Oper) (o : Oper) (a : Act) (W0 W1 : World) (next : Act → Prop) : Prop :=
  if Region.wanted o (yielded ops a.tmps) then twoUpon P o a W0 W1 next ((execOp a.eval o).run P W0) ((execOp a.eval o).run P W1) else next (a.put o.dst undef)
theorem yields_of_two {o : Oper} {a : Act} {K : Act → Prop} (h : two P ops o a W0 W1 K) : ∃ v, (YieldsAt P ops W0 o v a ∧ YieldsAt P ops W1 o v a) ∧ K (a.put o.dst v) := by
  unfold two at h
  by_cases hw : Region.wanted o (yielded ops a.tmps) = true
  · simp only [hw, if_true] at h
    generalize h0 : (execOp a.eval o).run P W0 = r0 at h
    generalize h1 : (execOp a.eval o).run P W1 = r1 at h
    unfold twoUpon at h
    split at h
    · obtain ⟨rfl, rfl, rfl, h2⟩ := h
      exact ⟨_, ⟨.inl ⟨hw, .inl h0⟩, .inl ⟨hw, .inl h1⟩⟩, h2⟩
    · obtain ⟨rfl, rfl, h2⟩ := h
      exact ⟨_, ⟨.inl ⟨hw, .inr (.inl ⟨h0, rfl⟩)⟩, .inl ⟨hw, .inr (.inl ⟨h1, rfl⟩)⟩⟩, h2⟩
    · obtain ⟨rfl, rfl, rfl, rfl, v, ⟨hc0, hc1⟩, h2⟩ := h
      exact ⟨_, ⟨.inl ⟨hw, .inr (.inr ⟨_, _, h0, hc0⟩)⟩, .inl ⟨hw, .inr (.inr ⟨_, _, h1, hc1⟩)⟩⟩, h2⟩
    · exact h.elim
  · simp only [hw] at h
    exact ⟨undef, ⟨.inr ⟨by simpa using hw, rfl⟩, .inr ⟨by simpa using hw, rfl⟩⟩, h⟩
theorem wpYL_step {Lq : Act → Prop} {o : Oper} {l : List Oper} {k : Nat} {a : Act} (hk : k ≠ p)
    (h : ∀ K : Act → Prop, (∀ a', wpYL P ops W0 W1 p Lq l (k + 1) a' → K a') → two P ops o a W0 W1 K) : wpYL P ops W0 W1 p Lq (o :: l) k a := by
  obtain ⟨v, hy, hK⟩ := yields_of_two (h _ (fun _ h => h))
  exact ⟨v, by unfold YY; rw [if_neg hk]; exact hy, hK⟩
theorem wpYL_make {Lq : Act → Prop} {o : Oper} {l : List Oper} {k : Nat} {a : Act} {v : Value} (hk : k = p) (hw : Region.wanted o (yielded ops a.tmps) = true)
    (he : (execOp a.eval o).run P W0 = .ok (.value v) W1) (h : wpYL P ops W0 W1 p Lq l (k + 1) (a.put o.dst v)) : wpYL P ops W0 W1 p Lq (o :: l) k a :=
  ⟨v, by unfold YY; rw [if_pos hk]; exact ⟨hw, he⟩, h⟩
theorem wpYL_nil {Lq : Act → Prop} {k : Nat} {a : Act} (h : Lq a) : wpYL P ops W0 W1 p Lq [] k a := h
end
end Go.Proofs.Ytpgcdfdfbcmodaa.Lib
