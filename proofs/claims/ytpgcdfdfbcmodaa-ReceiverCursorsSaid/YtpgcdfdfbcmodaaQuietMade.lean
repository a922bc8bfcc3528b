/- A region that draws its order, of which some operations make memory (or call what makes memory) and hand back what they made; what waits for them may know of it; the last operations, behind n, follow one another: walked once, in the order of the text. -/
import Derived.StillTailTactics
import Derived.Lib.QuietBelow
import Derived.Deep.QuietTactic
namespace Go.Proofs.Ytpgcdfdfbcmodaa.Lib
open Go Go.RowKit Go.Sort
/-- Two contracts on one call speak of one end. -/
theorem Calls_agree {P : Program} {f : FuncId} {args : Array Value} {w : World} {v v' : Value} {R R' : World → Prop}
    (h : Calls P f args w fun e w' => e = .returned v ∧ R w') (h' : Calls P f args w fun e w' => e = .returned v' ∧ R' w') (hi : P.inits.idxOf? f = none) : v = v' := by
  obtain ⟨n, u, w1, e1, r1⟩ := Calls.done (R := fun u _ => u = v) (h.mono fun e w' ⟨he, _⟩ => by subst he; rfl) hi
  obtain ⟨m, u', w2, e2, r2⟩ := Calls.done (R := fun u _ => u = v') (h'.mono fun e w' ⟨he, _⟩ => by subst he; rfl) hi
  have a := runN_ended e1 m
  have b := runN_ended e2 n
  rw [Nat.add_comm, a] at b
  injection b with ho hw
  injection ho with hv
  rw [← r1, ← r2, hv]
def Grows (w w' : World) : Prop := Below w.heap.size w w'
theorem Grows.refl (w : World) : Grows w w := Below.refl _ _
theorem Grows.trans {w w1 w2 : World} (h : Grows w w1) (k : Grows w1 w2) : Grows w w2 :=
  Below.trans h ⟨k.os, k.tape, k.output, k.size, fun j hj => k.block j (Nat.lt_of_lt_of_le hj h.size)⟩
theorem Grows.alloc (w : World) (o : Obj) : Grows w (w.alloc o) := (Below.refl w.heap.size w).alloc (Nat.le_refl _) o
section
variable {P : Program} {ops : Array Oper} {md : Region.Mode} {C : World → Prop} {made : Nat → Option (Value → World → Prop)}
/-- No starting function. -/
def NoInit (P : Program) (f : FuncId) : Prop := P.inits.idxOf? f = none
theorem noInit {P : Program} {f : FuncId} (h : P.inits.idxOf? f = none) : NoInit P f := h
/-- One value, whatever world. -/
def upG (P : Program) (w : World) (v : Value) : Result Next → Prop
  | .ok (.value u) w' => w' = w ∧ u = v
  | .ok .skip w' => w' = w ∧ v = undef
  | .ok (.enter f args) w' => w' = w ∧ NoInit P f ∧ Calls P f args w (fun e w'' => e = .returned v ∧ Grows w w'')
  | _ => False
/-- A value that goes with its world. -/
def upM (P : Program) (w : World) (Post : Value → World → Prop) : Result Next → Prop
  | .ok (.value u) w' => Grows w w' ∧ Post u w'
  | .ok (.enter f args) w' => w' = w ∧ Calls P f args w (fun e w'' => ∃ u, e = .returned u ∧ Grows w w'' ∧ Post u w'')
  | _ => False
/-- The worlds in which an operation may come up. -/
def Dk (md : Region.Mode) (C : World → Prop) (r : Nat → World → Prop) (o : Oper) (w : World) : Prop := C w ∧ ∀ e ∈ o.after, Region.binds md e = true → r e.on w
def upd (r : Nat → World → Prop) (k : Nat) (R : World → Prop) : Nat → World → Prop := fun j w => r j w ∧ (j = k → R w)
theorem upd_comm (r : Nat → World → Prop) (i j : Nat) (A B : World → Prop) : upd (upd r i A) j B = upd (upd r j B) i A := by
  funext k w; apply propext; simp only [upd]; constructor <;> (rintro ⟨⟨h1, h2⟩, h3⟩; exact ⟨⟨h1, h3⟩, h2⟩)
theorem Dk.upd_iff {r : Nat → World → Prop} {k : Nat} {R : World → Prop} {o : Oper} (h : ∀ e ∈ o.after, Region.binds md e = true → e.on ≠ k) (w : World) : Dk md C (upd r k R) o w ↔ Dk md C r o w := by
  unfold Dk upd
  constructor
  · rintro ⟨h1, h2⟩; exact ⟨h1, fun e he hb => (h2 e he hb).1⟩
  · rintro ⟨h1, h2⟩; exact ⟨h1, fun e he hb => ⟨h2 e he hb, fun hh => absurd hh (h e he hb)⟩⟩
def YG (P : Program) (ops : Array Oper) (D : World → Prop) (o : Oper) (v : Value) (a : Act) : Prop :=
  (Region.wanted o (yielded ops a.tmps) = true ∧ ∀ w, D w → upG P w v ((execOp a.eval o).run P w)) ∨ (Region.wanted o (yielded ops a.tmps) = false ∧ v = undef)
def MG (P : Program) (ops : Array Oper) (D : World → Prop) (o : Oper) (Post : Value → World → Prop) (a : Act) : Prop :=
  Region.wanted o (yielded ops a.tmps) = true ∧ ∀ w, D w → upM P w Post ((execOp a.eval o).run P w)
theorem YG.of_same {D D' : World → Prop} {o : Oper} {v : Value} {a a' : Act} (hy : YG P ops D o v a) (hD : ∀ w, D' w → D w) (he : execOp a'.eval o = execOp a.eval o)
    (hw : Region.wanted o (yielded ops a'.tmps) = Region.wanted o (yielded ops a.tmps)) : YG P ops D' o v a' := by
  unfold YG at *
  rw [he, hw]
  rcases hy with ⟨h1, h2⟩ | h
  · exact .inl ⟨h1, fun w h => h2 w (hD w h)⟩
  · exact .inr h
theorem MG.of_same {D D' : World → Prop} {o : Oper} {Post : Value → World → Prop} {a a' : Act} (hy : MG P ops D o Post a) (hD : ∀ w, D' w → D w) (he : execOp a'.eval o = execOp a.eval o)
    (hw : Region.wanted o (yielded ops a'.tmps) = Region.wanted o (yielded ops a.tmps)) : MG P ops D' o Post a' := by
  unfold MG at *
  rw [he, hw]
  exact ⟨hy.1, fun w h => hy.2 w (hD w h)⟩
theorem YG.agree {D : World → Prop} {o : Oper} {u v : Value} {a : Act} {w : World} (hw : D w) (h : YG P ops D o u a) (k : YG P ops D o v a) : u = v := by
  rcases h with ⟨h1, h2⟩ | ⟨h1, h2⟩ <;> rcases k with ⟨k1, k2⟩ | ⟨k1, k2⟩
  · have x := h2 w hw
    have y := k2 w hw
    generalize (execOp a.eval o).run P w = r at x y
    cases r with
    | ok n w' =>
      cases n <;> simp only [upG] at x y
      case value => rw [← x.2, ← y.2]
      case skip => rw [x.2, y.2]
      case enter => exact Calls_agree x.2.2 y.2.2 x.2.1
    | halt => exact x.elim
  · rw [h1] at k1; cases k1
  · rw [h1] at k1; cases k1
  · rw [h2, k2]
theorem MG.inh {D : World → Prop} {o : Oper} {Post : Value → World → Prop} {a : Act} {w : World} (h : MG P ops D o Post a) (hw : D w) : ∃ v w', Grows w w' ∧ Post v w' := by
  have x := h.2 w hw
  generalize (execOp a.eval o).run P w = r at x
  cases r with
  | ok n w' =>
    cases n <;> simp only [upM] at x
    case value => exact ⟨_, _, x⟩
    case enter =>
      obtain ⟨_, hc⟩ := x
      obtain ⟨e, w2, fr, ⟨u, _, h2⟩, _⟩ := hc []
      exact ⟨u, w2, h2⟩
  | halt => exact x.elim
def opM (P : Program) (md : Region.Mode) (ops : Array Oper) (C : World → Prop) (made : Nat → Option (Value → World → Prop)) (k : Nat) (o : Oper) (a : Act) (r : Nat → World → Prop) (K : Act → (Nat → World → Prop) → Prop) : Prop :=
  match made k with
  | none => ∃ v, YG P ops (Dk md C r o) o v a ∧ K (a.put o.dst v) r
  | some Post => MG P ops (Dk md C r o) o Post a ∧ ∀ v, (∃ w, (C w ∧ ∀ j, r j w) ∧ Post v w) → K (a.put o.dst v) (upd r k (Post v))
def wpM (P : Program) (md : Region.Mode) (ops : Array Oper) (C : World → Prop) (made : Nat → Option (Value → World → Prop)) (n : Nat) (L : Array Bool → Act → (Nat → World → Prop) → Prop) : Nat → Array Bool → Act → (Nat → World → Prop) → Prop
  | 0, listed, a, r => L listed a r
  | f + 1, listed, a, r =>
    Region.ready md ops listed ≠ [] ∧ ∀ i ∈ Region.ready md ops listed, i < n ∧ ∃ o, ops[i]? = some o ∧ opM P md ops C made i o a r (wpM P md ops C made n L f (listed.setIfInBounds i true))
/-- What is known stays so. -/
def Stab (r : Nat → World → Prop) : Prop := ∀ j w w', r j w → Grows w w' → r j w'
def StabP (made : Nat → Option (Value → World → Prop)) : Prop := ∀ k Post, made k = some Post → ∀ v w w', Post v w → Grows w w' → Post v w'
theorem Stab.upd {r : Nat → World → Prop} (h : Stab r) (hm : StabP made) {k : Nat} {Post : Value → World → Prop} (hk : made k = some Post) (v : Value) : Stab (upd r k (Post v)) :=
  fun j w w' ⟨h1, h2⟩ hg => ⟨h j w w' h1 hg, fun e => hm k Post hk v w w' (h2 e) hg⟩
theorem wpAny_of_M {n g : Nat} {L : Array Bool → Act → (Nat → World → Prop) → Prop} {Q' : Exit → Act → World → Prop} (hC : ∀ w w', C w → Grows w w' → C w') (hm : StabP made)
    (hL : ∀ listed a r w, C w → (∀ j, r j w) → L listed a r → wpAny P md ops Q' g listed a w) :
    ∀ (f : Nat) (listed : Array Bool) (a : Act) (r : Nat → World → Prop) (w : World), C w → (∀ j, r j w) → Stab r → wpM P md ops C made n L f listed a r → wpAny P md ops Q' (f + g) listed a w := by
  intro f
  induction f with
  | zero => intro listed a r w hw hr _ h; rw [Nat.zero_add]; exact hL _ _ _ _ hw hr h
  | succ f ih =>
    intro listed a r w hw hr hs h
    rw [show f + 1 + g = (f + g) + 1 by omega]
    refine ⟨fun h0 => absurd h0 h.1, fun i hi => ?_⟩
    obtain ⟨_, o, ho, hop⟩ := h.2 i hi
    have hD : Dk md C r o w := ⟨hw, fun e _ _ => hr _⟩
    unfold opM at hop
    unfold wpOp
    simp only [ho]
    split at hop
    · obtain ⟨v, hy, hK⟩ := hop
      rcases hy with ⟨h1, h2⟩ | ⟨h1, rfl⟩
      · simp only [h1, if_true]
        refine .inl ?_
        have x := h2 w hD
        unfold Oper.wp
        generalize (execOp a.eval o).run P w = q at x
        cases q with
        | ok nx w' =>
          cases nx <;> simp only [upG] at x <;> simp only [Oper.upon]
          case value u => obtain ⟨e1, e2⟩ := x; rw [e1, e2]; exact ih _ _ _ _ hw hr hs hK
          case skip => obtain ⟨e1, e2⟩ := x; rw [e1, ← e2]; exact ih _ _ _ _ hw hr hs hK
          case enter f args =>
            obtain ⟨e1, _, hc⟩ := x
            rw [e1]
            exact hc.mono fun e w'' ⟨he, hg⟩ => by subst he; exact ih _ _ _ _ (hC _ _ hw hg) (fun j => hs j _ _ (hr j) hg) hs hK
        | halt => exact x.elim
      · simp only [h1, Bool.false_eq_true, if_false]
        exact ih _ _ _ _ hw hr hs hK
    · rename_i Post hk
      obtain ⟨⟨h1, h2⟩, hK⟩ := hop
      simp only [h1, if_true]
      refine .inl ?_
      have x := h2 w hD
      unfold Oper.wp
      generalize (execOp a.eval o).run P w = q at x
      cases q with
      | ok nx w' =>
        cases nx <;> simp only [upM] at x <;> simp only [Oper.upon]
        case value u =>
          obtain ⟨hg, hp⟩ := x
          have hr' := fun j => hs j _ _ (hr j) hg
          exact ih _ _ _ _ (hC _ _ hw hg) (fun j => ⟨hr' j, fun _ => hp⟩) (hs.upd hm hk _) (hK u ⟨w', ⟨hC _ _ hw hg, hr'⟩, hp⟩)
        case enter f args =>
          obtain ⟨e1, hc⟩ := x
          rw [e1]
          refine hc.mono fun e w'' ⟨u, he, hg, hp⟩ => ?_
          subst he
          have hr' := fun j => hs j _ _ (hr j) hg
          exact ih _ _ _ _ (hC _ _ hw hg) (fun j => ⟨hr' j, fun _ => hp⟩) (hs.upd hm hk _) (hK u ⟨w'', ⟨hC _ _ hw hg, hr'⟩, hp⟩)
      | halt => exact x.elim
theorem wpM_first {n i : Nat} {oi : Oper} {L : Array Bool → Act → (Nat → World → Prop) → Prop} (hC : ∀ w w', C w → Grows w w' → C w') (hm : StabP made) (hi : ops[i]? = some oi) (hsel : ∀ (j : Nat) (o : Oper) cs b, ops[j]? = some o → o.op ≠ .select cs b)
    (htw : ∀ listed, HeadInv md ops n listed → listed.getD i true = false → ∀ j, j ∈ Region.ready md ops listed → j < n) (hin : i < n)
    (hdone : ∀ listed a r, L listed a r → ∀ j ∈ Region.ready md ops listed, n ≤ j) :
    ∀ (f : Nat) (listed : Array Bool) (a : Act) (r : Nat → World → Prop), HeadInv md ops n listed →
      (∀ j oj, ops[j]? = some oj → j ≠ i → listed.getD j true = false → (∀ e ∈ oj.after, Region.binds md e = true → e.on ≠ i) → oi.apart ops oj = true) →
      i ∈ Region.ready md ops listed → (∃ w, C w ∧ ∀ j, r j w) → Stab r → opM P md ops C made i oi a r (wpM P md ops C made n L f (listed.setIfInBounds i true)) →
      wpM P md ops C made n L (f + 1) listed a r := by
  intro f
  induction f with
  | zero =>
    intro listed a r inv _ hr hne hs H
    have hun := (mem_ready.1 hr).1
    refine ⟨fun h => (by rw [h] at hr; cases hr), fun j hj => ?_⟩
    have hjn := htw listed inv hun j hj
    refine ⟨hjn, ?_⟩
    by_cases hji : j = i
    · subst hji; exact ⟨oi, hi, H⟩
    · exfalso
      have : ∃ a' r', L (listed.setIfInBounds i true) a' r' := by
        unfold opM at H
        split at H
        · obtain ⟨v, _, h⟩ := H; exact ⟨_, _, h⟩
        · obtain ⟨h1, h2⟩ := H
          obtain ⟨w, hw, hrw⟩ := hne
          obtain ⟨v, w', hg, hp⟩ := h1.inh (w := w) ⟨hw, fun e _ _ => hrw _⟩
          exact ⟨_, _, h2 v ⟨w', ⟨hC _ _ hw hg, fun j => hs j _ _ (hrw j) hg⟩, hp⟩⟩
      obtain ⟨a', r', hL⟩ := this
      have := hdone _ _ _ hL j (ready_mono hj hji)
      omega
  | succ f ih =>
    intro listed a r inv hfree hr hne hs H
    have hun := (mem_ready.1 hr).1
    refine ⟨fun h => (by rw [h] at hr; cases hr), fun j hj => ?_⟩
    have hjn := htw listed inv hun j hj
    refine ⟨hjn, ?_⟩
    by_cases hji : j = i
    · subst hji; exact ⟨oi, hi, H⟩
    · obtain ⟨hjun, oj, hoj, hall⟩ := mem_ready.1 hj
      obtain ⟨_, oi', hoi', halli⟩ := mem_ready.1 hr
      obtain rfl : oi' = oi := Option.some.inj (hoi'.symm.trans hi)
      have hnot : ∀ e ∈ oj.after, Region.binds md e = true → e.on ≠ i := fun e he hb heq => by
        have h1 := hall e he hb
        rw [heq, getD_both hun] at h1
        cases h1
      have hnoti : ∀ e ∈ oi'.after, Region.binds md e = true → e.on ≠ j := fun e he hb heq => by
        have h1 := halli e he hb
        rw [heq, getD_both hjun] at h1
        cases h1
      have hap := hfree j oj hoj hji hjun hnot
      obtain ⟨a1, a2, a3⟩ := Oper.apart_spec hap
      have hselj := fun cs b => hsel j oj cs b hoj
      have hseli := fun cs b => hsel i oi' cs b hi
      have hfree' : ∀ k ok, ops[k]? = some ok → k ≠ i → (listed.setIfInBounds j true).getD k true = false →
          (∀ e ∈ ok.after, Region.binds md e = true → e.on ≠ i) → oi'.apart ops ok = true := fun k ok hk hki hun hno => by
        refine hfree k ok hk hki ?_ hno
        by_cases hjk : j = k
        · subst hjk; exact hjun
        · rw [getD_set_ne true hjk] at hun; exact hun
      have hrj : i ∈ Region.ready md ops (listed.setIfInBounds j true) := ready_mono hr (Ne.symm hji)
      have hcm : (listed.setIfInBounds i true).setIfInBounds j true = (listed.setIfInBounds j true).setIfInBounds i true := Array.setIfInBounds_comm _ _ (Ne.symm hji)
      have hrji := ready_mono hj hji
      refine ⟨oj, hoj, ?_⟩
      -- what follows i, at j
      have back : ∀ v r', wpM P md ops C made n L (f + 1) (listed.setIfInBounds i true) (a.put oi'.dst v) r' →
          opM P md ops C made j oj (a.put oi'.dst v) r' (wpM P md ops C made n L f ((listed.setIfInBounds i true).setIfInBounds j true)) := fun v r' h => by
        obtain ⟨_, oj', hoj', h2⟩ := h.2 j hrji
        obtain rfl : oj' = oj := Option.some.inj (hoj'.symm.trans hoj)
        exact h2
      unfold opM at H
      split at H
      · rename_i hki
        obtain ⟨v, hy, hK⟩ := H
        have hj2 := back v r hK
        cases hkj : made j with
        | none =>
          simp only [opM, hkj] at hj2 ⊢
          obtain ⟨u, hyj, hKj⟩ := hj2
          refine ⟨u, hyj.of_same (fun _ h => h) (execOp_put oj hselj a oi'.dst v a1).symm (wanted_put oj a oi'.dst v a1).symm, ih _ _ _ (inv.set hj hjn) hfree' hrj hne hs ?_⟩
          unfold opM
          rw [hki]
          exact ⟨v, hy.of_same (fun _ h => h) (execOp_put oi' hseli a oj.dst u a3) (wanted_put oi' a oj.dst u a3), by rw [← hcm, ← Act.put_comm a v u a2]; exact hKj⟩
        | some Pj =>
          simp only [opM, hkj] at hj2 ⊢
          obtain ⟨hmj, hKj⟩ := hj2
          refine ⟨hmj.of_same (fun _ h => h) (execOp_put oj hselj a oi'.dst v a1).symm (wanted_put oj a oi'.dst v a1).symm, fun u hu => ih _ _ _ (inv.set hj hjn) hfree' hrj ?_ (hs.upd hm hkj u) ?_⟩
          · obtain ⟨w, ⟨h1, h2⟩, h3⟩ := hu
            exact ⟨w, h1, fun k => ⟨h2 k, fun _ => h3⟩⟩
          · unfold opM
            rw [hki]
            exact ⟨v, hy.of_same (fun w h => (Dk.upd_iff hnoti w).1 h) (execOp_put oi' hseli a oj.dst u a3) (wanted_put oi' a oj.dst u a3), by rw [← hcm, ← Act.put_comm a v u a2]; exact hKj u hu⟩
      · rename_i Pi hki
        obtain ⟨hmi, hK⟩ := H
        obtain ⟨w, hw, hrw⟩ := hne
        obtain ⟨v0, w1, hg, hp⟩ := hmi.inh (w := w) ⟨hw, fun e _ _ => hrw _⟩
        have hj0 := back v0 _ (hK v0 ⟨w1, ⟨hC _ _ hw hg, fun j => hs j _ _ (hrw j) hg⟩, hp⟩)
        cases hkj : made j with
        | none =>
          simp only [opM, hkj] at hj0 ⊢
          obtain ⟨u, hyj, _⟩ := hj0
          have hyj' : YG P ops (Dk md C r oj) oj u a := hyj.of_same (fun w h => (Dk.upd_iff hnot w).2 h) (execOp_put oj hselj a oi'.dst v0 a1).symm (wanted_put oj a oi'.dst v0 a1).symm
          refine ⟨u, hyj', ih _ _ _ (inv.set hj hjn) hfree' hrj ⟨w, hw, hrw⟩ hs ?_⟩
          unfold opM
          rw [hki]
          refine ⟨hmi.of_same (fun _ h => h) (execOp_put oi' hseli a oj.dst u a3) (wanted_put oi' a oj.dst u a3), fun v hv => ?_⟩
          have hjv := back v _ (hK v hv)
          unfold opM at hjv
          rw [hkj] at hjv
          obtain ⟨u2, hyj2, hKj2⟩ := hjv
          have hyj2' : YG P ops (Dk md C r oj) oj u2 a := hyj2.of_same (fun w h => (Dk.upd_iff hnot w).2 h) (execOp_put oj hselj a oi'.dst v a1).symm (wanted_put oj a oi'.dst v a1).symm
          obtain rfl := YG.agree (w := w) ⟨hw, fun e _ _ => hrw _⟩ hyj' hyj2'
          rw [← hcm, ← Act.put_comm a v u a2]
          exact hKj2
        | some Pj =>
          simp only [opM, hkj] at hj0 ⊢
          obtain ⟨hmj, _⟩ := hj0
          refine ⟨hmj.of_same (fun w h => (Dk.upd_iff hnot w).2 h) (execOp_put oj hselj a oi'.dst v0 a1).symm (wanted_put oj a oi'.dst v0 a1).symm, fun u hu => ih _ _ _ (inv.set hj hjn) hfree' hrj ?_ (hs.upd hm hkj u) ?_⟩
          · obtain ⟨w, ⟨h1, h2⟩, h3⟩ := hu
            exact ⟨w, h1, fun k => ⟨h2 k, fun _ => h3⟩⟩
          · unfold opM
            rw [hki]
            refine ⟨hmi.of_same (fun w h => (Dk.upd_iff hnoti w).1 h) (execOp_put oi' hseli a oj.dst u a3) (wanted_put oi' a oj.dst u a3), fun v hv => ?_⟩
            obtain ⟨w2, ⟨g1, g2⟩, g3⟩ := hv
            have hjv := back v _ (hK v ⟨w2, ⟨g1, fun k => (g2 k).1⟩, g3⟩)
            unfold opM at hjv
            rw [hkj] at hjv
            have := hjv.2 u ⟨w2, ⟨g1, fun k => ⟨(g2 k).1, fun _ => g3⟩⟩, (g2 j).2 rfl⟩
            rw [← hcm, ← Act.put_comm a v u a2, upd_comm]
            exact this
/-- The walk, in the order of the text. -/
def wpML (P : Program) (md : Region.Mode) (ops : Array Oper) (C : World → Prop) (made : Nat → Option (Value → World → Prop)) (Lq : Act → (Nat → World → Prop) → Prop) : List Oper → Nat → Act → (Nat → World → Prop) → Prop
  | [], _, a, r => Lq a r
  | o :: l, k, a, r => opM P md ops C made k o a r (wpML P md ops C made Lq l (k + 1))
theorem opM_mono {k : Nat} {o : Oper} {a : Act} {r : Nat → World → Prop} {K K' : Act → (Nat → World → Prop) → Prop} (hm : StabP made) (hne : ∃ w, C w ∧ ∀ j, r j w) (hs : Stab r)
    (h : ∀ a' r', (∃ w, C w ∧ ∀ j, r' j w) → Stab r' → K a' r' → K' a' r') (hh : opM P md ops C made k o a r K) : opM P md ops C made k o a r K' := by
  unfold opM at *
  split at hh
  · obtain ⟨v, h1, h2⟩ := hh
    exact ⟨v, h1, h _ _ hne hs h2⟩
  · rename_i Post hk
    obtain ⟨h1, h2⟩ := hh
    exact ⟨h1, fun v hv => h _ _ (by obtain ⟨w, ⟨g1, g2⟩, g3⟩ := hv; exact ⟨w, g1, fun j => ⟨g2 j, fun _ => g3⟩⟩) (hs.upd hm hk v) (h2 v hv)⟩
theorem wpM_lex {n g : Nat} {Lq : Act → (Nat → World → Prop) → Prop} (hC : ∀ w w', C w → Grows w w' → C w') (hm : StabP made) (hsel : Region.noSelect ops = true)
    (htw : ∀ i, i < n → ∀ listed, HeadInv md ops n listed → listed.getD i true = false → ∀ j, j ∈ Region.ready md ops listed → j < n) :
    ∀ (l : List Oper) (k : Nat) (listed : Array Bool) (a : Act) (r : Nat → World → Prop), (∀ j, j < l.length → l[j]? = ops[k + j]?) → k + l.length = n → HeadInv md ops n listed →
    (∃ w, C w ∧ ∀ j, r j w) → Stab r →
    Region.lexHead md ops g l.length k listed = true → wpML P md ops C made Lq l k a r →
    wpM P md ops C made n (fun listed' a' r' => Region.seqB md ops g n listed' = true ∧ Lq a' r') l.length listed a r := by
  intro l
  induction l with
  | nil =>
    intro k listed a r hl hk inv hne hs hB h
    have : k = n := by simpa using hk
    subst this
    exact ⟨by simpa [Region.lexHead] using hB, h⟩
  | cons o l ih =>
    intro k listed a r hl hk inv hne hs hB h
    have h0 : ops[k]? = some o := by simpa using (hl 0 (by simp)).symm
    simp only [List.length_cons, Region.lexHead, Bool.and_eq_true] at hB
    obtain ⟨⟨hr, hf⟩, hB'⟩ := hB
    have hkn : k < n := by simp only [List.length_cons] at hk; omega
    have hr' : k ∈ Region.ready md ops listed := by simpa using hr
    refine wpM_first hC hm h0 (Region.noSelect_spec hsel) (htw k hkn) hkn (fun listed' a' r' hL => seqB_ready hL.1) l.length listed a r inv (Region.free_spec h0 hf) hr' hne hs ?_
    exact opM_mono hm hne hs (fun a' r' hne' hs' hK => ih (k + 1) _ _ _ (fun j hj => by have := hl (j + 1) (by simp; omega); simpa [Nat.add_assoc, Nat.add_comm 1 j] using this) (by simp only [List.length_cons] at hk; omega) (inv.set hr' hkn) hne' hs' hB' hK) h
def lexMadeB (md : Region.Mode) (ops : Array Oper) (n : Nat) : Bool :=
  Region.noSelect ops && (decide (n = ops.size) || (decide (n < ops.size) && Region.sinkB md ops n && Region.chainB md ops n)) && Region.lexHead md ops (ops.size - n) n 0 (Array.replicate ops.size false)
/-- The class of the worlds that lie behind this one. -/
def Behind (w w' : World) : Prop := ∃ p : Regrown, w' = grow (redrawn w p.d) p.os
theorem Behind.below {w w' : World} (h : Behind w w') : Below w.heap.size w w' := by obtain ⟨p, rfl⟩ := h; exact below_regrown _ _ _
theorem Behind.grows (w w1 w2 : World) (h : Behind w w1) (k : Grows w1 w2) : Behind w w2 := regrown_of_below (Grows.trans h.below k)
theorem wp_region_made {id : Nat} {Q : Exit → Act → World → Prop} {a : Act} {w : World} {l : List Oper} (n : Nat) (made : Nat → Option (Value → World → Prop)) (hmx : P.follows .mixedOrders = true) (hB : lexMadeB .any l.toArray n = true) (hm : StabP made)
    (h : wpML P .any l.toArray (Behind w) made (fun a' r' => ∀ w', (∃ p : Regrown, w' = grow (redrawn w p.d) p.os) → (∀ j, r' j w') → wpList P l.toArray Q (l.drop n) a' w') (l.take n) 0 a (fun _ _ => True)) : (Code.region id l.toArray true).wp P Q a w := by
  simp only [lexMadeB, Bool.and_eq_true] at hB
  obtain ⟨⟨hsel, hnn⟩, hlex⟩ := hB
  have hnle : n ≤ l.length := by
    simp only [Bool.or_eq_true, decide_eq_true_eq, Bool.and_eq_true] at hnn
    rcases hnn with h | h
    · rw [h]; simp
    · have h1 := h.1.1; simp only [List.size_toArray] at h1; omega
  have htl : (l.take n).length = n := by simp; omega
  have hdl : (l.drop n).length = l.toArray.size - n := by simp
  have htw : ∀ i, i < n → ∀ listed, HeadInv .any l.toArray n listed → listed.getD i true = false → ∀ j, j ∈ Region.ready .any l.toArray listed → j < n := fun i hi listed inv hun j hj => by
    simp only [Bool.or_eq_true, decide_eq_true_eq, Bool.and_eq_true] at hnn
    rcases hnn with h | ⟨⟨h1, h2⟩, h3⟩
    · obtain ⟨_, oj, hoj, _⟩ := mem_ready.1 hj
      have := (Array.getElem?_eq_some_iff.1 hoj).1
      omega
    · rcases Nat.lt_or_ge j n with h | h
      · exact h
      · exact absurd hj (tail_waits h2 h3 h1 inv _ i rfl hi hun j h)
  have inv0 : HeadInv .any l.toArray n (Array.replicate l.toArray.size false) :=
    ⟨by simp, fun j oj _ hl => (by rw [getD_replicate_false] at hl; cases hl), fun t _ ht => getD_in (by simpa using ht) (getD_replicate_false _ _)⟩
  have hw0 : Behind w { w with drawn := w.drawn + 1 } := ⟨⟨w.drawn + 1, #[]⟩, by rw [grow_empty]; rfl⟩
  have H := wpM_lex (md := .any) (g := l.toArray.size - n) (Behind.grows w) hm hsel htw (l.take n) 0 _ a (fun _ _ => True) (fun j hj => by
    have hj' : j < n := by rw [htl] at hj; exact hj
    simp [hj']) (by simpa using htl) inv0 ⟨_, hw0, fun _ => trivial⟩ (fun _ _ _ _ _ => trivial) (by rw [htl]; exact hlex) h
  refine wp_region_any hmx ?_
  have := wpAny_of_M (Q' := Q) (g := l.toArray.size - n) (Behind.grows w) hm (fun listed a' r' w' hw' hr' hL => by
    have := wpAny_of_seq (md := .any) (Q' := Q) (l.drop n) n listed a' w' (fun j => by simp [List.getElem?_drop]) (by rw [hdl]; exact hL.1) (hL.2 w' hw' hr')
    rwa [hdl] at this) _ _ _ _ _ hw0 (fun _ => trivial) (fun _ _ _ _ _ => trivial) H
  have hsz : l.toArray.size = l.length := by simp
  rw [htl, show n + (l.toArray.size - n) = l.toArray.size by omega] at this
  exact this
/-! ### The steps -/
def detAt (P : Program) (ops : Array Oper) (D : World → Prop) (o : Oper) (a : Act) (K : Act → Prop) : Prop :=
  if Region.wanted o (yielded ops a.tmps) then ∃ v, (∀ w, D w → upG P w v ((execOp a.eval o).run P w)) ∧ K (a.put o.dst v) else K (a.put o.dst undef)
def makeAt (P : Program) (ops : Array Oper) (D : World → Prop) (o : Oper) (a : Act) (Post : Value → World → Prop) (K : Act → Value → Prop) : Prop :=
  if Region.wanted o (yielded ops a.tmps) then (∀ w, D w → upM P w Post ((execOp a.eval o).run P w)) ∧ ∀ v, K (a.put o.dst v) v else False
variable {w : World} {Lq : Act → (Nat → World → Prop) → Prop} {o : Oper} {l : List Oper} {k : Nat} {a : Act} {r : Nat → World → Prop}
theorem yields_of_detAt {D D' : World → Prop} {K : Act → Prop} (hD : ∀ w, D' w → D w) (h : detAt P ops D o a K) : ∃ v, YG P ops D' o v a ∧ K (a.put o.dst v) := by
  unfold detAt at h
  by_cases hw : Region.wanted o (yielded ops a.tmps) = true
  · simp only [hw, if_true] at h
    obtain ⟨v, h1, h2⟩ := h
    exact ⟨v, .inl ⟨hw, fun w h => h1 w (hD w h)⟩, h2⟩
  · simp only [hw] at h
    exact ⟨undef, .inr ⟨by simpa using hw, rfl⟩, h⟩
theorem wpML_step (hk : made k = none) (h : ∀ K : Act → Prop, (∀ a', wpML P md ops (Behind w) made Lq l (k + 1) a' r → K a') → detAt P ops (fun w' => ∃ p : Regrown, w' = grow (redrawn w p.d) p.os) o a K) :
    wpML P md ops (Behind w) made Lq (o :: l) k a r := by
  obtain ⟨v, hy, hK⟩ := yields_of_detAt (D' := Dk md (Behind w) r o) (fun w h => h.1) (h _ (fun _ h => h))
  unfold wpML opM
  rw [hk]
  exact ⟨v, hy, hK⟩
def waitsB (md : Region.Mode) (o : Oper) (p : Nat) : Bool := o.after.any fun e => Region.binds md e && decide (e.on = p)
theorem Dk.knows {C : World → Prop} {p : Nat} (hw : waitsB md o p = true) {w : World} (h : Dk md C r o w) : r p w := by
  have : ∃ e, e ∈ o.after ∧ (Region.binds md e && decide (e.on = p)) = true := by
    unfold waitsB at hw
    obtain ⟨i, hi, h⟩ := Array.any_eq_true.1 hw
    exact ⟨_, Array.getElem_mem hi, h⟩
  obtain ⟨e, he, hb⟩ := this
  simp only [Bool.and_eq_true, decide_eq_true_eq] at hb
  exact hb.2 ▸ h.2 e he hb.1
/-- An operation that knows of what it waits for. -/
theorem wpML_use (p : Nat) (R : World → Prop) (hk : made k = none) (hw : waitsB md o p = true) (hR : ∀ w, r p w → R w)
    (h : ∀ K : Act → Prop, (∀ a', wpML P md ops (Behind w) made Lq l (k + 1) a' r → K a') → detAt P ops (fun w' => (∃ p : Regrown, w' = grow (redrawn w p.d) p.os) ∧ R w') o a K) :
    wpML P md ops (Behind w) made Lq (o :: l) k a r := by
  obtain ⟨v, hy, hK⟩ := yields_of_detAt (D' := Dk md (Behind w) r o) (fun w h => ⟨h.1, hR w (Dk.knows hw h)⟩) (h _ (fun _ h => h))
  unfold wpML opM
  rw [hk]
  exact ⟨v, hy, hK⟩
theorem wpML_make {Post : Value → World → Prop} (hk : made k = some Post)
    (h : ∀ K : Act → Value → Prop, (∀ a' v, ((∃ w', Behind w w' ∧ Post v w') → wpML P md ops (Behind w) made Lq l (k + 1) a' (upd r k (Post v))) → K a' v) → makeAt P ops (fun w' => ∃ p : Regrown, w' = grow (redrawn w p.d) p.os) o a Post K) :
    wpML P md ops (Behind w) made Lq (o :: l) k a r := by
  have := h (fun a' v => (∃ w', Behind w w' ∧ Post v w') → wpML P md ops (Behind w) made Lq l (k + 1) a' (upd r k (Post v))) (fun _ _ h => h)
  unfold makeAt at this
  by_cases hw : Region.wanted o (yielded ops a.tmps) = true
  · simp only [hw, if_true] at this
    unfold wpML opM
    rw [hk]
    exact ⟨⟨hw, fun w h => this.1 w h.1⟩, fun v ⟨w', h1, h2⟩ => this.2 v ⟨w', h1.1, h2⟩⟩
  · simp only [hw] at this; exact this.elim
theorem wpML_nil (h : Lq a r) : wpML P md ops C made Lq [] k a r := h
theorem stabP_none : StabP (fun _ => none) := fun k Post h => by cases h
/-- A callee's contract that ends in 'Below'. -/
theorem Calls.grows_of {P : Program} {f : FuncId} {args : Array Value} {w : World} {v : Value} (h : Calls P f args w fun e w' => e = .returned v ∧ Below w.heap.size w w') : Calls P f args w fun e w'' => e = .returned v ∧ Grows w w'' := h
end
attribute [go_sem] detAt makeAt upG upM
end Go.Proofs.Ytpgcdfdfbcmodaa.Lib
