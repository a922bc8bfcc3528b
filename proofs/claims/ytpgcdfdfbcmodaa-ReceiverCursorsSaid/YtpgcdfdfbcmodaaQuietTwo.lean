/- In a region that makes memory: a call that knows of two things that were made. -/
import Derived.Test.YtpgcdfdfbcmodaaQuietMade
namespace Go.Proofs.Ytpgcdfdfbcmodaa.Lib
open Go Go.RowKit Go.Sort
section
variable {P : Program} {ops : Array Oper} {md : Region.Mode} {made : Nat → Option (Value → World → Prop)}
variable {w : World} {Lq : Act → (Nat → World → Prop) → Prop} {o : Oper} {l : List Oper} {k : Nat} {a : Act} {r : Nat → World → Prop}
theorem wpML_call2 {f : FuncId} {args : Array Value} {v : Value} (p1 p2 : Nat) (R1 R2 : World → Prop) (hk : made k = none) (hw1 : waitsB md o p1 = true) (hw2 : waitsB md o p2 = true) (hR1 : ∀ w, r p1 w → R1 w) (hR2 : ∀ w, r p2 w → R2 w) (hwt : Region.wanted o (yielded ops a.tmps) = true)
    (hc : ∀ w', R1 w' → R2 w' → Calls P f args w' fun e w'' => e = .returned v ∧ Grows w' w'') (hrun : ∀ w', (execOp a.eval o).run P w' = .ok (.enter f args) w') (hni : NoInit P f)
    (h : wpML P md ops (Behind w) made Lq l (k + 1) (a.put o.dst v) r) : wpML P md ops (Behind w) made Lq (o :: l) k a r := by
  unfold wpML opM
  rw [hk]
  refine ⟨v, .inl ⟨hwt, fun w' hD => ?_⟩, h⟩
  rw [hrun w']
  exact ⟨rfl, hni, hc w' (hR1 _ (Dk.knows hw1 hD)) (hR2 _ (Dk.knows hw2 hD))⟩
end
end Go.Proofs.Ytpgcdfdfbcmodaa.Lib
