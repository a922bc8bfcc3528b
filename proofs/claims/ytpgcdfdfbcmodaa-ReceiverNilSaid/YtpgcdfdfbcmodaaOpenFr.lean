/- A frame that comes in, opened. -/
import Derived.Test.YtpgcdfdfbcmodaaOpenSl
import Derived.Test.YtpgcdfdfbcmodaaFrameWalk
namespace Go.Proofs.Ytpgcdfdfbcmodaa
open Go.ChangeShapes Go.WideShapes Go.RowKit
set_option linter.unusedVariables false
set_option linter.unusedSimpArgs false
theorem open_fr {H : Type} {enc : TypeId × Value → H} {P : Program} {W : World} {base : Nat} {sp : Nat → Bool} {held : Bool} {r : Reach} {b0 : Nat} {t : TypeId} {f0 f1 f2 f3 f4 f5 : Field} {v : Value} {d : DataW H} {p : List MemPlace} (ht : P.underlying t = some (.struct #[f0, f1, f2, f3, f4, f5])) (hc : P.cellsOf t = 6)
    (h0 : P.underlying f0.type = some (.int .i64)) (h1 : P.underlying f1.type = some (.int .i64)) (h2 : P.underlying f2.type = some (.int .i64)) (h3 : P.underlying f3.type = some (.int .i64)) (h4 : P.underlying f4.type = some (.int .i64)) (h5 : P.underlying f5.type = some .string)
    (o0 : f0.offset = 0) (o1 : f1.offset = 1) (o2 : f2.offset = 2) (o3 : f3.offset = 3) (o4 : f4.offset = 4) (o5 : f5.offset = 5)
    (hok : Value.okWide P W r b0 t v) (h : DataW.Trod enc P W base sp held t v d p) : ∃ f : Fr, v = f.val := by
  obtain ⟨cs, rfl, hsz⟩ := okWide_struct ht hok
  rw [hc] at hsz
  obtain ⟨fuel, hf⟩ := h
  obtain ⟨m0, z0, a0⟩ := field_of ht hf 0 f0 rfl
  obtain ⟨m1, z1, a1⟩ := field_of ht hf 1 f1 rfl
  obtain ⟨m2, z2, a2⟩ := field_of ht hf 2 f2 rfl
  obtain ⟨m3, z3, a3⟩ := field_of ht hf 3 f3 rfl
  obtain ⟨m4, z4, a4⟩ := field_of ht hf 4 f4 rfl
  obtain ⟨m5, z5, a5⟩ := field_of ht hf 5 f5 rfl
  obtain ⟨x0, b0, -⟩ := DataW.trod_int h0 a0
  obtain ⟨x1, b1, -⟩ := DataW.trod_int h1 a1
  obtain ⟨x2, b2, -⟩ := DataW.trod_int h2 a2
  obtain ⟨x3, b3, -⟩ := DataW.trod_int h3 a3
  obtain ⟨x4, b4, -⟩ := DataW.trod_int h4 a4
  obtain ⟨x5, b5, -⟩ := DataW.trod_string h5 a5
  have hl : (Value.agg cs).cells = cs := by simp [Value.cells]
  rw [hl] at b0 b1 b2 b3 b4 b5
  have gt : ∀ (i n : Nat) (u : Value), (cs.toList.drop i).take n = [u] → cs[i]? = some u := by
    intro i n u e
    have := congrArg (·[0]?) e
    simp only [List.getElem?_take, List.getElem?_drop] at this
    split at this <;> simp_all
  rw [o0] at b0; rw [o1] at b1; rw [o2] at b2; rw [o3] at b3; rw [o4] at b4; rw [o5] at b5
  refine ⟨⟨x0, x1, x2, x3, x4, x5⟩, ?_⟩
  unfold Fr.val
  congr 1
  apply Array.ext_getElem?
  intro i
  match i with
  | 0 => exact gt _ _ _ b0
  | 1 => exact gt _ _ _ b1
  | 2 => exact gt _ _ _ b2
  | 3 => exact gt _ _ _ b3
  | 4 => exact gt _ _ _ b4
  | 5 => exact gt _ _ _ b5
  | i + 6 => rw [Array.getElem?_eq_none (by omega), Array.getElem?_eq_none (by simp)]
end Go.Proofs.Ytpgcdfdfbcmodaa
