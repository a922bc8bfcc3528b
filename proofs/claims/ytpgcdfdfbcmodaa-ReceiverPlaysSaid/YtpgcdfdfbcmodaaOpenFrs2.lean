/- A slice of frames that comes in, opened as a list, with its size. -/
import Derived.Test.YtpgcdfdfbcmodaaOpenFrs
namespace Go.Proofs.Ytpgcdfdfbcmodaa
open Go.ChangeShapes Go.WideShapes Go.RowKit
set_option linter.unusedVariables false
theorem open_frs2 {H : Type} {enc : TypeId × Value → H} {P : Program} {W : World} {base : Nat} {sp : Nat → Bool} {held : Bool} {r : Reach} {b0 : Nat} {t e : TypeId} {f0 f1 f2 f3 f4 f5 : Field} {v : Value} {d : DataW H} {p : List MemPlace} (ht : P.underlying t = some (.slice e)) (he : P.underlying e = some (.struct #[f0, f1, f2, f3, f4, f5])) (hc : P.cellsOf e = 6)
    (h0 : P.underlying f0.type = some (.int .i64)) (h1 : P.underlying f1.type = some (.int .i64)) (h2 : P.underlying f2.type = some (.int .i64)) (h3 : P.underlying f3.type = some (.int .i64)) (h4 : P.underlying f4.type = some (.int .i64)) (h5 : P.underlying f5.type = some .string)
    (o0 : f0.offset = 0) (o1 : f1.offset = 1) (o2 : f2.offset = 2) (o3 : f3.offset = 3) (o4 : f4.offset = 4) (o5 : f5.offset = 5)
    (hok : Value.okWide P W r b0 t v) (h : DataW.Trod enc P W base sp held t v d p) : ∃ xs : List Fr, Frs W v xs ∧ (xs.length = 0 ∨ ∃ el sp, d = .slice el sp ∧ el.length = xs.length) := by
  have hd : ∀ ad n cap, v = .slice ad n cap → n = 0 ∨ ∃ el sp, d = .slice el sp ∧ el.length = n := by
    intro ad n cap hv
    obtain ⟨fuel, hf⟩ := h
    subst hv
    rcases Go.Deep.open_slice ht hf with ⟨h1, -⟩ | ⟨a, len, cp, m, k, D, Pl, h1, -, -, -, -, h2, -⟩
    · simp only [Value.cells, List.cons.injEq, Value.slice.injEq] at h1
      exact Or.inl h1.1.2.1
    · simp only [Value.cells, List.cons.injEq, Value.slice.injEq] at h1
      obtain ⟨⟨-, rfl, -⟩, -⟩ := h1
      exact Or.inr ⟨_, _, (Prod.mk.inj h2).1, by simp⟩
  obtain ⟨xs, hxs⟩ := open_frs ht he hc h0 h1 h2 h3 h4 h5 o0 o1 o2 o3 o4 o5 hok h
  refine ⟨xs, hxs, ?_⟩
  obtain ⟨ad, cap, e, -⟩ := hxs
  exact hd _ _ _ e
end Go.Proofs.Ytpgcdfdfbcmodaa
