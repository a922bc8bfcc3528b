/- Slices of 64-bit numbers that come in, opened as lists. -/
import Derived.Test.YtolkeibmllhacaaOpenSl
namespace Go.Proofs.Ytolkeibmllhacaa
open Go.ChangeShapes Go.WideShapes Go.RowKit
set_option linter.unusedVariables false
theorem open_nums {H : Type} {enc : TypeId × Value → H} {P : Program} {W : World} {base : Nat} {sp : Nat → Bool} {held : Bool} {r : Reach} {b0 : Nat} {t e : TypeId} {k0 : IntKind} {v : Value} {d : DataW H} {p : List MemPlace} (ht : P.underlying t = some (.slice e)) (he : P.underlying e = some (.int k0)) (hc : P.cellsOf e = 1) (hok : Value.okWide P W r b0 t v) (h : DataW.Trod enc P W base sp held t v d p) :
    ∃ xs : List Int, ∃ ad cap, v = .slice ad xs.length cap ∧ (∀ (j : Nat) x, xs[j]? = some x → (Lit.int k0 x).wf = true) ∧ (xs ≠ [] → ∃ g o, ad = some ⟨g, o, none⟩ ∧ ∀ (j : Nat) x, xs[j]? = some x → W.cell? ⟨g, o + j, none⟩ = some (.int k0 x)) := by
  obtain ⟨ad, n, cap, rfl, hx⟩ := open_elems ht hok h (by rw [hc]; omega)
  by_cases hn : 0 < n
  · obtain ⟨g, o, rfl, hx2⟩ := hx hn
    obtain ⟨l, hl, hq⟩ := list_of (fun j (x : Int) => (Lit.int k0 x).wf = true ∧ W.cell? ⟨g, o + j, none⟩ = some (.int k0 x)) n fun j hj => by
      obtain ⟨cs, y, k, h1, h2, h3⟩ := hx2 j hj
      obtain ⟨s, rfl, -, hw⟩ := DataW.trod_int he h3
      have := h2 0 (by rw [hc]; omega)
      rw [hc, Nat.mul_one, Nat.add_zero] at this
      exact ⟨s, hw, this⟩
    subst hl
    exact ⟨l, _, cap, rfl, fun j x h => (hq j x h).1, fun _ => ⟨g, o, rfl, fun j x h => (hq j x h).2⟩⟩
  · obtain rfl : n = 0 := by omega
    exact ⟨[], ad, cap, rfl, by simp, fun e => absurd rfl e⟩
end Go.Proofs.Ytolkeibmllhacaa
