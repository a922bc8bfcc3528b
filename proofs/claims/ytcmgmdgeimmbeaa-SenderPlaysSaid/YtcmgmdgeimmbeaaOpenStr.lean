/- A slice of texts that comes in, opened as a list, with its length's bound. -/
import Derived.Test.YtcmgmdgeimmbeaaOpenSl
namespace Go.Proofs.Ytcmgmdgeimmbeaa
open Go.ChangeShapes Go.WideShapes Go.RowKit
set_option linter.unusedVariables false
theorem slice_len {H : Type} {enc : TypeId × Value → H} {P : Program} {W : World} {base : Nat} {sp : Nat → Bool} {held : Bool} {t e : TypeId} {ad : Option Addr} {n cap : Nat} {d : DataW H} {p : List MemPlace} (ht : P.underlying t = some (.slice e)) (h : DataW.Trod enc P W base sp held t (.slice ad n cap) d p) : n ≤ maxLen := by
  obtain ⟨fuel, hf⟩ := h
  rcases Go.Deep.open_slice ht hf with ⟨h1, -⟩ | ⟨a, len, cp, m, k, D, Pl, h1, hb, hl, hm, hmm, -, hx⟩
  · simp only [Value.cells, List.cons.injEq, Value.slice.injEq] at h1
    omega
  · simp only [Value.cells, List.cons.injEq, Value.slice.injEq] at h1
    obtain ⟨⟨rfl, rfl, rfl⟩, -⟩ := h1
    omega
theorem open_strs2 {H : Type} {enc : TypeId × Value → H} {P : Program} {W : World} {base : Nat} {sp : Nat → Bool} {held : Bool} {r : Reach} {b0 : Nat} {t e : TypeId} {v : Value} {d : DataW H} {p : List MemPlace} (ht : P.underlying t = some (.slice e)) (he : P.underlying e = some .string) (hc : P.cellsOf e = 1) (hok : Value.okWide P W r b0 t v) (h : DataW.Trod enc P W base sp held t v d p) :
    ∃ xs : List ByteArray, ∃ ad cap, v = .slice ad xs.length cap ∧ xs.length ≤ maxLen ∧ (xs ≠ [] → ∃ g o, ad = some ⟨g, o, none⟩ ∧ ∀ (j : Nat) x, xs[j]? = some x → W.cell? ⟨g, o + j, none⟩ = some (.string x)) := by
  obtain ⟨xs, ad, cap, rfl, hx⟩ := open_strs ht he hc hok h
  exact ⟨xs, ad, cap, rfl, slice_len ht h, hx⟩
end Go.Proofs.Ytcmgmdgeimmbeaa
