/- Slices of bytes that come in, opened as lists. -/
import Derived.Test.YtpgcdfdfbcmodaaOpenSl
namespace Go.Proofs.Ytpgcdfdfbcmodaa
open Go.ChangeShapes Go.WideShapes Go.RowKit
set_option linter.unusedVariables false
theorem open_u8s {H : Type} {enc : TypeId × Value → H} {P : Program} {W : World} {base : Nat} {sp : Nat → Bool} {held : Bool} {r : Reach} {b0 : Nat} {t e : TypeId} {v : Value} {d : DataW H} {p : List MemPlace} (ht : P.underlying t = some (.slice e)) (he : P.underlying e = some (.int .u8)) (hc : P.cellsOf e = 1) (hok : Value.okWide P W r b0 t v) (h : DataW.Trod enc P W base sp held t v d p) :
    ∃ xs : List Nat, ∃ ad cap, v = .slice ad xs.length cap ∧ (∀ (j : Nat) x, xs[j]? = some x → x < 256) ∧ (xs ≠ [] → ∃ g o, ad = some ⟨g, o, none⟩ ∧ ∀ (j : Nat) x, xs[j]? = some x → W.cell? ⟨g, o + j, none⟩ = some (.int .u8 (x : Int))) ∧ (xs.length = 0 ∨ ∃ el sp, d = .slice el sp ∧ el.length = xs.length) := by
  have hd : ∀ ad n cap, v = .slice ad n cap → n = 0 ∨ ∃ el sp, d = .slice el sp ∧ el.length = n := by
    intro ad n cap hv
    obtain ⟨fuel, hf⟩ := h
    subst hv
    rcases Go.Deep.open_slice ht hf with ⟨h1, -⟩ | ⟨a, len, cp, m, k, D, Pl, h1, -, -, -, -, h2, -⟩
    · simp only [Value.cells, List.cons.injEq, Value.slice.injEq] at h1
      exact Or.inl h1.1.2.1
    · simp only [Value.cells, List.cons.injEq, Value.slice.injEq] at h1
      obtain ⟨⟨-, rfl, -⟩, -⟩ := h1
      exact Or.inr ⟨_, _, (Prod.mk.inj h2).1, by simp⟩
  obtain ⟨ad, n, cap, rfl, hx⟩ := open_elems ht hok h (by rw [hc]; omega)
  by_cases hn : 0 < n
  · obtain ⟨g, o, rfl, hx2⟩ := hx hn
    obtain ⟨l, hl, hq⟩ := list_of (fun j (x : Nat) => x < 256 ∧ W.cell? ⟨g, o + j, none⟩ = some (.int .u8 (x : Int))) n fun j hj => by
      obtain ⟨cs, y, k, h1, h2, h3⟩ := hx2 j hj
      obtain ⟨s, rfl, -, hw⟩ := DataW.trod_int he h3
      have := h2 0 (by rw [hc]; omega)
      rw [hc, Nat.mul_one, Nat.add_zero] at this
      obtain ⟨b0, b1⟩ := bounds_u8 hw
      obtain ⟨m, rfl⟩ := Int.eq_ofNat_of_zero_le b0
      exact ⟨m, by omega, this⟩
    subst hl
    exact ⟨l, _, cap, rfl, fun j x h => (hq j x h).1, fun _ => ⟨g, o, rfl, fun j x h => (hq j x h).2⟩, hd _ _ _ rfl⟩
  · obtain rfl : n = 0 := by omega
    exact ⟨[], ad, cap, rfl, by simp, fun e => absurd rfl e, Or.inl rfl⟩
end Go.Proofs.Ytpgcdfdfbcmodaa
