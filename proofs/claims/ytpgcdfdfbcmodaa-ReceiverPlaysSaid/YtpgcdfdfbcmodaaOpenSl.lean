/- Slices that come in, opened as lists: of texts, of numbers, of structs. -/
import Derived.Test.YtpgcdfdfbcmodaaRows
import Derived.OpenShut
import Derived.Deep.Slices
import Derived.ChangeOld
namespace Go.Proofs.Ytpgcdfdfbcmodaa
open Go.ChangeShapes Go.WideShapes Go.RowKit
set_option linter.unusedVariables false
set_option linter.unusedSimpArgs false
theorem list_of {α : Type} (Q : Nat → α → Prop) : ∀ n, (∀ i, i < n → ∃ a, Q i a) → ∃ l : List α, l.length = n ∧ ∀ (j : Nat) x, l[j]? = some x → Q j x
  | 0, _ => ⟨[], rfl, by simp⟩
  | n + 1, h => by
    obtain ⟨l, hl, hq⟩ := list_of Q n fun i hi => h i (by omega)
    obtain ⟨a, ha⟩ := h n (by omega)
    refine ⟨l ++ [a], by simp [hl], fun j x hx => ?_⟩
    by_cases hj : j < l.length
    · rw [List.getElem?_append_left hj] at hx; exact hq j x hx
    · rw [List.getElem?_append_right (by omega)] at hx
      have e : j = n := by
        have := (List.getElem?_eq_some_iff.1 hx).1
        simp at this; omega
      subst e
      rw [hl, Nat.sub_self] at hx
      obtain rfl : a = x := by simpa using hx
      exact ha
theorem open_elems {H : Type} {enc : TypeId × Value → H} {P : Program} {W : World} {base : Nat} {sp : Nat → Bool} {held : Bool} {r : Reach} {b0 : Nat} {t e : TypeId} {v : Value} {d : DataW H} {p : List MemPlace} (ht : P.underlying t = some (.slice e)) (hok : Value.okWide P W r b0 t v) (h : DataW.Trod enc P W base sp held t v d p) (h0 : 0 < P.cellsOf e) :
    ∃ ad n cap, v = .slice ad n cap ∧ (0 < n → ∃ g o, ad = some ⟨g, o, none⟩ ∧ ∀ j, j < n → ∃ cs y k, cs.length = P.cellsOf e ∧ (∀ i, i < P.cellsOf e → W.cell? ⟨g, o + j * P.cellsOf e + i, none⟩ = cs[i]?) ∧ DataW.trod enc P W base sp held k e cs = some y) := by
  obtain ⟨ad, n, cap, rfl⟩ := okWide_slice ht hok
  refine ⟨ad, n, cap, rfl, fun hn => ?_⟩
  obtain ⟨fuel, hf⟩ := h
  rcases Go.Deep.open_slice ht hf with ⟨h1, -⟩ | ⟨a, len, cp, m, k, D, Pl, h1, hb, hl, hm, hmm, -, hx⟩
  · simp only [Value.cells, List.cons.injEq, Value.slice.injEq] at h1
    omega
  · simp only [Value.cells, List.cons.injEq, Value.slice.injEq] at h1
    obtain ⟨⟨rfl, rfl, rfl⟩, -⟩ := h1
    have hle : n ≤ m := by rw [hmm]; split <;> omega
    have hs : a.spot = none := by
      obtain ⟨cs, h2, -⟩ := hx 0 (by omega)
      obtain ⟨-, h3, h4⟩ := World.cells?_some h2
      have h5 := h4 0 h0
      have h6 : cs[0]? = some cs[0] := by simp
      rw [h6] at h5
      have := World.cell?_spot h5
      simpa [Addr.add] using this
    obtain ⟨g, o, s⟩ := a
    simp only at hs
    subst hs
    refine ⟨g, o, rfl, fun j hj => ?_⟩
    obtain ⟨cs, h2, h3⟩ := hx j (by omega)
    obtain ⟨-, h4, h5⟩ := World.cells?_some h2
    refine ⟨cs, _, k, h4, fun i hi => ?_, h3⟩
    rw [← h5 i hi, Addr.add_lit, Addr.add_lit]
theorem open_strs {H : Type} {enc : TypeId × Value → H} {P : Program} {W : World} {base : Nat} {sp : Nat → Bool} {held : Bool} {r : Reach} {b0 : Nat} {t e : TypeId} {v : Value} {d : DataW H} {p : List MemPlace} (ht : P.underlying t = some (.slice e)) (he : P.underlying e = some .string) (hc : P.cellsOf e = 1) (hok : Value.okWide P W r b0 t v) (h : DataW.Trod enc P W base sp held t v d p) :
    ∃ xs : List ByteArray, ∃ ad cap, v = .slice ad xs.length cap ∧ (xs ≠ [] → ∃ g o, ad = some ⟨g, o, none⟩ ∧ ∀ (j : Nat) x, xs[j]? = some x → W.cell? ⟨g, o + j, none⟩ = some (.string x)) := by
  obtain ⟨ad, n, cap, rfl, hx⟩ := open_elems ht hok h (by rw [hc]; omega)
  by_cases hn : 0 < n
  · obtain ⟨g, o, rfl, hx2⟩ := hx hn
    obtain ⟨l, hl, hq⟩ := list_of (fun j (x : ByteArray) => W.cell? ⟨g, o + j, none⟩ = some (.string x)) n fun j hj => by
      obtain ⟨cs, y, k, h1, h2, h3⟩ := hx2 j hj
      obtain ⟨s, rfl, -⟩ := DataW.trod_string he h3
      have := h2 0 (by rw [hc]; omega)
      rw [hc, Nat.mul_one, Nat.add_zero] at this
      exact ⟨s, this⟩
    subst hl
    exact ⟨l, _, cap, rfl, fun _ => ⟨g, o, rfl, hq⟩⟩
  · obtain rfl : n = 0 := by omega
    exact ⟨[], ad, cap, rfl, fun e => absurd rfl e⟩
/-- A field of a struct's cells. -/
theorem field_of {H : Type} {enc : TypeId × Value → H} {P : Program} {W : World} {base : Nat} {sp : Nat → Bool} {held : Bool} {k : Nat} {e : TypeId} {fs : Array Field} {cs : List Value} {y : DataW H × List MemPlace} (he : P.underlying e = some (.struct fs)) (h : DataW.trod enc P W base sp held k e cs = some y) (i : Nat) (f : Field) (hf : fs[i]? = some f) :
    ∃ m z, DataW.trod enc P W base sp held m f.type ((cs.drop f.offset).take (P.cellsOf f.type)) = some z := by
  obtain ⟨xs, n, -, -, -, hl, hx⟩ := DataW.trod_struct he h
  have hi : i < fs.size := (Array.getElem?_eq_some_iff.1 hf).1
  exact ⟨n, xs[i], by rw [hx i f hf]; simp⟩
theorem open_ints3 {H : Type} {enc : TypeId × Value → H} {P : Program} {W : World} {base : Nat} {sp : Nat → Bool} {held : Bool} {r : Reach} {b0 : Nat} {t e : TypeId} {f0 f1 f2 : Field} {k0 k1 k2 : IntKind} {v : Value} {d : DataW H} {p : List MemPlace} (ht : P.underlying t = some (.slice e)) (he : P.underlying e = some (.struct #[f0, f1, f2])) (hc : P.cellsOf e = 3)
    (h0 : P.underlying f0.type = some (.int k0)) (h1 : P.underlying f1.type = some (.int k1)) (h2 : P.underlying f2.type = some (.int k2)) (o0 : f0.offset = 0) (o1 : f1.offset = 1) (o2 : f2.offset = 2)
    (hok : Value.okWide P W r b0 t v) (h : DataW.Trod enc P W base sp held t v d p) :
    ∃ xs : List (Int × Int × Int), ∃ ad cap, v = .slice ad xs.length cap ∧ (xs ≠ [] → ∃ g o, ad = some ⟨g, o, none⟩ ∧ ∀ (j : Nat) x, xs[j]? = some x →
      W.cell? ⟨g, o + j * 3, none⟩ = some (.int k0 x.1) ∧ W.cell? ⟨g, o + j * 3 + 1, none⟩ = some (.int k1 x.2.1) ∧ W.cell? ⟨g, o + j * 3 + 2, none⟩ = some (.int k2 x.2.2)) := by
  obtain ⟨ad, n, cap, rfl, hx⟩ := open_elems ht hok h (by rw [hc]; omega)
  by_cases hn : 0 < n
  · obtain ⟨g, o, rfl, hx2⟩ := hx hn
    obtain ⟨l, hl, hq⟩ := list_of (fun j (x : Int × Int × Int) => W.cell? ⟨g, o + j * 3, none⟩ = some (.int k0 x.1) ∧ W.cell? ⟨g, o + j * 3 + 1, none⟩ = some (.int k1 x.2.1) ∧ W.cell? ⟨g, o + j * 3 + 2, none⟩ = some (.int k2 x.2.2)) n fun j hj => by
      obtain ⟨cs, y, k, q1, q2, q3⟩ := hx2 j hj
      rw [hc] at q1 q2
      obtain ⟨m0, z0, a0⟩ := field_of he q3 0 f0 rfl
      obtain ⟨m1, z1, a1⟩ := field_of he q3 1 f1 rfl
      obtain ⟨m2, z2, a2⟩ := field_of he q3 2 f2 rfl
      obtain ⟨x0, b0, -⟩ := DataW.trod_int h0 a0
      obtain ⟨x1, b1, -⟩ := DataW.trod_int h1 a1
      obtain ⟨x2, b2, -⟩ := DataW.trod_int h2 a2
      have g0 : cs[0]? = some (.int k0 x0) := by
        have := congrArg (·[0]?) b0
        rw [o0] at this
        simp only [List.getElem?_take, List.getElem?_drop] at this
        split at this <;> simp_all
      have g1 : cs[1]? = some (.int k1 x1) := by
        have := congrArg (·[0]?) b1
        rw [o1] at this
        simp only [List.getElem?_take, List.getElem?_drop] at this
        split at this <;> simp_all
      have g2 : cs[2]? = some (.int k2 x2) := by
        have := congrArg (·[0]?) b2
        rw [o2] at this
        simp only [List.getElem?_take, List.getElem?_drop] at this
        split at this <;> simp_all
      exact ⟨(x0, x1, x2), by rw [← g0, ← q2 0 (by omega)]; rfl, by rw [← g1, ← q2 1 (by omega)], by rw [← g2, ← q2 2 (by omega)]⟩
    subst hl
    exact ⟨l, _, cap, rfl, fun _ => ⟨g, o, rfl, hq⟩⟩
  · obtain rfl : n = 0 := by omega
    exact ⟨[], ad, cap, rfl, fun e => absurd rfl e⟩
end Go.Proofs.Ytpgcdfdfbcmodaa
