/- A slice of frames that comes in, opened as a list. -/
import Derived.Test.YtpgcdfdfbcmodaaOpenSl
import Derived.Test.YtpgcdfdfbcmodaaFrameWalk
namespace Go.Proofs.Ytpgcdfdfbcmodaa
open Go.ChangeShapes Go.WideShapes Go.RowKit
set_option linter.unusedVariables false
set_option linter.unusedSimpArgs false
/-- A frame's cells lie there. -/
def FrCells (W : World) (g p : Nat) (f : Fr) : Prop := W.cell? ⟨g, p, none⟩ = some (.int .i64 f.k) ∧ W.cell? ⟨g, p + 1, none⟩ = some (.int .i64 f.s) ∧ W.cell? ⟨g, p + 2, none⟩ = some (.int .i64 f.e) ∧ W.cell? ⟨g, p + 3, none⟩ = some (.int .i64 f.i) ∧ W.cell? ⟨g, p + 4, none⟩ = some (.int .i64 f.t) ∧ W.cell? ⟨g, p + 5, none⟩ = some (.string f.d)
def Frs (W : World) (v : Value) (xs : List Fr) : Prop := ∃ ad cap, v = .slice ad xs.length cap ∧ (xs ≠ [] → ∃ g o, ad = some ⟨g, o, none⟩ ∧ ∀ (j : Nat) f, xs[j]? = some f → FrCells W g (o + j * 6) f ∧ (Lit.int .i64 f.k).wf = true ∧ (Lit.int .i64 f.s).wf = true ∧ (Lit.int .i64 f.e).wf = true ∧ (Lit.int .i64 f.i).wf = true ∧ (Lit.int .i64 f.t).wf = true)
theorem open_frs {H : Type} {enc : TypeId × Value → H} {P : Program} {W : World} {base : Nat} {sp : Nat → Bool} {held : Bool} {r : Reach} {b0 : Nat} {t e : TypeId} {f0 f1 f2 f3 f4 f5 : Field} {v : Value} {d : DataW H} {p : List MemPlace} (ht : P.underlying t = some (.slice e)) (he : P.underlying e = some (.struct #[f0, f1, f2, f3, f4, f5])) (hc : P.cellsOf e = 6)
    (h0 : P.underlying f0.type = some (.int .i64)) (h1 : P.underlying f1.type = some (.int .i64)) (h2 : P.underlying f2.type = some (.int .i64)) (h3 : P.underlying f3.type = some (.int .i64)) (h4 : P.underlying f4.type = some (.int .i64)) (h5 : P.underlying f5.type = some .string)
    (o0 : f0.offset = 0) (o1 : f1.offset = 1) (o2 : f2.offset = 2) (o3 : f3.offset = 3) (o4 : f4.offset = 4) (o5 : f5.offset = 5)
    (hok : Value.okWide P W r b0 t v) (h : DataW.Trod enc P W base sp held t v d p) : ∃ xs : List Fr, Frs W v xs := by
  obtain ⟨ad, n, cap, rfl, hx⟩ := open_elems ht hok h (by rw [hc]; omega)
  by_cases hn : 0 < n
  · obtain ⟨g, o, rfl, hx2⟩ := hx hn
    obtain ⟨l, hl, hq⟩ := list_of (fun j (f : Fr) => FrCells W g (o + j * 6) f ∧ (Lit.int .i64 f.k).wf = true ∧ (Lit.int .i64 f.s).wf = true ∧ (Lit.int .i64 f.e).wf = true ∧ (Lit.int .i64 f.i).wf = true ∧ (Lit.int .i64 f.t).wf = true) n fun j hj => by
      obtain ⟨cs, y, k, q1, q2, q3⟩ := hx2 j hj
      rw [hc] at q1 q2
      obtain ⟨m0, z0, a0⟩ := field_of he q3 0 f0 rfl
      obtain ⟨m1, z1, a1⟩ := field_of he q3 1 f1 rfl
      obtain ⟨m2, z2, a2⟩ := field_of he q3 2 f2 rfl
      obtain ⟨m3, z3, a3⟩ := field_of he q3 3 f3 rfl
      obtain ⟨m4, z4, a4⟩ := field_of he q3 4 f4 rfl
      obtain ⟨m5, z5, a5⟩ := field_of he q3 5 f5 rfl
      obtain ⟨x0, b0, -, e0⟩ := DataW.trod_int h0 a0
      obtain ⟨x1, b1, -, e1⟩ := DataW.trod_int h1 a1
      obtain ⟨x2, b2, -, e2⟩ := DataW.trod_int h2 a2
      obtain ⟨x3, b3, -, e3⟩ := DataW.trod_int h3 a3
      obtain ⟨x4, b4, -, e4⟩ := DataW.trod_int h4 a4
      obtain ⟨x5, b5, -⟩ := DataW.trod_string h5 a5
      have gt : ∀ (i n : Nat) (u : Value), (cs.drop i).take n = [u] → cs[i]? = some u := by
        intro i n u e
        have := congrArg (·[0]?) e
        simp only [List.getElem?_take, List.getElem?_drop] at this
        split at this <;> simp_all
      rw [o0] at b0; rw [o1] at b1; rw [o2] at b2; rw [o3] at b3; rw [o4] at b4; rw [o5] at b5
      exact ⟨⟨x0, x1, x2, x3, x4, x5⟩, ⟨by rw [← gt _ _ _ b0, ← q2 0 (by omega)]; rfl, by rw [← gt _ _ _ b1, ← q2 1 (by omega)], by rw [← gt _ _ _ b2, ← q2 2 (by omega)], by rw [← gt _ _ _ b3, ← q2 3 (by omega)], by rw [← gt _ _ _ b4, ← q2 4 (by omega)], by rw [← gt _ _ _ b5, ← q2 5 (by omega)]⟩, e0, e1, e2, e3, e4⟩
    subst hl
    exact ⟨l, _, cap, rfl, fun _ => ⟨g, o, rfl, hq⟩⟩
  · obtain rfl : n = 0 := by omega
    exact ⟨[], ad, cap, rfl, fun e => absurd rfl e⟩
end Go.Proofs.Ytpgcdfdfbcmodaa
