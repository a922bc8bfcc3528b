/- A call of the law that comes in, opened. -/
import Derived.Test.YtolkeibmllhacaaOpenSl
import Derived.Test.YtolkeibmllhacaaVarAwake
namespace Go.Proofs.Ytolkeibmllhacaa
open Go.ChangeShapes Go.WideShapes Go.RowKit
set_option linter.unusedVariables false
set_option linter.unusedSimpArgs false
theorem open_op {H : Type} {enc : TypeId × Value → H} {P : Program} {W : World} {base : Nat} {sp : Nat → Bool} {held : Bool} {r : Reach} {b0 : Nat} {t : TypeId} {f0 f1 f2 f3 : Field} {v : Value} {d : DataW H} {p : List MemPlace} (ht : P.underlying t = some (.struct #[f0, f1, f2, f3])) (hc : P.cellsOf t = 4)
    (h0 : P.underlying f0.type = some (.int .i64)) (h1 : P.underlying f1.type = some (.int .i64)) (h2 : P.underlying f2.type = some (.int .u64)) (h3 : P.underlying f3.type = some .string)
    (o0 : f0.offset = 0) (o1 : f1.offset = 1) (o2 : f2.offset = 2) (o3 : f3.offset = 3)
    (hok : Value.okWide P W r b0 t v) (h : DataW.Trod enc P W base sp held t v d p) : ∃ (k n : Int) (u : Nat) (s : ByteArray), v = .agg #[.int .i64 k, .int .i64 n, .int .u64 u, .string s] ∧ -9223372036854775808 ≤ n ∧ n < 9223372036854775808 ∧ u < 18446744073709551616 ∧ s.size ≤ 9223372036854775807 := by
  obtain ⟨cs, rfl, hsz⟩ := okWide_struct ht hok
  rw [hc] at hsz
  obtain ⟨fuel, hf⟩ := h
  obtain ⟨m0, z0, a0⟩ := field_of ht hf 0 f0 rfl
  obtain ⟨m1, z1, a1⟩ := field_of ht hf 1 f1 rfl
  obtain ⟨m2, z2, a2⟩ := field_of ht hf 2 f2 rfl
  obtain ⟨m3, z3, a3⟩ := field_of ht hf 3 f3 rfl
  obtain ⟨x0, b0, -⟩ := DataW.trod_int h0 a0
  obtain ⟨x1, b1, -, q1⟩ := DataW.trod_int h1 a1
  obtain ⟨x2, b2, -, q2⟩ := DataW.trod_int h2 a2
  obtain ⟨x3, b3, -, q3⟩ := DataW.trod_string h3 a3
  have hl : (Value.agg cs).cells = cs := by simp [Value.cells]
  rw [hl] at b0 b1 b2 b3
  have gt : ∀ (i n : Nat) (u : Value), (cs.toList.drop i).take n = [u] → cs[i]? = some u := by
    intro i n u e
    have := congrArg (·[0]?) e
    simp only [List.getElem?_take, List.getElem?_drop] at this
    split at this <;> simp_all
  rw [o0] at b0; rw [o1] at b1; rw [o2] at b2; rw [o3] at b3
  obtain ⟨i0, i1⟩ := bounds_i64 q1
  obtain ⟨u0, u1⟩ := bounds_u64 q2
  obtain ⟨u, rfl⟩ := Int.eq_ofNat_of_zero_le u0
  refine ⟨x0, x1, u, x3, ?_, i0, by omega, by omega, by unfold maxLen at q3; omega⟩
  congr 1
  apply Array.ext_getElem?
  intro i
  match i with
  | 0 => exact gt _ _ _ b0
  | 1 => exact gt _ _ _ b1
  | 2 => exact gt _ _ _ b2
  | 3 => exact gt _ _ _ b3
  | i + 4 => rw [Array.getElem?_eq_none (by omega), Array.getElem?_eq_none (by simp)]
end Go.Proofs.Ytolkeibmllhacaa
