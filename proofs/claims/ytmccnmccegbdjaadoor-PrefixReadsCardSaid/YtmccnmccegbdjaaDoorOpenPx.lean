/- A prefix that comes in, opened. -/
import Derived.Test.YtmccnmccegbdjaaDoorOpenSl
import Derived.Test.YtmccnmccegbdjaaDoorPfxPlain
namespace Go.Proofs.YtmccnmccegbdjaaDoor
open Go.ChangeShapes Go.WideShapes Go.RowKit
set_option linter.unusedVariables false
set_option linter.unusedSimpArgs false
theorem open_px {H : Type} {enc : TypeId × Value → H} {W : World} {base : Nat} {sp : Nat → Bool} {held : Bool} {r : Reach} {b0 : Nat} {f0 f1 f2 : Field} {v : Value} {d : DataW H} {p : List MemPlace} (ht : Tryd.prog.underlying 30 = some (.struct #[f0, f1, f2]))
    (t0 : f0.type = 4) (t1 : f1.type = 28) (t2 : f2.type = 3) (o0 : f0.offset = 0) (o1 : f1.offset = 1) (o2 : f2.offset = 17)
    (hok : Value.okWide Tryd.prog W r b0 30 v) (h : DataW.Trod enc Tryd.prog W base sp held 30 v d p) : ∃ q : Px, v = .agg q.row ∧ q.wf := by
  have hc : Tryd.prog.cellsOf 30 = 18 := by kernel_rfl
  have hc1 : Tryd.prog.cellsOf 28 = 16 := by kernel_rfl
  have hc5 : Tryd.prog.cellsOf 5 = 1 := by kernel_rfl
  obtain ⟨cs, rfl, hsz⟩ := okWide_struct ht hok
  rw [hc] at hsz
  obtain ⟨fuel, hf⟩ := h
  obtain ⟨m0, z0, a0⟩ := field_of ht hf 0 f0 rfl
  obtain ⟨m1, z1, a1⟩ := field_of ht hf 1 f1 rfl
  obtain ⟨m2, z2, a2⟩ := field_of ht hf 2 f2 rfl
  rw [t0, o0] at a0
  rw [t1, o1] at a1
  rw [t2, o2] at a2
  obtain ⟨x0, b0, -⟩ := DataW.trod_bool Tryd.underlying4 a0
  obtain ⟨x2, b2, -⟩ := DataW.trod_int Tryd.underlying3 a2
  have hl : (Value.agg cs).cells = cs := by simp [Value.cells]
  rw [hl] at b0 b2 a1
  have gt : ∀ (i n : Nat) (u : Value), (cs.toList.drop i).take n = [u] → cs[i]? = some u := by
    intro i n u e
    have := congrArg (·[0]?) e
    simp only [List.getElem?_take, List.getElem?_drop] at this
    split at this <;> simp_all
  obtain ⟨xs, m, -, -, hlen, hxl, hel⟩ := DataW.trod_array Tryd.underlying28 a1
  obtain ⟨A, hA, hq⟩ := list_of (fun j (x : Nat) => cs[1 + j]? = some (.int .u8 (x : Int)) ∧ x < 256) 16 fun j hj => by
    have h1 := hel j hj
    rw [List.getElem?_eq_getElem (by rw [hxl]; exact hj), hc5, hc1] at h1
    obtain ⟨n, e1, -, q⟩ := DataW.trod_int Tryd.underlying5 h1
    obtain ⟨l1, l2⟩ := bounds_u8 q
    obtain ⟨n, rfl⟩ := Int.eq_ofNat_of_zero_le l1
    have h2 := congrArg (·[0]?) e1
    simp only [List.getElem?_take, List.getElem?_drop, Nat.mul_one, Nat.add_zero, List.getElem?_cons_zero] at h2
    rw [if_pos (by omega), if_pos (by omega)] at h2
    exact ⟨n, by simpa using h2, by omega⟩
  have g0 := gt _ _ _ b0
  have g2 := gt _ _ _ b2
  refine ⟨⟨x0, A, x2⟩, ?_, hA, fun i => ?_⟩
  · congr 1
    apply Array.ext_getElem?
    intro i
    by_cases h17 : i < 17
    · by_cases h0 : i = 0
      · subst h0; rw [g0]; rfl
      · obtain ⟨j, rfl⟩ : ∃ j, i = 1 + j := ⟨i - 1, by omega⟩
        have hj := List.getElem?_eq_getElem (l := A) (i := j) (by rw [hA]; omega)
        rw [(hq j _ hj).1]
        show _ = (Value.bool x0 :: (bv A ++ [Value.int .i64 x2])).toArray[1 + j]?
        rw [List.getElem?_toArray, show 1 + j = j + 1 by omega, List.getElem?_cons_succ, List.getElem?_append_left (by rw [bv_length, hA]; omega), bv_get A j (by rw [hA]; omega), List.getD_eq_getElem?_getD, hj]
        rfl
    · by_cases h18 : i = 17
      · subst h18
        rw [g2]
        show _ = (Value.bool x0 :: (bv A ++ [Value.int .i64 x2])).toArray[17]?
        rw [List.getElem?_toArray, List.getElem?_cons_succ, List.getElem?_append_right (by rw [bv_length, hA]; omega), bv_length, hA]
        rfl
      · rw [Array.getElem?_eq_none (by omega), Array.getElem?_eq_none (by simp [Px.row, bv_length, hA]; omega)]
  · show A.getD i 0 < 256
    rw [List.getD_eq_getElem?_getD]
    cases e : A[i]? with
    | none => decide
    | some x => exact (hq i x e).2
end Go.Proofs.YtmccnmccegbdjaaDoor
