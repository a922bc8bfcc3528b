/- Prefixes and their bytes compared; loads of what a prefix holds. -/
import Derived.Test.YtmccnmccegbdjaaDoorPfxWalk
import Derived.ChangeKeysEq
import Derived.Laws.StructEq
namespace Go.Proofs.YtmccnmccegbdjaaDoor
open Go.RowKit
set_option linter.unusedVariables false
set_option linter.unusedSimpArgs false
theorem run_part_bv (w : World) (pre : List Value) (A : List Nat) (suf : List Value) (j : Nat) (hj : j < A.length) :
    (part 5 (pre ++ bv A ++ suf).toArray (pre.length + j)).run Tryd.prog w = .ok (.int .u8 (A.getD j 0 : Nat)) w := by
  have hg : (pre ++ bv A ++ suf)[pre.length + j]? = some (.int .u8 (A.getD j 0 : Nat)) := by
    rw [List.append_assoc, List.getElem?_append_right (by omega), show pre.length + j - pre.length = j by omega, List.getElem?_append_left (by rw [bv_length]; exact hj), bv_get A j hj]
  have : (isAgg 5).run Tryd.prog w = .ok false w := by
    unfold isAgg
    rw [Sem.run_bind, run_underlying Tryd.underlying5 w]
    rfl
  unfold part
  rw [Sem.run_bind, this]
  simp only [Result.andThen_ok, Bool.false_eq_true, if_false, List.getElem?_toArray, hg, Sem.run_pure]
theorem run_eqItems_bv (w : World) (d : Nat) (A B : List Nat) (hA : A.length = 16) (hB : B.length = 16) : ∀ (is : List Nat), (∀ i ∈ is, i < 16) →
    (Op.eqItems (d + 1) 5 1 (bv A).toArray (bv B).toArray is).run Tryd.prog w = .ok (is.all fun j => A.getD j 0 == B.getD j 0) w
  | [], _ => by simp [Op.eqItems]
  | i :: is, h => by
    have hi := h i (by simp)
    have p1 := run_part_bv w [] A [] i (by omega)
    have p2 := run_part_bv w [] B [] i (by omega)
    simp only [List.nil_append, List.append_nil, List.length_nil, Nat.zero_add] at p1 p2
    have p3 := run_equalIn_int (P := Tryd.prog) w d 5 .u8 .u8 (A.getD i 0 : Nat) (B.getD i 0 : Nat) Tryd.underlying5
    have ih := run_eqItems_bv w d A B hA hB is (fun j hj => h j (by simp [hj]))
    simp only [Op.eqItems, Sem.run_bind, Nat.mul_one, p1, p2, p3, Result.andThen_ok]
    have he : (((A.getD i 0 : Nat) : Int) == ((B.getD i 0 : Nat) : Int)) = (A.getD i 0 == B.getD i 0) := by
      rw [Bool.eq_iff_iff, beq_iff_eq, beq_iff_eq]; exact Int.ofNat_inj
    rw [he, List.all_cons]
    cases A.getD i 0 == B.getD i 0
    · simp
    · simpa using ih
theorem all_eq (A B : List Nat) (hA : A.length = 16) (hB : B.length = 16) : ((List.range 16).all fun j => A.getD j 0 == B.getD j 0) = decide (A = B) := by
  rw [Bool.eq_iff_iff]
  simp only [List.all_eq_true, List.mem_range, beq_iff_eq, decide_eq_true_eq]
  constructor
  · intro h; exact list_ext_getD _ _ (by omega) (fun j hj => h j (by omega))
  · intro h j _; rw [h]
theorem info_u8 : ∃ i, Tryd.prog.info? 5 = some i := by
  cases h : Tryd.prog.info? 5 with
  | some i => exact ⟨i, rfl⟩
  | none => have : (Tryd.prog.info? 5).isSome = true := by kernel_rfl
            rw [h] at this; cases this
theorem cells_u8 : Tryd.prog.cellsOf 5 = 1 := by kernel_rfl
theorem run_eql_av (w : World) (d : Nat) (A B : List Nat) (hA : A.length = 16) (hB : B.length = 16) :
    (Op.equalIn (d + 2) 28 (.agg (bv A).toArray) (.agg (bv B).toArray)).run Tryd.prog w = .ok (decide (A = B)) w := by
  obtain ⟨i, hi⟩ := info_u8
  rw [run_equalIn_array w (d + 1) _ _ Tryd.underlying28 hi, cells_u8, run_eqItems_bv w d A B hA hB _ (fun j hj => by simpa using hj), all_eq A B hA hB]
theorem row_six (p : Px) : p.row[0]? = some (.bool p.six) := rfl
theorem fields_px : (Tryd.prog.fieldsOf 30).toList.map (fun f => (decide (f.name = "_"), f.type, f.offset)) = [(false, 4, 0), (false, 28, 1), (false, 3, 17)] := by kernel_rfl
theorem Px.row_eq (p : Px) : p.row = ([Value.bool p.six] ++ bv p.A ++ [Value.int .i64 p.n]).toArray := rfl
theorem Px.row_size (p : Px) (h : p.A.length = 16) : p.row.size = 18 := by simp [Px.row, bv_length, h]
theorem Px.row_len (p : Px) (h : p.A.length = 16) : p.row[17]? = some (.int .i64 p.n) := by
  rw [Px.row_eq]
  rw [List.getElem?_toArray, List.getElem?_append_right (by simp [bv_length, h])]
  simp [bv_length, h]
theorem run_part_one (w : World) (t : TypeId) (d : TypeDesc) (hu : Tryd.prog.underlying t = some d) (hd : d.isRow = false) (cs : Array Value) (j : Nat) (v : Value) (hj : cs[j]? = some v) : (part t cs j).run Tryd.prog w = .ok v w := by
  have : (isAgg t).run Tryd.prog w = .ok false w := by
    unfold isAgg
    rw [Sem.run_bind, run_underlying hu w]
    cases d <;> simp_all
  unfold part
  rw [Sem.run_bind, this]
  simp only [Result.andThen_ok, Bool.false_eq_true, if_false, hj, Sem.run_pure]
theorem run_part_av (w : World) (p : Px) (h : p.A.length = 16) : (part 28 p.row 1).run Tryd.prog w = .ok (.agg (bv p.A).toArray) w := by
  have : (isAgg 28).run Tryd.prog w = .ok true w := by
    unfold isAgg
    rw [Sem.run_bind, run_underlying Tryd.underlying28 w]
    rfl
  have hs : (sizeOf 28).run Tryd.prog w = .ok 16 w := Tryd.sizeOf28 w
  unfold part
  rw [Sem.run_bind, this]
  simp only [Result.andThen_ok, if_true, Sem.run_bind, hs, Sem.run_pure]
  congr 2
  rw [Px.row_eq]
  apply Array.ext'
  simp [bv_length, h]
theorem und_px : Tryd.prog.underlying 30 = some (.struct (Tryd.prog.fieldsOf 30)) := by kernel_rfl
theorem held_px : Tryd.prog.stoodInHeld 30 = false := by kernel_rfl
theorem eqFields_step (w : World) (d : Nat) (xs ys : Array Value) (f : Field) (fs : List Field) (x y : Value) (b : Bool) (h1 : f.name ≠ "_") (h2 : (part f.type xs f.offset).run Tryd.prog w = .ok x w) (h3 : (part f.type ys f.offset).run Tryd.prog w = .ok y w)
    (h4 : (Op.equalIn d f.type x y).run Tryd.prog w = .ok b w) : (Op.eqFields d xs ys (f :: fs)).run Tryd.prog w = if b then (Op.eqFields d xs ys fs).run Tryd.prog w else .ok false w := by
  rw [Op.eqFields, if_pos h1]
  cases b <;> simp [Sem.run_bind, h2, h3, h4]
theorem run_eqFields_px (w : World) (d : Nat) (p q : Px) (hp : p.A.length = 16) (hq : q.A.length = 16) (fs : List Field) (hf : fs.map (fun f => (decide (f.name = "_"), f.type, f.offset)) = [(false, 4, 0), (false, 28, 1), (false, 3, 17)]) :
    (Op.eqFields (d + 2) p.row q.row fs).run Tryd.prog w = .ok (decide (p = q)) w := by
  match fs, hf with
  | [], hf => simp at hf
  | [_], hf => simp at hf
  | [_, _], hf => simp at hf
  | _ :: _ :: _ :: _ :: _, hf => simp at hf
  | [f1, f2, f3], hf =>
    simp only [List.map, List.cons.injEq, Prod.mk.injEq, and_true] at hf
    obtain ⟨⟨n1, t1, o1⟩, ⟨n2, t2, o2⟩, ⟨n3, t3, o3⟩⟩ := hf
    have n1 := of_decide_eq_false n1
    have n2 := of_decide_eq_false n2
    have n3 := of_decide_eq_false n3
    rw [eqFields_step w (d + 2) p.row q.row f1 [f2, f3] (.bool p.six) (.bool q.six) (p.six == q.six) n1 (by rw [t1, o1]; exact run_part_one w 4 _ Tryd.underlying4 rfl p.row 0 _ (row_six p)) (by rw [t1, o1]; exact run_part_one w 4 _ Tryd.underlying4 rfl q.row 0 _ (row_six q)) (by rw [t1]; exact run_equalIn_bool' (P := Tryd.prog) w (d + 1) 4 p.six q.six Tryd.underlying4),
      eqFields_step w (d + 2) p.row q.row f2 [f3] (.agg (bv p.A).toArray) (.agg (bv q.A).toArray) (decide (p.A = q.A)) n2 (by rw [t2, o2]; exact run_part_av w p hp) (by rw [t2, o2]; exact run_part_av w q hq) (by rw [t2]; exact run_eql_av w d p.A q.A hp hq),
      eqFields_step w (d + 2) p.row q.row f3 [] (.int .i64 p.n) (.int .i64 q.n) (p.n == q.n) n3 (by rw [t3, o3]; exact run_part_one w 3 _ Tryd.underlying3 rfl p.row 17 _ (p.row_len hp)) (by rw [t3, o3]; exact run_part_one w 3 _ Tryd.underlying3 rfl q.row 17 _ (q.row_len hq)) (by rw [t3]; exact run_equalIn_int (P := Tryd.prog) w (d + 1) 3 .i64 .i64 p.n q.n Tryd.underlying3)]
    have hnil : (Op.eqFields (d + 2) p.row q.row []).run Tryd.prog w = .ok true w := rfl
    rw [hnil]
    have hpq : (p = q) ↔ (p.six = q.six ∧ p.A = q.A ∧ p.n = q.n) := by
      cases p; cases q; simp
    have hd : decide (p = q) = (decide (p.six = q.six) && (decide (p.A = q.A) && decide (p.n = q.n))) := by rw [Bool.eq_iff_iff]; simp [hpq]
    rw [hd]
    by_cases g1 : p.six = q.six <;> by_cases g2 : p.A = q.A <;> by_cases g3 : p.n = q.n <;> simp [g1, g2, g3]
theorem run_eql_px (w : World) (d : Nat) (p q : Px) (hp : p.A.length = 16) (hq : q.A.length = 16) :
    (Op.equalIn (d + 3) 30 (.agg p.row) (.agg q.row)).run Tryd.prog w = .ok (decide (p = q)) w :=
  (run_equalIn_struct w (d + 2) 30 _ _ und_px held_px).trans (run_eqFields_px w d p q hp hq _ fields_px)
end Go.Proofs.YtmccnmccegbdjaaDoor
