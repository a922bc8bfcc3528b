/- Prefixes, in plain numbers. -/
import Derived.Test.YtmccnmccegbdjaaDoorLib
import Derived.Deep.MidRow
namespace Go.Proofs.YtmccnmccegbdjaaDoor
open Go.RowKit
set_option linter.unusedVariables false
set_option linter.unusedSimpArgs false
/-- A prefix: its kind, its sixteen bytes, its length. -/
structure Px where
  six : Bool
  A : List Nat
  n : Int
  deriving DecidableEq
structure Px.wf (p : Px) : Prop where
  len : p.A.length = 16
  small : ∀ i, p.A.getD i 0 < 256
def bv (A : List Nat) : List Value := A.map fun (x : Nat) => Value.int .u8 (x : Int)
def av (A : List Nat) : Value := .agg (bv A).toArray
def Px.val (p : Px) : Value := .agg #[.bool p.six, av p.A, .int .i64 p.n]
def Px.row (p : Px) : Array Value := (Value.bool p.six :: (bv p.A ++ [Value.int .i64 p.n])).toArray
def widthN (six : Bool) : Nat := if six then 128 else 32
/-- What of a byte is kept. -/
def mk1 (left : Int) (x : Nat) : Nat := if left ≤ 0 then 0 else if left < 8 then x &&& (255 <<< (8 - left).toNat) % 256 else x
def maskTo (A : List Nat) (n : Int) (i : Nat) : List Nat := A.mapIdx fun j x => if j < i then mk1 (n - 8 * j) x else x
def maskL (A : List Nat) (n : Int) : List Nat := maskTo A n 16
theorem bv_length (A : List Nat) : (bv A).length = A.length := by simp [bv]
theorem maskTo_length (A : List Nat) (n : Int) (i : Nat) : (maskTo A n i).length = A.length := by simp [maskTo]
theorem maskTo_zero (A : List Nat) (n : Int) : maskTo A n 0 = A := by
  apply List.ext_getElem?
  intro j
  simp [maskTo]
theorem maskTo_get (A : List Nat) (n : Int) (i j : Nat) (hj : j < A.length) : (maskTo A n i).getD j 0 = if j < i then mk1 (n - 8 * j) (A.getD j 0) else A.getD j 0 := by
  simp [maskTo, List.getD_eq_getElem?_getD, List.getElem?_mapIdx, List.getElem?_eq_getElem hj]
theorem list_ext_getD (A B : List Nat) (h : A.length = B.length) (hh : ∀ j, j < A.length → A.getD j 0 = B.getD j 0) : A = B := by
  apply List.ext_getElem?
  intro j
  by_cases hj : j < A.length
  · have := hh j hj
    rw [List.getD_eq_getElem?_getD, List.getD_eq_getElem?_getD] at this
    rw [List.getElem?_eq_getElem hj, List.getElem?_eq_getElem (h ▸ hj)] at this ⊢
    simpa using this
  · rw [List.getElem?_eq_none (by omega), List.getElem?_eq_none (by omega)]
theorem maskTo_succ (A : List Nat) (n : Int) (i : Nat) (hi : i < A.length) : maskTo A n (i + 1) = (maskTo A n i).set i (mk1 (n - 8 * i) (A.getD i 0)) := by
  apply list_ext_getD
  · simp [maskTo_length]
  · intro j hj
    rw [maskTo_length] at hj
    rw [maskTo_get _ _ _ _ hj]
    by_cases h : j = i
    · subst h
      rw [if_pos (by omega)]; simp [List.getD_eq_getElem?_getD, List.getElem?_set_self (show j < (maskTo A n j).length by rw [maskTo_length]; exact hj)]
    · rw [show ((maskTo A n i).set i (mk1 (n - 8 * ↑i) (A.getD i 0))).getD j 0 = (maskTo A n i).getD j 0 by simp [List.getD_eq_getElem?_getD, List.getElem?_set_ne (fun e => h e.symm)], maskTo_get _ _ _ _ hj]
      by_cases h2 : j < i
      · rw [if_pos h2, if_pos (by omega)]
      · rw [if_neg h2, if_neg (by omega)]
theorem mk1_le (l : Int) (x : Nat) (hx : x < 256) : mk1 l x < 256 := by
  unfold mk1
  split
  · omega
  · split
    · exact Nat.lt_of_le_of_lt Nat.and_le_left hx
    · exact hx
theorem bv_set (A : List Nat) (i x : Nat) : bv (A.set i x) = (bv A).set i (Value.int .u8 (x : Int)) := by simp [bv, List.map_set]
theorem bv_get (A : List Nat) (i : Nat) (hi : i < A.length) : (bv A)[i]? = some (Value.int .u8 ((A.getD i 0 : Nat) : Int)) := by
  simp [bv, List.getD_eq_getElem?_getD, List.getElem?_eq_getElem hi]
theorem sixteen (A : List Nat) (h : A.length = 16) : ∃ a0 a1 a2 a3 a4 a5 a6 a7 a8 a9 a10 a11 a12 a13 a14 a15, A = [a0, a1, a2, a3, a4, a5, a6, a7, a8, a9, a10, a11, a12, a13, a14, a15] := by
  match A, h with
  | [a0, a1, a2, a3, a4, a5, a6, a7, a8, a9, a10, a11, a12, a13, a14, a15], _ => exact ⟨a0, a1, a2, a3, a4, a5, a6, a7, a8, a9, a10, a11, a12, a13, a14, a15, rfl⟩
/-- Whether a prefix may be. -/
def Px.right (p : Px) : Bool := decide (0 ≤ p.n) && decide (p.n ≤ widthN p.six) && decide (maskL p.A p.n = p.A)
theorem row_setCell (w : World) (g i : Nat) (cs : Array Value) (t : TypeId) (fr : Nat × Nat) (v : Value) (hg : w.heap[g]? = some (.cells cs t fr)) :
    (w.setCell ⟨g, i, none⟩ v).heap[g]? = some (.cells (cs.setIfInBounds i v) t fr) := by
  simp only [World.setCell, Array.getElem?_modify, if_true, hg]
  rfl
theorem below_row {B g : Nat} {w0 w : World} (hb : Below B w0 w) (hBg : B ≤ g) (cs : Array Value) : Below B w0 (w.setRow g cs) :=
  ⟨hb.os, hb.tape, hb.output, by rw [size_setRow]; exact hb.size, fun k hk => (setRow_other w g k cs (by omega)).trans (hb.block k hk)⟩
theorem below_cell {B g i : Nat} {w0 w : World} (hb : Below B w0 w) (hBg : B ≤ g) (v : Value) : Below B w0 (w.setCell ⟨g, i, none⟩ v) :=
  ⟨hb.os, hb.tape, hb.output, by simp only [World.setCell, Array.size_modify]; exact hb.size, fun k hk => (Below.heap_setCell w _ _ k (by show k ≠ g; omega)).trans (hb.block k hk)⟩
theorem bv_one (A : List Nat) : ((bv A).toArray).all (·.oneCell') = true := by
  simp [bv, Value.oneCell']
theorem range_of_row {w : World} {g : Nat} {cs : Array Value} {t : TypeId} {fr : Nat × Nat} (h : w.heap[g]? = some (.cells cs t fr)) : w.rangeAt g 0 cs.toList := fun j v hj => by
  rw [cell_of_row _ _ _ _ _ _ h]; simpa using hj
theorem load_av {w : World} {b o : Nat} {A : List Nat} (hA : A.length = 16) (h : w.rangeAt b o (bv A)) :
    (Instr.loadAt 28 (.pointer (some ⟨b, o, none⟩))).run Tryd.prog w = .ok (.agg (bv A).toArray) w :=
  run_loadAt_mid w b o _ _ _ h Tryd.underlying28 rfl (by rw [bv_length, hA]; kernel_rfl)
theorem store_av {w : World} {g : Nat} {t : TypeId} {old : Array Value} {A : List Nat} (hA : A.length = 16) (h : w.heap[g]? = some (.cells old t (0, 0))) (ho : old.size = 16) :
    (Instr.storeAt 28 (.pointer (some ⟨g, 0, none⟩)) (.agg (bv A).toArray)).run Tryd.prog w = .ok () (w.setRow g (bv A).toArray) := by
  simp only [Instr.storeAt, Instr.sureAddr, Sem.run_bind, Sem.run_pure, Result.andThen_ok]
  exact run_storeVar_row w g t _ old _ h (by simp only [List.size_toArray, bv_length, hA]; kernel_rfl) (by simp [bv_length, hA, ho]) (bv_one A)
theorem results_one {fn : Func} {t : Tmp} {T : TypeId} (h : fn.results = #[.cell t T]) (tmps : Array Value) (P : Program) (w : World) (ad : Addr) (v : Value) (ht : tmps[t]? = some (.pointer (some ad))) (hl : (loadVar T ad).run P w = .ok v w) :
    (results fn tmps).run P w = .ok v w := by
  simp [results, h, ht, asAddr, hl]
end Go.Proofs.YtmccnmccegbdjaaDoor
