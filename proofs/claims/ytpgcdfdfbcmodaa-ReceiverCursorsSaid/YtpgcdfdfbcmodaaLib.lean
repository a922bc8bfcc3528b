/- General laws on single operations of the walk, used by this seat's texts: no condition but those that each law names. -/
import Derived.Test.YtpgcdfdfbcmodaaProg
import Derived.WalkKit
import Derived.WalkLawsBesides
import Derived.WalkSpells
import Derived.Lib.Hide
import Derived.Deep.QuietTactic
import Derived.BigQuiet
namespace Go.Proofs.Ytpgcdfdfbcmodaa
open Go.RowKit
set_option linter.unusedVariables false
set_option linter.unusedSimpArgs false

/-! Marks: where the walk shall stand still. -/
def Marked (p : Prop) : Prop := p
theorem Marked.intro {p : Prop} (h : p) : Marked p := h
theorem Marked.out {p : Prop} (h : Marked p) : p := h

section
variable {P : Program} {ops : Array Oper} {rest : List Oper} {o : Oper} {a : Act} {w w' : World} {Q : Exit → Act → World → Prop} {v : Value}
theorem wpList_mark (h : Marked (wpList P ops Q (o :: rest) a w)) : wpList P ops Q (o :: rest) a w := h
theorem wpList_run (hg : o.guard = none) (hrun : (execOp a.eval o).run P w = .ok (.value v) w') (h : wpList P ops Q rest (a.put o.dst v) w') : wpList P ops Q (o :: rest) a w := by
  refine wpList_plain hg fun K hK => ?_
  unfold Oper.wp
  rw [hrun]
  exact hK _ _ h
theorem wpList_do (hg : o.guard = none) (hrun : (execOp a.eval o).run P w = .ok .skip w') (h : wpList P ops Q rest (a.put o.dst undef) w') : wpList P ops Q (o :: rest) a w := by
  refine wpList_plain hg fun K hK => ?_
  unfold Oper.wp
  rw [hrun]
  exact hK _ _ h

theorem exec_load_row (o : Oper) (T : TypeId) (x : Operand) (ho : o.op = .load T x) (w : World) (g : Nat) (t : TypeId) (cs : Array Value) (fr : Nat × Nat) (hx : a.eval x = .pointer (some ⟨g, 0, none⟩)) (d : TypeDesc)
    (hu : P.underlying T = some d) (hd : (match d with | .struct _ | .array _ _ => true | _ => false) = true) (hi : (P.info? T).map (·.size) = some cs.size)
    (hg : w.heap[g]? = some (.cells cs t fr)) :
    (execOp a.eval o).run P w = .ok (.value (.agg cs)) w := by
  simp only [execOp, ho, hx, Instr.loadAt, Instr.sureAddr, Sem.run_bind, Sem.run_pure, Result.andThen_ok, run_loadVar_row w g t T cs fr d hg hu hd hi]

theorem exec_store_row (o : Oper) (T : TypeId) (x v : Operand) (ho : o.op = .store T x v) (w : World) (g : Nat) (t : TypeId) (cs cur : Array Value) (hx : a.eval x = .pointer (some ⟨g, 0, none⟩)) (hv : a.eval v = .agg cs)
    (hi : (P.info? T).map (·.size) = some cs.size) (hsz : cur.size = cs.size) (h1 : ∀ u ∈ cs.toList, u.oneCell' = true)
    (hg : w.heap[g]? = some (.cells cur t (0, 0))) :
    (execOp a.eval o).run P w = .ok .skip (w.setRow g cs) := by
  have hst := run_storeCells_at P g 0 t cs.toList 0 cur w hg (by simp; omega) h1
  have e : (cur.toList.take (0 + 0) ++ cs.toList ++ cur.toList.drop (0 + 0 + cs.toList.length)).toArray = cs := by
    rw [List.drop_of_length_le (by simp; omega)]; simp
  rw [e] at hst
  cases hq : P.info? T with
  | none => simp [hq] at hi
  | some i =>
    have hs : i.size = cs.size := by simpa [hq] using hi
    simp [execOp, ho, hx, hv, Instr.storeAt, Instr.sureAddr, storeVar, Sem.run_bind, Value.cells, sizeOf, typeInfo, hq, hs, hst]
/-- 'string(b)' where b's cells are the bytes l. -/
theorem exec_bytes_back (o : Oper) (src dst e : TypeId) (x : Operand) (ho : o.op = .convert src dst x) (w : World) (ad : Addr) (n cap : Nat) (hx : a.eval x = .slice (some ad) n cap) (l : List UInt8) (hn : n = l.length)
    (hs : P.underlying src = some (.slice e)) (he : P.underlying e = some (.int .u8)) (hd : P.underlying dst = some .string)
    (hc : ∀ j (hj : j < l.length), w.cell? (ad.add j) = some (.int .u8 (l[j].toNat : Int))) :
    (execOp a.eval o).run P w = .ok (.value (.string ⟨l.toArray⟩)) w := by
  subst hn
  simp only [execOp, ho, hx, Sem.run_bind, run_convert_bytes_back w src dst e ad cap l hs he hd hc]
  simp [Result.andThen]
/-- '[]byte(s)': a new block. -/
theorem exec_string_bytes (o : Oper) (src dst e : TypeId) (x : Operand) (ho : o.op = .convert src dst x) (w : World) (s : ByteArray) (hx : a.eval x = .string s)
    (hs : P.underlying src = some .string) (hd : P.underlying dst = some (.slice e)) (he : P.underlying e = some (.int .u8)) :
    (execOp a.eval o).run P w = .ok (.value (.slice (some ⟨w.heap.size, 0, none⟩) s.size (grownCap w s.size 0 e)))
      (w.drew.alloc (.cells (bytesRow s (grownCap w s.size 0 e)) e ((bytesRow s (grownCap w s.size 0 e)).size, (bytesRow s (grownCap w s.size 0 e)).size + 1))) := by
  simp only [execOp, ho, hx, Sem.run_bind, run_bytes_of_string w src dst e s hs hd he]
  simp [Result.andThen]
theorem madeCells_one (z : Value) (n : Nat) : madeCells #[z] n = (List.replicate n z).toArray := by
  apply Array.ext'
  apply List.ext_getElem?
  intro i
  simp only [madeCells, Array.toList_map, Array.toList_range, List.getElem?_map, List.getElem?_range, List.getElem?_replicate]
  by_cases h : i < n <;> simp [h, Nat.mod_one]
/-- 'make([]T, n)', T of one cell. -/
theorem exec_make (o : Oper) (t e : TypeId) (l c : Operand) (ho : o.op = .makeSlice t l c) (w : World) (n : Nat) (kl kc : IntKind) (hl : a.eval l = .int kl (n : Int)) (hc : a.eval c = .int kc (n : Int))
    (ht : P.underlying t = some (.slice e)) (z : Value) (hz : z.cells = #[z]) (bytes : Nat) (hi : (P.info? e).map (fun i => (i.zero, i.size, i.bytes)) = some (some z, 1, bytes)) (hb : (bytes : Int) * n ≤ 281474976710656) (hn : n ≤ 281474976710656) :
    (execOp a.eval o).run P w = .ok (.value (.slice (some ⟨w.heap.size, 0, none⟩) n n)) (w.alloc (.cells (List.replicate n z).toArray e)) := by
  obtain ⟨i, hi1, hi2, hi3, hi4⟩ := info_parts hi
  have h := run_make (P := P) w t e i z ht hi1 hi2 kl kc n n (by omega) (by omega) (by rw [hi4]; exact hb) (by omega)
  rw [hz, hi3, Nat.mul_one, Int.toNat_natCast, madeCells_one] at h
  simp only [execOp, ho, hl, hc, Sem.run_bind, h]
  simp [Result.andThen]
end

section
variable {P : Program} {ops : Array Oper} {rest : List Oper} {o : Oper} {a : Act} {Q : Exit → Act → World → Prop}
/-- 'append(out, x)': one element of so many cells, which the statement has just laid in a block of its own, goes behind an owned row. -/
theorem wpList_push (hgd : o.guard = none) (s x : Operand) (t : TypeId) (ho : o.op = .call { callee := .builtin .append, args := #[s, x], argTypes := #[t, t] })
    (B : Nat) (e : TypeId) (z : Value) (size bytes : Nat) (ht : P.underlying t = some (.slice e)) (hi : (P.info? e).map (fun i => (i.zero, i.size, i.bytes)) = some (some z, size, bytes)) (hzs : z.cells.size = size) (hsz : 0 < size)
    (w : World) (v : Value) (n : Nat) (xs : List Value) (hs : a.eval s = v) (hown : w.ownsRow B e size v n xs) (ys : List Value) (hx : a.eval x = .slice (some ⟨w.heap.size, 0, none⟩) 1 1) (hl : ys.length = size) (h1 : ∀ u ∈ ys, u.oneCell' = true)
    (hb : (n + 1) * bytes ≤ 140737488355328) (hn : n + 1 ≤ maxLen) (hB : B ≤ w.heap.size)
    (h : ∀ v' w', w'.ownsRow B e size v' (n + 1) (xs ++ ys) → Below B w w' → w.heap.size < w'.heap.size → wpList P ops Q rest (a.put o.dst v') w') : wpList P ops Q (o :: rest) a (w.alloc (.cells ys.toArray e)) := by
  obtain ⟨i, hi1, hi2, hi3, hi4⟩ := info_parts hi
  refine wpList_append_own _ hgd s x t ho B e i z size bytes ht hi1 hi2 hi3 hi4 hzs hsz v n xs hs (hown.alloc _) ⟨w.heap.size, 0, none⟩ 1 1 ys hx (by omega) ?_ h1 hn hb (by simp; omega) ?_
  · intro j u hu
    rw [Addr.add_lit, Nat.zero_add, World.cell?_alloc_new]
    simpa using hu
  · intro v' w' h2 h3 _
    have hz : (w.alloc (.cells ys.toArray e)).heap.size = w.heap.size + 1 := by simp
    refine h v' w' h2 (((Below.refl B w).alloc hB _).grown h3 (by omega) ?_) (by have := h3.size; omega)
    intro k hk
    exact (hown.lt k hk).1
end

theorem rounds_go {P : Program} {c : Code} {Q : Exit → Act → World → Prop} {n : Nat} {a : Act} {w : World} (h : c.wp P (Exit.then (Code.rounds P c Q n) Q) a w) :
    Code.rounds P c Q (n + 1) a w := h
theorem setRow_alloc (w : World) (cs cs' : Array Value) (t : TypeId) : (w.alloc (.cells cs t)).setRow w.heap.size cs' = w.alloc (.cells cs' t) := by
  unfold World.setRow World.alloc
  congr 1
  apply Array.ext_getElem?
  intro k
  simp only [Array.getElem?_modify, Array.getElem?_push]
  by_cases hk : k = w.heap.size
  · subst hk; simp
  · have : w.heap.size ≠ k := fun e => hk e.symm
    simp [hk, this]
theorem Calls.below_of_same {P : Program} {f : FuncId} {args : Array Value} {w : World} {v : Value} (h : Calls P f args w fun e w' => e = .returned v ∧ w = w') :
    Calls P f args w fun e w' => e = .returned v ∧ Below w.heap.size w w' := h.mono fun _ _ ⟨he, hw⟩ => ⟨he, hw ▸ Below.refl _ _⟩
theorem bn {w a b : World} (h : Below w.heap.size w a) (k : Below a.heap.size a b) : Below w.heap.size w b := h.trans (k.mono h.size)
theorem below_drewN {B : Nat} {a w : World} (h : Below B a w) (n : Nat) : Below B a (w.drewN n) := ⟨h.os, h.tape, h.output, h.size, h.block⟩

end Go.Proofs.Ytpgcdfdfbcmodaa
