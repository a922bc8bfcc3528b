/- The reference's receiver as it lies in memory; the walks of its May, New. -/
import Derived.Test.YtpgcdfdfbcmodaaRecAwake
import Derived.Test.YtpgcdfdfbcmodaaRefSack2
namespace Go.Proofs.Ytpgcdfdfbcmodaa
open Go.RowKit Go.Sort
set_option linter.unusedVariables false
set_option linter.unusedSimpArgs false
structure Rq where
  g : Nat
  gi : Nat
  gc : Nat
  gd : Nat
def Rq.all (q : Rq) : List Nat := [q.g, q.gi, q.gc, q.gd]
def dropL (R : Rv) : List Nat := (List.range 20).map fun e : Nat => R.D (e : Int)
def refRow (R : Rv) (q : Rq) : Array Value := #[.int .i64 R.ses, .int .i64 R.ep, .slice (some ⟨q.gi, 0, none⟩) R.B.length R.B.length, .slice (some ⟨q.gc, 0, none⟩) R.B.length R.B.length, .slice (some ⟨q.gd, 0, none⟩) 20 20]
structure RqAt (R : Rv) (q : Rq) (w : World) : Prop where
  row : w.heap[q.g]? = some (.cells (refRow R q) 54 (0, 0))
  irow : BRow R.B q.gi R.B.length w
  crow : w.heap[q.gc]? = some (.cells (strsV R.C) 9 (0, 0))
  drow : w.heap[q.gd]? = some (.cells (intsV (dropL R)).toArray 3 (0, 0))
  wf : R.wf
  one : 1 ≤ R.B.length
  le : R.B.length ≤ 256
  ne : q.all.Nodup
theorem RqAt.lt {R : Rv} {q : Rq} {w : World} (h : RqAt R q w) : ∀ k ∈ q.all, k < w.heap.size := by
  have lt : ∀ {k : Nat} {o}, w.heap[k]? = some o → k < w.heap.size := fun {k o} e => (Array.getElem?_eq_some_iff.1 e).1
  intro k hk
  simp only [Rq.all, List.mem_cons, List.not_mem_nil, or_false] at hk
  rcases hk with rfl | rfl | rfl | rfl
  · exact lt h.row
  · exact h.irow.lt
  · exact lt h.crow
  · exact lt h.drow
theorem RqAt.keep {R : Rv} {q : Rq} {w w' : World} (h : RqAt R q w) (hk : ∀ k ∈ q.all, w'.heap[k]? = w.heap[k]?) : RqAt R q w' :=
  ⟨(hk _ (by simp [Rq.all])).trans h.row, h.irow.keep (hk _ (by simp [Rq.all])), (hk _ (by simp [Rq.all])).trans h.crow, (hk _ (by simp [Rq.all])).trans h.drow, h.wf, h.one, h.le, h.ne⟩
theorem RqAt.below {R : Rv} {q : Rq} {w w' : World} {N : Nat} (h : RqAt R q w) (hb : Below N w w') (hN : w.heap.size ≤ N) : RqAt R q w' := h.keep fun k hk => hb.block k (Nat.lt_of_lt_of_le (h.lt k hk) hN)
theorem RqAt.chg {R : Rv} {q : Rq} {w w' : World} {K : List Nat} (h : RqAt R q w) (hc : Chg K w w') (hk : ∀ k ∈ q.all, k ∉ K) : RqAt R q w' := h.keep fun k hk2 => hc.other k (h.lt k hk2) (hk k hk2)
theorem RqAt.cells {R : Rv} {q : Rq} {w : World} (h : RqAt R q w) :
    w.cell? ⟨q.g, 0, none⟩ = some (.int .i64 R.ses) ∧ w.cell? ⟨q.g, 1, none⟩ = some (.int .i64 R.ep) ∧ w.cell? ⟨q.g, 2, none⟩ = some (.slice (some ⟨q.gi, 0, none⟩) R.B.length R.B.length) ∧ w.cell? ⟨q.g, 3, none⟩ = some (.slice (some ⟨q.gc, 0, none⟩) R.B.length R.B.length) ∧ w.cell? ⟨q.g, 4, none⟩ = some (.slice (some ⟨q.gd, 0, none⟩) 20 20) :=
  ⟨by rw [cell_of_row _ _ 0 _ _ _ h.row]; rfl, by rw [cell_of_row _ _ 1 _ _ _ h.row]; rfl, by rw [cell_of_row _ _ 2 _ _ _ h.row]; rfl, by rw [cell_of_row _ _ 3 _ _ _ h.row]; rfl, by rw [cell_of_row _ _ 4 _ _ _ h.row]; rfl⟩
theorem RqAt.icell {R : Rv} {q : Rq} {w : World} (h : RqAt R q w) (i : Nat) (hi : i < R.B.length) : w.cell? ⟨q.gi, i, none⟩ = some (.bool (R.B.getD i false)) := h.irow.cell i hi
theorem RqAt.ccell {R : Rv} {q : Rq} {w : World} (h : RqAt R q w) (i : Nat) (hi : i < R.B.length) : w.cell? ⟨q.gc, i, none⟩ = some (.string (R.C.getD i ⟨#[]⟩)) := by
  rw [cell_of_row _ _ _ _ _ _ h.crow]
  have hc : i < R.C.length := by rw [h.wf.lc]; exact hi
  simp [strsV, List.getD_eq_getElem?_getD, hc]
theorem RqAt.dcell {R : Rv} {q : Rq} {w : World} (h : RqAt R q w) (e : Nat) (he : e < 20) : w.cell? ⟨q.gd, e, none⟩ = some (.int .i64 (R.D (e : Int) : Nat)) := by
  rw [cell_of_row _ _ _ _ _ _ h.drow]
  simp [intsV, dropL, he]
theorem RqAt.nodup {R : Rv} {q : Rq} {w : World} (h : RqAt R q w) : q.g ≠ q.gi ∧ q.g ≠ q.gc ∧ q.g ≠ q.gd ∧ q.gi ≠ q.gc ∧ q.gi ≠ q.gd ∧ q.gc ≠ q.gd := by
  have := h.ne
  simp only [Rq.all, List.nodup_cons, List.mem_cons, List.not_mem_nil, or_false, not_or, List.nodup_nil, and_true, not_false_eq_true] at this
  obtain ⟨⟨a1, a2, a3⟩, ⟨b1, b2⟩, d⟩ := this
  exact ⟨a1, a2, a3, b1, b2, d⟩
theorem QMay_calls (w : World) (ses ep n : Int) : Calls Try.prog 22 #[.int .i64 ses, .int .i64 ep, .int .i64 n] w fun e w' => e = .returned (.bool (mayR ses ep n)) ∧ w = w' := by
  unfold mayR
  cases a1 : decide (0 ≤ ses) with
  | false =>
    rw [decide_eq_false (show ¬ (0 ≤ ses ∧ ses < 4294967296) by simp at a1; omega)]
    go_enter Try.func22, Try.ntmps22
    go_wp2
    go_ret
    exact ⟨rfl, rfl⟩
  | true =>
    cases a2 : decide (ses < 4294967296) with
    | false =>
      rw [decide_eq_false (show ¬ (0 ≤ ses ∧ ses < 4294967296) by simp at a2; omega)]
      go_enter Try.func22, Try.ntmps22
      go_wp2
      go_ret
      exact ⟨rfl, rfl⟩
    | true =>
      rw [decide_eq_true (show 0 ≤ ses ∧ ses < 4294967296 by simp at a1 a2; omega)]
      cases a3 : decide (0 ≤ ep) with
      | false =>
        rw [decide_eq_false (show ¬ (0 ≤ ep ∧ ep < 4294967296) by simp at a3; omega)]
        go_enter Try.func22, Try.ntmps22
        go_wp2
        go_ret
        exact ⟨rfl, rfl⟩
      | true =>
        cases a4 : decide (ep < 4294967296) with
        | false =>
          rw [decide_eq_false (show ¬ (0 ≤ ep ∧ ep < 4294967296) by simp at a4; omega)]
          go_enter Try.func22, Try.ntmps22
          go_wp2
          go_ret
          exact ⟨rfl, rfl⟩
        | true =>
          rw [decide_eq_true (show 0 ≤ ep ∧ ep < 4294967296 by simp at a3 a4; omega)]
          cases a5 : decide (1 ≤ n) with
          | false =>
            rw [decide_eq_false (show ¬ (1 ≤ n ∧ n ≤ 256) by simp at a5; omega)]
            go_enter Try.func22, Try.ntmps22
            go_wp2
            go_ret
            exact ⟨rfl, rfl⟩
          | true =>
            have a6 : decide (1 ≤ n ∧ n ≤ 256) = decide (n ≤ 256) := by congr 1; rw [eq_iff_iff]; simp at a5; omega
            have A6 := Lib.hid a6; clear a6
            go_enter Try.func22, Try.ntmps22
            go_wp2
            go_ret
            exact ⟨by rw [A6.out]; rfl, rfl⟩
theorem rows3 (w : World) (o1 o2 o3 : Obj) : (((w.alloc o1).alloc o2).alloc o3).heap[w.heap.size]? = some o1 ∧ (((w.alloc o1).alloc o2).alloc o3).heap[w.heap.size + 1]? = some o2 ∧ (((w.alloc o1).alloc o2).alloc o3).heap[w.heap.size + 2]? = some o3 ∧ (((w.alloc o1).alloc o2).alloc o3).heap.size = w.heap.size + 3 ∧ Below w.heap.size w (((w.alloc o1).alloc o2).alloc o3) := by
  obtain ⟨h1, h2, h3⟩ := rows_three w o1 o2 o3
  exact ⟨h1, h2, h3, by simp, (((Below.refl w.heap.size w).alloc (Nat.le_refl _) o1).alloc (by simp) o2).alloc (by simp; omega) o3⟩
def QNewPost (ses ep : Int) (n : Nat) (w : World) (e : Ending) (w' : World) : Prop :=
  ∃ q : Rq, e = .returned (.pointer (some ⟨q.g, 0, none⟩)) ∧ RqAt (Rv.start ses ep n) q w' ∧ Below w.heap.size w w' ∧ ∀ k ∈ q.all, w.heap.size ≤ k
theorem QNewPost.drew {ses ep : Int} {n : Nat} {w w' : World} {e : Ending} (h : QNewPost ses ep n w e w') : QNewPost ses ep n w e w'.drew := by
  obtain ⟨q, h1, h2, h3, h4⟩ := h
  exact ⟨q, h1, h2.keep (fun _ _ => rfl), h3.drew, h4⟩
theorem q_fin {w W : World} {ses ep : Int} {n gi gc gd gn : Nat} (hgn : gn = W.heap.size) (h0 : 0 ≤ ses) (h1 : ses < 4294967296) (h2 : 0 ≤ ep) (h3 : ep < 4294967296) (h4 : 1 ≤ n) (h5 : n ≤ 256) (hb : Below w.heap.size w W)
    (hi : W.heap[gi]? = some (.cells (Array.replicate n (Value.bool false)) 4 (0, 0))) (hc : W.heap[gc]? = some (.cells (Array.replicate n (Value.string ⟨#[]⟩)) 9 (0, 0))) (hd : W.heap[gd]? = some (.cells (Array.replicate 20 (Value.int .i64 0)) 3 (0, 0)))
    (l1 : w.heap.size ≤ gi) (l2 : w.heap.size ≤ gc) (l3 : w.heap.size ≤ gd) (n1 : gi ≠ gc) (n2 : gi ≠ gd) (n3 : gc ≠ gd) :
    QNewPost ses ep n w (.returned (.pointer (some ⟨gn, 0, none⟩))) (W.alloc (.cells #[.int .i64 ses, .int .i64 ep, .slice (some ⟨gi, 0, none⟩) n n, .slice (some ⟨gc, 0, none⟩) n n, .slice (some ⟨gd, 0, none⟩) 20 20] 54)) := by
  subst hgn
  have lt : ∀ {k : Nat} {o}, W.heap[k]? = some o → k < W.heap.size := fun {k o} e => (Array.getElem?_eq_some_iff.1 e).1
  have ol := fun k (hk : k < W.heap.size) => Below.heap_alloc W (.cells #[.int .i64 ses, .int .i64 ep, .slice (some ⟨gi, 0, none⟩) n n, .slice (some ⟨gc, 0, none⟩) n n, .slice (some ⟨gd, 0, none⟩) 20 20] 54) k hk
  have hsz := hb.size
  refine ⟨⟨W.heap.size, gi, gc, gd⟩, rfl, ⟨?_, ?_, ?_, ?_, ⟨h0, h1, h2, h3, by simp [Rv.start], fun c hc => ?_⟩, by simpa [Rv.start] using h4, by simpa [Rv.start] using h5, ?_⟩, hb.alloc hsz _, ?_⟩
  · rw [heap_alloc_new]
    simp [refRow, Rv.start]
  · refine ⟨Array.replicate n (Value.bool false), (ol _ (lt hi)).trans hi, by simp [Rv.start], by simp [Rv.start], fun j b hj => ?_⟩
    rw [show (Rv.start ses ep n).B = List.replicate n false from rfl, List.getElem?_replicate] at hj
    split at hj
    · cases hj
      rename_i h
      simp [Array.getElem?_replicate, h]
    · cases hj
  · rw [show (⟨W.heap.size, gi, gc, gd⟩ : Rq).gc = gc from rfl, ol _ (lt hc), hc]; simp [strsV, Rv.start]
  · rw [show (⟨W.heap.size, gi, gc, gd⟩ : Rq).gd = gd from rfl, ol _ (lt hd), hd]; rfl
  · rw [show (Rv.start ses ep n).C = List.replicate n ⟨#[]⟩ from rfl, List.mem_replicate] at hc
    rw [hc.2]; decide
  · have q1 := lt hi; have q2 := lt hc; have q3 := lt hd
    simp only [Rq.all, List.nodup_cons, List.mem_cons, List.not_mem_nil, or_false, not_or, List.nodup_nil, and_true, not_false_eq_true]
    omega
  · intro k hk
    simp only [Rq.all, List.mem_cons, List.not_mem_nil, or_false] at hk
    rcases hk with rfl | rfl | rfl | rfl <;> (try simp only) <;> omega
set_option maxRecDepth 100000 in
set_option maxHeartbeats 4000000 in
theorem QNew_calls (w : World) (ses ep : Int) (n : Nat) (h0 : 0 ≤ ses) (h1 : ses < 4294967296) (h2 : 0 ≤ ep) (h3 : ep < 4294967296) (h4 : 1 ≤ n) (h5 : n ≤ 256) :
    Calls Try.prog 23 #[.int .i64 ses, .int .i64 ep, .int .i64 n] w (QNewPost ses ep n w) := by
  have hmk : ∀ w : World, (Instr.makeSlice 51 (.int .i64 n) (.int .i64 n)).run Try.prog w = .ok (.slice (some ⟨w.heap.size, 0, none⟩) n n) (w.alloc (.cells (Array.replicate n (Value.string ⟨#[]⟩)) 9)) := fun w => by
    obtain ⟨i, hi1, hi2, hi3, hi4⟩ := info_parts (show (Try.prog.info? 9).map (fun i => (i.zero, i.size, i.bytes)) = some (some (.string ⟨#[]⟩), 1, 16) from by kernel_rfl)
    have h := run_make (P := Try.prog) (w := w) 51 9 i (.string ⟨#[]⟩) Try.underlying51 hi1 hi2 .i64 .i64 n n (by omega) (by omega) (by rw [hi4]; omega) (by omega)
    rw [show (Value.string ⟨#[]⟩).cells = #[.string ⟨#[]⟩] from rfl, hi3, Nat.mul_one, Int.toNat_natCast, madeCells_one, List.toArray_replicate] at h
    exact h
  have hmb : ∀ w : World, (Instr.makeSlice 50 (.int .i64 n) (.int .i64 n)).run Try.prog w = .ok (.slice (some ⟨w.heap.size, 0, none⟩) n n) (w.alloc (.cells (Array.replicate n (Value.bool false)) 4)) := fun w => by
    obtain ⟨i, hi1, hi2, hi3, hi4⟩ := info_parts info_bool
    have h := run_make (P := Try.prog) (w := w) 50 4 i (.bool false) Try.underlying50 hi1 hi2 .i64 .i64 n n (by omega) (by omega) (by rw [hi4]; omega) (by omega)
    rw [show (Value.bool false).cells = #[.bool false] from rfl, hi3, Nat.mul_one, Int.toNat_natCast, madeCells_one, List.toArray_replicate] at h
    exact h
  have hmi : ∀ w : World, (Instr.makeSlice 52 (.int .i64 20) (.int .i64 20)).run Try.prog w = .ok (.slice (some ⟨w.heap.size, 0, none⟩) 20 20) (w.alloc (.cells (Array.replicate 20 (Value.int .i64 0)) 3)) := fun w => by
    obtain ⟨i, hi1, hi2, hi3, hi4⟩ := info_parts info_i64
    have h := run_make (P := Try.prog) (w := w) 52 3 i (.int .i64 0) Try.underlying52 hi1 hi2 .i64 .i64 20 20 (by omega) (by omega) (by rw [hi4]; omega) (by omega)
    rw [show (Value.int .i64 0).cells = #[.int .i64 0] from rfl, hi3, Nat.mul_one, show (20 : Int).toNat = 20 from rfl, madeCells_one, List.toArray_replicate] at h
    exact h
  go_enter Try.func23, Try.ntmps23
  go_wp2_with fail
  go_region
  all_goals clear hmk hmb hmi
  all_goals
    go_wp2
    go_ret
    first
    | (obtain ⟨r1, r2, r3, r4, r5⟩ := rows3 w (.cells (Array.replicate n (Value.bool false)) 4) (.cells (Array.replicate n (Value.string ⟨#[]⟩)) 9) (.cells (Array.replicate 20 (Value.int .i64 0)) 3); exact QNewPost.drew (q_fin (by rw [r4]) h0 h1 h2 h3 h4 h5 r5 r1 r2 r3 (by omega) (by omega) (by omega) (by omega) (by omega) (by omega)))
    | (obtain ⟨r1, r2, r3, r4, r5⟩ := rows3 w (.cells (Array.replicate n (Value.bool false)) 4) (.cells (Array.replicate 20 (Value.int .i64 0)) 3) (.cells (Array.replicate n (Value.string ⟨#[]⟩)) 9); exact QNewPost.drew (q_fin (by rw [r4]) h0 h1 h2 h3 h4 h5 r5 r1 r3 r2 (by omega) (by omega) (by omega) (by omega) (by omega) (by omega)))
    | (obtain ⟨r1, r2, r3, r4, r5⟩ := rows3 w (.cells (Array.replicate n (Value.string ⟨#[]⟩)) 9) (.cells (Array.replicate n (Value.bool false)) 4) (.cells (Array.replicate 20 (Value.int .i64 0)) 3); exact QNewPost.drew (q_fin (by rw [r4]) h0 h1 h2 h3 h4 h5 r5 r2 r1 r3 (by omega) (by omega) (by omega) (by omega) (by omega) (by omega)))
    | (obtain ⟨r1, r2, r3, r4, r5⟩ := rows3 w (.cells (Array.replicate n (Value.string ⟨#[]⟩)) 9) (.cells (Array.replicate 20 (Value.int .i64 0)) 3) (.cells (Array.replicate n (Value.bool false)) 4); exact QNewPost.drew (q_fin (by rw [r4]) h0 h1 h2 h3 h4 h5 r5 r3 r1 r2 (by omega) (by omega) (by omega) (by omega) (by omega) (by omega)))
    | (obtain ⟨r1, r2, r3, r4, r5⟩ := rows3 w (.cells (Array.replicate 20 (Value.int .i64 0)) 3) (.cells (Array.replicate n (Value.bool false)) 4) (.cells (Array.replicate n (Value.string ⟨#[]⟩)) 9); exact QNewPost.drew (q_fin (by rw [r4]) h0 h1 h2 h3 h4 h5 r5 r2 r3 r1 (by omega) (by omega) (by omega) (by omega) (by omega) (by omega)))
    | (obtain ⟨r1, r2, r3, r4, r5⟩ := rows3 w (.cells (Array.replicate 20 (Value.int .i64 0)) 3) (.cells (Array.replicate n (Value.string ⟨#[]⟩)) 9) (.cells (Array.replicate n (Value.bool false)) 4); exact QNewPost.drew (q_fin (by rw [r4]) h0 h1 h2 h3 h4 h5 r5 r3 r2 r1 (by omega) (by omega) (by omega) (by omega) (by omega) (by omega)))
end Go.Proofs.Ytpgcdfdfbcmodaa
