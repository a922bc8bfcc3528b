/- The sender as it lies in memory; the walks of its function literals, due, Done, Err, There, Tries. -/
import Derived.Test.YtcmgmdgeimmbeaaSenPlain
import Derived.IntWalk
namespace Go.Proofs.Ytcmgmdgeimmbeaa
open Go.RowKit
set_option linter.unusedVariables false
set_option linter.unusedSimpArgs false
structure Sa where
  g : Nat
  gm : Nat
  gc : Nat
  gt : Nat
  ga : Nat
  cap : Nat
def senRow (S : Sn) (a : Sa) : Array Value := #[.pointer (some ⟨a.gm, 0, none⟩), .int .i64 S.ses, .int .i64 S.ep, .slice (some ⟨a.gc, 0, none⟩) S.B.length a.cap, .slice (some ⟨a.gt, 0, none⟩) S.B.length S.B.length, .slice (some ⟨a.ga, 0, none⟩) S.B.length S.B.length, .int .i64 (S.now : Nat), .bool S.lost]
def Sa.all (a : Sa) : List Nat := [a.g, a.gm, a.gc, a.gt, a.ga]
structure SnAt (S : Sn) (a : Sa) (w : World) : Prop where
  row : w.heap[a.g]? = some (.cells (senRow S a) 67 (0, 0))
  mp : Mp S.B a.gm w
  crow : ∃ cs t fr, w.heap[a.gc]? = some (.cells cs t fr) ∧ ∀ (j : Nat) c, S.C[j]? = some c → cs[j]? = some (.string c)
  trow : w.heap[a.gt]? = some (.cells (intsV S.T).toArray 3 (0, 0))
  arow : w.heap[a.ga]? = some (.cells (intsV S.A).toArray 3 (0, 0))
  wf : S.wf
  ne : a.all.Nodup
theorem SnAt.lt {S : Sn} {a : Sa} {w : World} (h : SnAt S a w) : ∀ k ∈ a.all, k < w.heap.size := by
  have lt : ∀ {k : Nat} {o}, w.heap[k]? = some o → k < w.heap.size := fun {k o} e => (Array.getElem?_eq_some_iff.1 e).1
  intro k hk
  obtain ⟨cs, t, fr, hc, -⟩ := h.crow
  simp only [Sa.all, List.mem_cons, List.not_mem_nil, or_false] at hk
  rcases hk with rfl | rfl | rfl | rfl | rfl
  · exact lt h.row
  · exact h.mp.lt
  · exact lt hc
  · exact lt h.trow
  · exact lt h.arow
theorem SnAt.keep {S : Sn} {a : Sa} {w w' : World} (h : SnAt S a w) (hk : ∀ k ∈ a.all, w'.heap[k]? = w.heap[k]?) : SnAt S a w' := by
  obtain ⟨cs, t, fr, hc, hc2⟩ := h.crow
  exact ⟨(hk _ (by simp [Sa.all])).trans h.row, ⟨(hk _ (by simp [Sa.all])).trans h.mp.row, h.mp.one, h.mp.le⟩, ⟨cs, t, fr, (hk _ (by simp [Sa.all])).trans hc, hc2⟩, (hk _ (by simp [Sa.all])).trans h.trow, (hk _ (by simp [Sa.all])).trans h.arow, h.wf, h.ne⟩
theorem SnAt.below {S : Sn} {a : Sa} {w w' : World} {N : Nat} (h : SnAt S a w) (hb : Below N w w') (hN : w.heap.size ≤ N) : SnAt S a w' := h.keep fun k hk => hb.block k (Nat.lt_of_lt_of_le (h.lt k hk) hN)
theorem SnAt.upd {S : Sn} {a : Sa} {w w' : World} {k : Nat} (h : SnAt S a w) (hu : Upd k w w') (hk : k ∉ a.all) : SnAt S a w' := h.keep fun i hi => hu.other i fun e => hk (e ▸ hi)
theorem SnAt.cells {S : Sn} {a : Sa} {w : World} (h : SnAt S a w) :
    w.cell? ⟨a.g, 0, none⟩ = some (.pointer (some ⟨a.gm, 0, none⟩)) ∧ w.cell? ⟨a.g, 1, none⟩ = some (.int .i64 S.ses) ∧ w.cell? ⟨a.g, 2, none⟩ = some (.int .i64 S.ep) ∧ w.cell? ⟨a.g, 3, none⟩ = some (.slice (some ⟨a.gc, 0, none⟩) S.B.length a.cap) ∧
    w.cell? ⟨a.g, 4, none⟩ = some (.slice (some ⟨a.gt, 0, none⟩) S.B.length S.B.length) ∧ w.cell? ⟨a.g, 5, none⟩ = some (.slice (some ⟨a.ga, 0, none⟩) S.B.length S.B.length) ∧ w.cell? ⟨a.g, 6, none⟩ = some (.int .i64 (S.now : Nat)) ∧ w.cell? ⟨a.g, 7, none⟩ = some (.bool S.lost) :=
  ⟨by rw [cell_of_row _ _ 0 _ _ _ h.row]; rfl, by rw [cell_of_row _ _ 1 _ _ _ h.row]; rfl, by rw [cell_of_row _ _ 2 _ _ _ h.row]; rfl, by rw [cell_of_row _ _ 3 _ _ _ h.row]; rfl,
   by rw [cell_of_row _ _ 4 _ _ _ h.row]; rfl, by rw [cell_of_row _ _ 5 _ _ _ h.row]; rfl, by rw [cell_of_row _ _ 6 _ _ _ h.row]; rfl, by rw [cell_of_row _ _ 7 _ _ _ h.row]; rfl⟩
theorem intsV_cell {w : World} {g : Nat} {l : List Nat} {t : TypeId} {fr : Nat × Nat} (h : w.heap[g]? = some (.cells (intsV l).toArray t fr)) (i : Nat) (hi : i < l.length) : w.cell? ⟨g, i, none⟩ = some (.int .i64 (l.getD i 0 : Nat)) := by
  rw [cell_of_row _ _ _ _ _ _ h]
  simp [intsV, hi, List.getD_eq_getElem?_getD]
theorem SnAt.tcell {S : Sn} {a : Sa} {w : World} (h : SnAt S a w) (i : Nat) (hi : i < S.B.length) : w.cell? ⟨a.gt, i, none⟩ = some (.int .i64 (S.T.getD i 0 : Nat)) := intsV_cell h.trow i (by rw [h.wf.lt]; exact hi)
theorem SnAt.acell {S : Sn} {a : Sa} {w : World} (h : SnAt S a w) (i : Nat) (hi : i < S.B.length) : w.cell? ⟨a.ga, i, none⟩ = some (.int .i64 (S.A.getD i 0 : Nat)) := intsV_cell h.arow i (by rw [h.wf.la]; exact hi)
set_option maxHeartbeats 4000000 in
set_option maxRecDepth 100000 in
theorem hold_calls (w : World) (S : Sn) (a : Sa) (bx i : Nat) (h : SnAt S a w) (hs : S.now < 1000000) (hb : w.cell? ⟨bx, 0, none⟩ = some (.pointer (some ⟨a.g, 0, none⟩))) (hi : i < S.B.length) :
    Calls Try.prog 46 #[.int .i64 (i : Int), .pointer (some ⟨bx, 0, none⟩)] w fun e w' => e = .returned (.bool (S.hold i)) ∧ ∃ q, w' = w.drewN q := by
  obtain ⟨-, -, -, -, c4, c5, c6, -⟩ := h.cells
  have t0 := h.tcell i hi
  have a0 := h.acell i hi
  have hle := h.mp.le
  have ha := h.wf.ale i
  unfold Sn.hold
  clear h
  generalize S.T.getD i 0 = t at *
  generalize S.A.getD i 0 = at0 at *
  generalize S.B.length = n at *
  generalize S.now = now at *
  have hii : (i : Int) < (n : Int) := by omega
  have hi0 : (0 : Int) ≤ (i : Int) := by omega
  by_cases h0 : 0 < t
  · have hd : decide ((0 : Int) < (t : Int)) = true := by rw [decide_eq_true_eq]; omega
    have h0' : (0 : Int) < (t : Int) := by omega
    have hw : IntKind.i64.wrap ((now : Int) - (at0 : Int)) = (now : Int) - (at0 : Int) := IntWalk.i64_in _ (by omega)
    rw [decide_eq_true h0, Bool.true_and]
    have he : decide ((now : Int) - (at0 : Int) < 4) = decide (now < at0 + 4) := by congr 1; rw [eq_iff_iff]; omega
    have HE := Lib.hid he; clear he
    clear ha hs hle
    go_enter Try.func46, Try.ntmps46
    go_wp2
    go_quiet (fail)
    go_wp2
    go_ret
    exact ⟨by rw [← HE.out]; rfl, nq, rfl⟩
  · have hd : decide ((0 : Int) < (t : Int)) = false := by rw [decide_eq_false_iff_not]; omega
    have h0' : ¬ (0 : Int) < (t : Int) := by omega
    rw [decide_eq_false h0, Bool.false_and]
    clear ha hs hle
    go_enter Try.func46, Try.ntmps46
    go_wp2
    go_quiet (fail)
    go_wp2
    go_ret
    exact ⟨rfl, nq, rfl⟩
set_option maxHeartbeats 4000000 in
set_option maxRecDepth 100000 in
theorem tried_calls (w : World) (S : Sn) (a : Sa) (bx i : Nat) (h : SnAt S a w) (hb : w.cell? ⟨bx, 0, none⟩ = some (.pointer (some ⟨a.g, 0, none⟩))) (hi : i < S.B.length) :
    Calls Try.prog 39 #[.int .i64 (i : Int), .pointer (some ⟨bx, 0, none⟩)] w fun e w' => e = .returned (.bool (S.tried i)) ∧ ∃ q, w' = w.drewN q := by
  obtain ⟨-, -, -, -, c4, -⟩ := h.cells
  have t0 := h.tcell i hi
  have hle := h.mp.le
  unfold Sn.tried
  clear h
  generalize S.T.getD i 0 = t at *
  generalize S.B.length = n at *
  have hii : (i : Int) < (n : Int) := by omega
  have hi0 : (0 : Int) ≤ (i : Int) := by omega
  have he : decide ((8 : Int) ≤ (t : Int)) = decide (8 ≤ t) := by congr 1; rw [eq_iff_iff]; omega
  have HE := Lib.hid he; clear he
  clear hle
  go_enter Try.func39, Try.ntmps39
  go_wp2
  go_ret
  exact ⟨by rw [← HE.out]; rfl, 0, rfl⟩
set_option maxHeartbeats 4000000 in
theorem Done_calls (w : World) (S : Sn) (a : Sa) (h : SnAt S a w) :
    Calls Try.prog 16 #[.pointer (some ⟨a.g, 0, none⟩)] w fun e w' => e = .returned (.bool S.full) ∧ Below w.heap.size w w' := by
  obtain ⟨c0, -⟩ := h.cells
  have hf := Full_calls w a.gm S.B h.mp
  have HF := Lib.hid hf; clear hf h
  go_enter Try.func16, Try.ntmps16
  go_wp2_with fail
  refine HF.out.mono ?_
  rintro e w1 ⟨rfl, hb⟩
  go_wp2
  go_ret
  exact ⟨rfl, hb⟩
def Sn.err (S : Sn) : Nat := if S.lost = true then 16 else if S.full = true then 15 else 0
set_option maxHeartbeats 4000000 in
theorem Err_calls (w : World) (S : Sn) (a : Sa) (h : SnAt S a w) :
    Calls Try.prog 19 #[.pointer (some ⟨a.g, 0, none⟩)] w fun e w' => e = .returned (.int .i64 (S.err : Nat)) ∧ Below w.heap.size w w' := by
  obtain ⟨c0, -, -, -, -, -, -, c7⟩ := h.cells
  have hf := Full_calls w a.gm S.B h.mp
  rw [show decide (baseB S.B = S.B.length) = S.full from rfl] at hf
  have HF := Lib.hid hf; clear hf h
  unfold Sn.err
  cases hl : S.lost with
  | true =>
    rw [hl] at c7
    rw [if_pos rfl]
    go_enter Try.func19, Try.ntmps19
    go_wp2
    go_ret
    exact ⟨rfl, Below.refl _ _⟩
  | false =>
    rw [hl] at c7
    rw [if_neg (by simp)]
    cases hg : S.full with
    | true =>
      rw [hg] at HF
      rw [if_pos rfl]
      go_enter Try.func19, Try.ntmps19
      go_wp2_with fail
      refine HF.out.mono ?_
      rintro e w1 ⟨rfl, hb⟩
      go_wp2
      go_ret
      exact ⟨rfl, hb⟩
    | false =>
      rw [hg] at HF
      rw [if_neg (by simp)]
      go_enter Try.func19, Try.ntmps19
      go_wp2_with fail
      refine HF.out.mono ?_
      rintro e w1 ⟨rfl, hb⟩
      go_wp2
      go_ret
      exact ⟨rfl, hb⟩
set_option maxHeartbeats 4000000 in
theorem There_calls (w : World) (S : Sn) (a : Sa) (h : SnAt S a w) :
    Calls Try.prog 12 #[.pointer (some ⟨a.g, 0, none⟩)] w fun e w' => e = .returned (.pointer (some ⟨w.heap.size, 0, none⟩)) ∧ Mp S.B w.heap.size w' ∧ Below w.heap.size w w' ∧ w'.heap.size = w.heap.size + 1 := by
  obtain ⟨c0, -⟩ := h.cells
  have hf := Copy_calls w a.gm S.B h.mp
  have HF := Lib.hid hf; clear hf h
  go_enter Try.func12, Try.ntmps12
  go_wp2_with fail
  refine HF.out.mono ?_
  rintro e w1 ⟨rfl, h1, h2, h3⟩
  go_wp2
  go_ret
  exact ⟨rfl, h1, h2, h3⟩
set_option maxHeartbeats 4000000 in
theorem Tries_calls (w : World) (S : Sn) (a : Sa) (i : Nat) (h : SnAt S a w) (hi : i < S.B.length) :
    Calls Try.prog 17 #[.pointer (some ⟨a.g, 0, none⟩), .int .i64 (i : Int)] w fun e w' => e = .returned (.int .i64 (S.T.getD i 0 : Nat)) ∧ w = w' := by
  obtain ⟨-, -, -, -, c4, -⟩ := h.cells
  have t0 := h.tcell i hi
  have hle := h.mp.le
  clear h
  generalize S.T.getD i 0 = t at *
  generalize S.B.length = n at *
  have hii : (i : Int) < (n : Int) := by omega
  have hi0 : (0 : Int) ≤ (i : Int) := by omega
  have hd0 : decide ((i : Int) < 0) = false := by rw [decide_eq_false_iff_not]; omega
  have hd1 : decide ((n : Int) ≤ (i : Int)) = false := by rw [decide_eq_false_iff_not]; omega
  go_enter Try.func17, Try.ntmps17
  go_wp2
  go_ret
  exact ⟨rfl, rfl⟩
theorem base_missing (B : List Bool) (h : baseB B < B.length) : missB B (baseB B : Nat) ((baseB B : Nat) + 8) B.length ≠ [] := by
  intro e
  have : baseB B ∈ missB B (baseB B : Nat) ((baseB B : Nat) + 8) B.length := by
    unfold missB missF
    rw [List.mem_filter, List.mem_range, baseB_at]
    refine ⟨h, ?_⟩
    simp only [Bool.and_eq_true, decide_eq_true_eq, Bool.not_false, and_true]
    omega
  rw [e] at this
  simp at this
/-- A list of numbers lies there, in a block of its own from N on. -/
def LVs (l : List Nat) (v : Value) (N : Nat) (w : World) : Prop := ∃ ad cap, v = .slice ad l.length cap ∧ ∀ (j x : Nat), l[j]? = some x → ∃ gl, ad = some ⟨gl, 0, none⟩ ∧ N ≤ gl ∧ gl < w.heap.size ∧ w.cell? ⟨gl, j, none⟩ = some (.int .i64 (x : Int))
set_option maxHeartbeats 4000000 in
set_option maxRecDepth 100000 in
theorem due_calls (w : World) (S : Sn) (a : Sa) (h : SnAt S a w) (hs : S.now < 1000000) (hf : S.full = false) :
    Calls Try.prog 37 #[.pointer (some ⟨a.g, 0, none⟩)] w fun e w' => ∃ v, e = .returned v ∧ LVs S.due v w.heap.size w' ∧ Below w.heap.size w w' := by
  have hbl : baseB S.B < S.B.length := by
    have h1 := baseB_le S.B
    have h2 : baseB S.B ≠ S.B.length := by intro e; rw [Sn.full, e] at hf; simp at hf
    omega
  have hne := base_missing S.B hbl
  have hle := h.mp.le
  have hbw := (Below.refl w.heap.size w).alloc (Nat.le_refl _) (.cells #[.pointer (some ⟨a.g, 0, none⟩)] 26)
  have h1 := h.below hbw (Nat.le_refl _)
  have hbx : (w.alloc (.cells #[.pointer (some ⟨a.g, 0, none⟩)] 26)).cell? ⟨w.heap.size, 0, none⟩ = some (.pointer (some ⟨a.g, 0, none⟩)) := by rw [World.cell?_alloc_new]; rfl
  have hall := h.lt
  obtain ⟨c0, -⟩ := h1.cells
  have hbase := Base_calls _ a.gm S.B h1.mp
  have hmiss := Missing_calls (w.alloc (.cells #[.pointer (some ⟨a.g, 0, none⟩)] 26)) a.gm S.B (baseB S.B : Nat) ((baseB S.B : Nat) + 8) h1.mp (by omega)
  have hsz : (w.alloc (.cells #[.pointer (some ⟨a.g, 0, none⟩)] 26)).heap.size = w.heap.size + 1 := by simp
  unfold Sn.due
  have hdl := fun i => S.hold i
  have hmm : ∀ x ∈ missB S.B (baseB S.B : Nat) ((baseB S.B : Nat) + 8) S.B.length, x < S.B.length := fun x hx => by
    unfold missB at hx; rw [List.mem_filter, List.mem_range] at hx; exact hx.1
  have hml := missB_le S.B (baseB S.B : Nat) ((baseB S.B : Nat) + 8) S.B.length
  have HB := Lib.hid hbase; clear hbase
  have HM := Lib.hid hmiss; clear hmiss
  have HBW := Lib.hid hbw; clear hbw
  have HSZ := Lib.hid hsz; clear hsz
  have H1 := Lib.hid h1; clear h1 h
  have HALL := Lib.hid hall; clear hall
  have HMM := Lib.hid hmm; clear hmm
  go_enter Try.func37, Try.ntmps37
  go_wp2_with fail
  refine HB.out.mono ?_
  rintro e w1 ⟨rfl, rfl⟩
  go_wp2_with fail
  refine HM.out.mono ?_
  rintro e w1 ⟨v, rfl, hown, hb1⟩
  have h2 := H1.out.below hb1 (Nat.le_refl _)
  have c02 := h2.cells.1
  have hbx2 := (hb1.cell (p := ⟨w.heap.size, 0, none⟩) (by rw [HSZ.out]; exact Nat.lt_succ_self _)).trans hbx
  have hbw1 := HBW.out.trans (hb1.mono (by rw [HSZ.out]; omega))
  have hz1 := hb1.size
  rw [HSZ.out] at hown hz1
  generalize hM : missB S.B (baseB S.B : Nat) ((baseB S.B : Nat) + 8) S.B.length = M at *
  have HMe := Lib.hid hM
  rcases hown.2 with ⟨-, h0⟩ | ⟨gl, cap, cur, rfl, hBg, hg, hnc, hcm, hcs, htk⟩
  · exact absurd (List.length_eq_zero_iff.1 h0) hne
  have hcur : ∀ (j x : Nat), M[j]? = some x → cur[j]? = some (.int .i64 (x : Int)) := by
    intro j x hx
    have hj : j < M.length := (List.getElem?_eq_some_iff.1 hx).1
    have : (cur.toList.take (M.length * 1))[j]? = some (.int .i64 (x : Int)) := by rw [htk]; simp [intsV, hx]
    rw [List.getElem?_take, if_pos (by omega)] at this
    simpa using this
  have hgn : gl ∉ a.all := fun hk => by have := HALL.out gl hk; omega
  have hgb : w.heap.size ≠ gl := by omega
  have hdel := DeleteFunc_due #[.pointer (some ⟨w.heap.size, 0, none⟩)] S.hold gl cap cur M w1 (by omega) hnc hg hcur (fun j x hx W hu => hold_calls W S a w.heap.size x (h2.upd hu hgn) hs ((World.cell?_of_block (hu.other w.heap.size hgb)).trans hbx2) (HMM.out x (List.mem_of_getElem? hx)))
  have HD := Lib.hid hdel; clear hdel
  clear hcur htk hcs hown c0 hbx hne HMM HM HB hM hbl
  go_wp2_with fail
  refine HD.out.mono ?_
  rintro e w2 ⟨cur', rfl, hg', hsz', hc', hu⟩
  go_wp2
  go_ret
  rw [HMe.out]
  refine ⟨_, rfl, ⟨_, _, rfl, fun j x hx => ⟨gl, rfl, by omega, ?_, ?_⟩⟩, hbw1.trans (hu.below (by omega))⟩
  · exact (Array.getElem?_eq_some_iff.1 hg').1
  · rw [cell_of_row _ _ _ _ _ _ hg']; exact hc' j x hx
end Go.Proofs.Ytcmgmdgeimmbeaa
