/- The walk of prefix.Make. -/
import Derived.Test.YtmccnmccegbdjaaDoorPfxBytes
import Derived.Lib.BufferWrite
namespace Go.Proofs.YtmccnmccegbdjaaDoor
open Go.RowKit Go.Sort
set_option linter.unusedVariables false
set_option linter.unusedSimpArgs false
def sl (s : ByteArray) : List Nat := s.data.toList.map fun b => b.toNat
def padL (s : ByteArray) : List Nat := sl s ++ List.replicate (16 - s.size) 0
def Px.zero : Px := ⟨false, List.replicate 16 0, 0⟩
theorem sl_length (s : ByteArray) : (sl s).length = s.size := by simp [sl]
theorem padL_length (s : ByteArray) (h : s.size ≤ 16) : (padL s).length = 16 := by simp [padL, sl_length]; omega
theorem sl_small (s : ByteArray) (i : Nat) : (sl s).getD i 0 < 256 := by
  rw [List.getD_eq_getElem?_getD, sl, List.getElem?_map]
  cases s.data.toList[i]? with
  | none => decide
  | some b => exact b.toNat_lt
theorem padL_small (s : ByteArray) (i : Nat) : (padL s).getD i 0 < 256 := by
  unfold padL
  rw [List.getD_eq_getElem?_getD]
  by_cases h : i < (sl s).length
  · rw [List.getElem?_append_left h, ← List.getD_eq_getElem?_getD]; exact sl_small s i
  · rw [List.getElem?_append_right (by omega), List.getElem?_replicate]
    split <;> simp
theorem byteCells_sl (s : ByteArray) : Lib.byteCells s.data.toList = bv (sl s) := by simp [Lib.byteCells, bv, sl]
theorem results_two {fn : Func} {t t2 : Tmp} {T : TypeId} (h : fn.results = #[.cell t T, .tmp t2]) (tmps : Array Value) (P : Program) (w : World) (ad : Addr) (v u : Value) (ht : tmps[t]? = some (.pointer (some ad))) (ht2 : tmps[t2]? = some u) (hl : (loadVar T ad).run P w = .ok v w) :
    (results fn tmps).run P w = .ok (.tuple #[v, u]) w := by
  simp [results, h, ht, ht2, asAddr, hl]
theorem load_px {w : World} {g : Nat} {p : Px} (h : PxAt g p w) : (loadVar 30 ⟨g, 0, none⟩).run Tryd.prog w = .ok (.agg p.row) w :=
  run_loadVar_row w g _ 30 p.row _ _ h.1 Tryd.underlying30 rfl (by rw [p.row_size h.2]; kernel_rfl)
theorem exec_store_px {a : Act} {o : Oper} {x v : Operand} (ho : o.op = .store 30 x v) {g : Nat} {p q : Px} {w : World} (hx : a.eval x = .pointer (some ⟨g, 0, none⟩)) (hv : a.eval v = .agg q.row) (h : PxAt g p w) (hq : q.A.length = 16) :
    (execOp a.eval o).run Tryd.prog w = .ok .skip (w.setRow g q.row) :=
  exec_store_row o 30 x v ho w g _ q.row p.row hx hv (by rw [q.row_size hq]; kernel_rfl) (by rw [p.row_size h.2, q.row_size hq]) (by
    intro u hu
    simp only [Px.row, List.mem_cons, List.mem_append, bv, List.mem_map] at hu
    rcases hu with rfl | ⟨x, _, rfl⟩ | rfl | hu
    · rfl
    · rfl
    · rfl
    · cases hu) h.1
theorem PxAt.set {w : World} {g : Nat} {p q : Px} (h : PxAt g p w) (hq : q.A.length = 16) : PxAt g q (w.setRow g q.row) := ⟨setRow_heap w g _ _ _ _ h.1, hq⟩
theorem zero_row : Px.zero.row = #[.bool false, .int .u8 0, .int .u8 0, .int .u8 0, .int .u8 0, .int .u8 0, .int .u8 0, .int .u8 0, .int .u8 0, .int .u8 0, .int .u8 0, .int .u8 0, .int .u8 0, .int .u8 0, .int .u8 0, .int .u8 0, .int .u8 0, .int .i64 0] := by rfl
def goodMk (six : Bool) (m : Nat) (n : Int) : Bool := decide (m = widthN six / 8) && (decide (0 ≤ n) && decide (n ≤ widthN six))
def mkPx (six : Bool) (s : ByteArray) (n : Int) : Px := ⟨six, maskL (padL s) n, n⟩
set_option maxRecDepth 100000 in
set_option maxHeartbeats 4000000 in
theorem Make_bad (w : World) (six : Bool) (s : ByteArray) (n : Int) (hs : s.size ≤ 140737488351232) (h : goodMk six s.size n = false) :
    Calls Tryd.prog 13 #[.bool six, .string s, .int .i64 n] w fun e w' => e = .returned (.tuple #[.agg Px.zero.row, .int .i64 1]) ∧ Below w.heap.size w w' := by
  have hb0 := (Below.refl w.heap.size w).alloc (Nat.le_refl _) (.cells Px.zero.row 30)
  have h0 := PxAt.new w Px.zero (by rfl)
  have HB0 := Lib.hid hb0; have H0 := Lib.hid h0; clear hb0 h0
  unfold goodMk at h
  cases six
  · have hw : widthN false = 32 := rfl
    rw [hw] at h
    by_cases a1 : s.size = 4
    · have b1 : (s.size : Int) = 4 := by omega
      by_cases a2 : n < 0
      · have d2 : decide (n < 0) = true := decide_eq_true a2
        clear h a1
        go_enter Tryd.func13, Tryd.ntmps13
        go_wp2_with (first | (with_reducible refine wpList_mark (o := ⟨some 24, _, _, _, _, _⟩) ?_) | go_in)
        rw [← zero_row]
        generalize w.alloc (.cells Px.zero.row 30) = w1 at *
        refine Marked.intro ?_
        refine wpList_run rfl (exec_load_whole rfl rfl H0.out) ?_
        refine wpList_do rfl (exec_store_px rfl rfl rfl H0.out (by rfl)) ?_
        have H2 := Lib.hid (H0.out.set (q := Px.zero) (by rfl))
        have HB2 := Lib.hid (below_row HB0.out (Nat.le_refl _) Px.zero.row)
        generalize w1.setRow w.heap.size Px.zero.row = w2 at *
        clear H0 HB0
        go_wp2
        refine bodyPost_ret (results_two rfl _ _ _ ⟨w.heap.size, 0, none⟩ _ _ rfl rfl (load_px H2.out)) rfl ?_
        exact ⟨rfl, HB2.out⟩
      · have a3 : 32 < n := by
          rw [decide_eq_true (by omega), decide_eq_true (show 0 ≤ n by omega)] at h
          simp at h; omega
        have d2 : decide (n < 0) = false := decide_eq_false a2
        have d3 : decide (32 < n) = true := decide_eq_true a3
        clear h a1
        go_enter Tryd.func13, Tryd.ntmps13
        go_wp2_with (first | (with_reducible refine wpList_mark (o := ⟨some 24, _, _, _, _, _⟩) ?_) | go_in)
        rw [← zero_row]
        generalize w.alloc (.cells Px.zero.row 30) = w1 at *
        refine Marked.intro ?_
        refine wpList_run rfl (exec_load_whole rfl rfl H0.out) ?_
        refine wpList_do rfl (exec_store_px rfl rfl rfl H0.out (by rfl)) ?_
        have H2 := Lib.hid (H0.out.set (q := Px.zero) (by rfl))
        have HB2 := Lib.hid (below_row HB0.out (Nat.le_refl _) Px.zero.row)
        generalize w1.setRow w.heap.size Px.zero.row = w2 at *
        clear H0 HB0
        go_wp2
        refine bodyPost_ret (results_two rfl _ _ _ ⟨w.heap.size, 0, none⟩ _ _ rfl rfl (load_px H2.out)) rfl ?_
        exact ⟨rfl, HB2.out⟩
    · have b1 : ((s.size : Int) == 4) = false := by simp; omega
      have b2 : (s.size : Int) ≠ 4 := by omega
      clear h a1
      go_enter Tryd.func13, Tryd.ntmps13
      go_wp2_with (first | (with_reducible refine wpList_mark (o := ⟨some 24, _, _, _, _, _⟩) ?_) | go_in)
      rw [← zero_row]
      generalize w.alloc (.cells Px.zero.row 30) = w1 at *
      refine Marked.intro ?_
      refine wpList_run rfl (exec_load_whole rfl rfl H0.out) ?_
      refine wpList_do rfl (exec_store_px rfl rfl rfl H0.out (by rfl)) ?_
      have H2 := Lib.hid (H0.out.set (q := Px.zero) (by rfl))
      have HB2 := Lib.hid (below_row HB0.out (Nat.le_refl _) Px.zero.row)
      generalize w1.setRow w.heap.size Px.zero.row = w2 at *
      clear H0 HB0
      go_wp2
      refine bodyPost_ret (results_two rfl _ _ _ ⟨w.heap.size, 0, none⟩ _ _ rfl rfl (load_px H2.out)) rfl ?_
      exact ⟨rfl, HB2.out⟩
  · have hw : widthN true = 128 := rfl
    rw [hw] at h
    by_cases a1 : s.size = 16
    · have b1 : (s.size : Int) = 16 := by omega
      by_cases a2 : n < 0
      · have d2 : decide (n < 0) = true := decide_eq_true a2
        clear h a1
        go_enter Tryd.func13, Tryd.ntmps13
        go_wp2_with (first | (with_reducible refine wpList_mark (o := ⟨some 24, _, _, _, _, _⟩) ?_) | go_in)
        rw [← zero_row]
        generalize w.alloc (.cells Px.zero.row 30) = w1 at *
        refine Marked.intro ?_
        refine wpList_run rfl (exec_load_whole rfl rfl H0.out) ?_
        refine wpList_do rfl (exec_store_px rfl rfl rfl H0.out (by rfl)) ?_
        have H2 := Lib.hid (H0.out.set (q := Px.zero) (by rfl))
        have HB2 := Lib.hid (below_row HB0.out (Nat.le_refl _) Px.zero.row)
        generalize w1.setRow w.heap.size Px.zero.row = w2 at *
        clear H0 HB0
        go_wp2
        refine bodyPost_ret (results_two rfl _ _ _ ⟨w.heap.size, 0, none⟩ _ _ rfl rfl (load_px H2.out)) rfl ?_
        exact ⟨rfl, HB2.out⟩
      · have a3 : 128 < n := by
          rw [decide_eq_true (by omega), decide_eq_true (show 0 ≤ n by omega)] at h
          simp at h; omega
        have d2 : decide (n < 0) = false := decide_eq_false a2
        have d3 : decide (128 < n) = true := decide_eq_true a3
        clear h a1
        go_enter Tryd.func13, Tryd.ntmps13
        go_wp2_with (first | (with_reducible refine wpList_mark (o := ⟨some 24, _, _, _, _, _⟩) ?_) | go_in)
        rw [← zero_row]
        generalize w.alloc (.cells Px.zero.row 30) = w1 at *
        refine Marked.intro ?_
        refine wpList_run rfl (exec_load_whole rfl rfl H0.out) ?_
        refine wpList_do rfl (exec_store_px rfl rfl rfl H0.out (by rfl)) ?_
        have H2 := Lib.hid (H0.out.set (q := Px.zero) (by rfl))
        have HB2 := Lib.hid (below_row HB0.out (Nat.le_refl _) Px.zero.row)
        generalize w1.setRow w.heap.size Px.zero.row = w2 at *
        clear H0 HB0
        go_wp2
        refine bodyPost_ret (results_two rfl _ _ _ ⟨w.heap.size, 0, none⟩ _ _ rfl rfl (load_px H2.out)) rfl ?_
        exact ⟨rfl, HB2.out⟩
    · have b1 : ((s.size : Int) == 16) = false := by simp; omega
      have b2 : (s.size : Int) ≠ 16 := by omega
      clear h a1
      go_enter Tryd.func13, Tryd.ntmps13
      go_wp2_with (first | (with_reducible refine wpList_mark (o := ⟨some 24, _, _, _, _, _⟩) ?_) | go_in)
      rw [← zero_row]
      generalize w.alloc (.cells Px.zero.row 30) = w1 at *
      refine Marked.intro ?_
      refine wpList_run rfl (exec_load_whole rfl rfl H0.out) ?_
      refine wpList_do rfl (exec_store_px rfl rfl rfl H0.out (by rfl)) ?_
      have H2 := Lib.hid (H0.out.set (q := Px.zero) (by rfl))
      have HB2 := Lib.hid (below_row HB0.out (Nat.le_refl _) Px.zero.row)
      generalize w1.setRow w.heap.size Px.zero.row = w2 at *
      clear H0 HB0
      go_wp2
      refine bodyPost_ret (results_two rfl _ _ _ ⟨w.heap.size, 0, none⟩ _ _ rfl rfl (load_px H2.out)) rfl ?_
      exact ⟨rfl, HB2.out⟩
theorem built_px (six : Bool) (A : List Nat) (hA : A.length = 16) (n : Int) : Tryd.prog.built 30 [(0, .bool six), (1, .agg (bv A).toArray), (2, .int .i64 n)] = some (⟨six, A, n⟩ : Px).row := by
  obtain ⟨a0, a1, a2, a3, a4, a5, a6, a7, a8, a9, a10, a11, a12, a13, a14, a15, rfl⟩ := sixteen A hA
  kernel_rfl
theorem exec_build_px {a : Act} {o : Oper} {x y z : Operand} (ho : o.op = .build 30 #[(0, x), (1, y), (2, z)]) (w : World) {six : Bool} {A : List Nat} (hA : A.length = 16) {n : Int} (hx : a.eval x = .bool six) (hy : a.eval y = .agg (bv A).toArray) (hz : a.eval z = .int .i64 n) :
    (execOp a.eval o).run Tryd.prog w = .ok (.value (.agg (⟨six, A, n⟩ : Px).row)) w := by
  have h := run_build (P := Tryd.prog) w 30 #[(0, .bool six), (1, .agg (bv A).toArray), (2, .int .i64 n)] _ (built_px six A hA n)
  unfold execOp
  simp only [ho, List.map_toArray, List.map_cons, List.map_nil, hx, hy, hz, Sem.run_bind, h, Result.andThen_ok, Sem.run_pure]
theorem copy_row (s : ByteArray) (h : s.size ≤ 16) : (Px.zero.row.toList.take 1 ++ Lib.byteCells s.data.toList ++ Px.zero.row.toList.drop (1 + s.size)).toArray = (⟨false, padL s, 0⟩ : Px).row := by
  rw [byteCells_sl]
  show _ = (Value.bool false :: (bv (padL s) ++ [Value.int .i64 0])).toArray
  congr 1
  have e1 : Px.zero.row.toList = Value.bool false :: (bv (List.replicate 16 0) ++ [Value.int .i64 0]) := rfl
  rw [e1, show 1 + s.size = s.size + 1 by omega, List.drop_succ_cons, List.take_succ_cons, List.take_zero]
  rw [List.drop_append_of_le_length (by simp [bv_length]; omega)]
  unfold padL
  have e2 : (bv (List.replicate 16 0)).drop s.size = bv (List.replicate (16 - s.size) 0) := by
    unfold bv
    rw [List.map_replicate, List.drop_replicate, List.map_replicate]
  rw [e2]
  simp [bv]
set_option maxRecDepth 100000 in
set_option maxHeartbeats 4000000 in
theorem Make_good (w : World) (six : Bool) (s : ByteArray) (n : Nat) (h : s.size = widthN six / 8) (hn : n ≤ widthN six) :
    Calls Tryd.prog 13 #[.bool six, .string s, .int .i64 n] w fun e w' => e = .returned (.tuple #[.agg (mkPx six s n).row, .int .i64 0]) ∧ Below w.heap.size w w' := by
  have hb0 := (Below.refl w.heap.size w).alloc (Nat.le_refl _) (.cells Px.zero.row 30)
  have h0 := PxAt.new w Px.zero (by rfl)
  have HB0 := Lib.hid hb0; have H0 := Lib.hid h0; clear hb0 h0
  have hs16 : s.size ≤ 16 := by cases six <;> simp [widthN] at h <;> omega
  have hM : ∀ w, Calls Tryd.prog 36 #[.agg (bv (padL s)).toArray, .int .i64 n] w fun e w' => e = .returned (.agg (bv (maskL (padL s) n)).toArray) ∧ Below w.heap.size w w' := fun w => masked_calls w (padL s) (padL_length s hs16) (padL_small s) n (by have := widthN_le six; omega)
  have HM := Lib.hid hM; clear hM
  cases six
  · have b1 : (s.size : Int) = 4 := by have : s.size = 4 := h; omega
    have d3 : decide (32 < (n : Int)) = false := by
      have : n ≤ 32 := hn
      simp; omega
    have d2 : decide ((n : Int) < 0) = false := by simp
    clear h hn
    go_enter Tryd.func13, Tryd.ntmps13
    go_wp2_with (first | (with_reducible refine wpList_mark (o := ⟨some 28, _, _, _, _, _⟩) ?_) | go_in)
    rw [← zero_row]
    generalize w.alloc (.cells Px.zero.row 30) = w1 at *
    refine Marked.intro ?_
    have hcp := Go.Lib.run_copy_row_string (P := Tryd.prog) w1 56 9 3 5 w.heap.size 1 16 16 s Px.zero.row 30 Tryd.underlying56 (by kernel_rfl) H0.out.1 hs16 (by show 1 + s.size ≤ 18; omega)
    rw [copy_row s hs16] at hcp
    have H2 : Hid (PxAt w.heap.size ⟨false, padL s, 0⟩ (w1.setRow w.heap.size (⟨false, padL s, 0⟩ : Px).row)) := Lib.hid (H0.out.set (padL_length s hs16))
    have HB2 := Lib.hid (below_row HB0.out (Nat.le_refl _) (⟨false, padL s, 0⟩ : Px).row)
    generalize w1.setRow w.heap.size (⟨false, padL s, 0⟩ : Px).row = w2 at *
    go_wp2_with (with_reducible refine wpList_mark (o := ⟨some 31, _, _, _, _, _⟩) ?_)
    refine Marked.intro ?_
    refine wpList_run rfl (exec_load_bytes rfl rfl H2.out) ?_
    go_wp2_with fail
    refine (HM.out _).mono ?_
    rintro e w3 ⟨rfl, hb⟩
    have HB3 := Lib.hid (bn HB2.out hb); have H3 := Lib.hid (H2.out.b hb); clear hb HB2 H2 HM hcp
    go_wp2_with (with_reducible refine wpList_mark (o := ⟨some 35, _, _, _, _, _⟩) ?_)
    refine Marked.intro ?_
    have hml : (maskL (padL s) (n : Int)).length = 16 := by unfold maskL; rw [maskTo_length]; exact padL_length s hs16
    refine wpList_run rfl (exec_build_px rfl _ hml rfl rfl rfl) ?_
    refine wpList_do rfl (exec_store_px rfl rfl rfl H3.out hml) ?_
    have H4 := Lib.hid (H3.out.set (q := mkPx false s n) hml)
    have HB4 := Lib.hid (below_row HB3.out (Nat.le_refl _) (mkPx false s n).row)
    have HE : (⟨false, maskL (padL s) n, n⟩ : Px) = mkPx false s n := rfl
    rw [HE]
    generalize w3.setRow w.heap.size (mkPx false s n).row = w4 at *
    clear H3 HB3 HE
    go_wp2
    refine bodyPost_ret (results_two rfl _ _ _ ⟨w.heap.size, 0, none⟩ _ _ rfl rfl (load_px H4.out)) rfl ?_
    exact ⟨rfl, HB4.out⟩
  · have b1 : (s.size : Int) = 16 := by have : s.size = 16 := h; omega
    have d3 : decide (128 < (n : Int)) = false := by
      have : n ≤ 128 := hn
      simp; omega
    have d2 : decide ((n : Int) < 0) = false := by simp
    clear h hn
    go_enter Tryd.func13, Tryd.ntmps13
    go_wp2_with (first | (with_reducible refine wpList_mark (o := ⟨some 28, _, _, _, _, _⟩) ?_) | go_in)
    rw [← zero_row]
    generalize w.alloc (.cells Px.zero.row 30) = w1 at *
    refine Marked.intro ?_
    have hcp := Go.Lib.run_copy_row_string (P := Tryd.prog) w1 56 9 3 5 w.heap.size 1 16 16 s Px.zero.row 30 Tryd.underlying56 (by kernel_rfl) H0.out.1 hs16 (by show 1 + s.size ≤ 18; omega)
    rw [copy_row s hs16] at hcp
    have H2 : Hid (PxAt w.heap.size ⟨false, padL s, 0⟩ (w1.setRow w.heap.size (⟨false, padL s, 0⟩ : Px).row)) := Lib.hid (H0.out.set (padL_length s hs16))
    have HB2 := Lib.hid (below_row HB0.out (Nat.le_refl _) (⟨false, padL s, 0⟩ : Px).row)
    generalize w1.setRow w.heap.size (⟨false, padL s, 0⟩ : Px).row = w2 at *
    go_wp2_with (with_reducible refine wpList_mark (o := ⟨some 31, _, _, _, _, _⟩) ?_)
    refine Marked.intro ?_
    refine wpList_run rfl (exec_load_bytes rfl rfl H2.out) ?_
    go_wp2_with fail
    refine (HM.out _).mono ?_
    rintro e w3 ⟨rfl, hb⟩
    have HB3 := Lib.hid (bn HB2.out hb); have H3 := Lib.hid (H2.out.b hb); clear hb HB2 H2 HM hcp
    go_wp2_with (with_reducible refine wpList_mark (o := ⟨some 35, _, _, _, _, _⟩) ?_)
    refine Marked.intro ?_
    have hml : (maskL (padL s) (n : Int)).length = 16 := by unfold maskL; rw [maskTo_length]; exact padL_length s hs16
    refine wpList_run rfl (exec_build_px rfl _ hml rfl rfl rfl) ?_
    refine wpList_do rfl (exec_store_px rfl rfl rfl H3.out hml) ?_
    have H4 := Lib.hid (H3.out.set (q := mkPx true s n) hml)
    have HB4 := Lib.hid (below_row HB3.out (Nat.le_refl _) (mkPx true s n).row)
    have HE : (⟨true, maskL (padL s) n, n⟩ : Px) = mkPx true s n := rfl
    rw [HE]
    generalize w3.setRow w.heap.size (mkPx true s n).row = w4 at *
    clear H3 HB3 HE
    go_wp2
    refine bodyPost_ret (results_two rfl _ _ _ ⟨w.heap.size, 0, none⟩ _ _ rfl rfl (load_px H4.out)) rfl ?_
    exact ⟨rfl, HB4.out⟩
end Go.Proofs.YtmccnmccegbdjaaDoor
