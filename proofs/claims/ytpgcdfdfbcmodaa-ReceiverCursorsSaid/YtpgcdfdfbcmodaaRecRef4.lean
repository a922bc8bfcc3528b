/- The walks of the reference's receiver: Ack, Data. -/
import Derived.Test.YtpgcdfdfbcmodaaRecRef3
namespace Go.Proofs.Ytpgcdfdfbcmodaa
open Go.RowKit Go.Sort
set_option linter.unusedVariables false
set_option linter.unusedSimpArgs false
set_option maxHeartbeats 8000000 in
set_option maxRecDepth 100000 in
theorem QAck_calls (w : World) (R : Rv) (q : Rq) (h : RqAt R q w) :
    Calls Try.prog 15 #[.pointer (some ⟨q.g, 0, none⟩)] w fun e w' => e = .returned (.agg #[.int .i64 2, .int .i64 R.ses, .int .i64 R.ep, .int .i64 (baseB R.B : Nat), .int .i64 (R.B.length : Nat), .string (tellB R.B 16)]) ∧ Below w.heap.size w w' := by
  have hbw := (Below.refl w.heap.size w).alloc (Nat.le_refl _) (.cells #[.int .i64 0, .int .i64 0, .int .i64 0, .int .i64 0, .int .i64 0, .string ⟨#[]⟩] 32)
  have h1 := h.below hbw (Nat.le_refl _)
  have hR := heap_alloc_new w (.cells #[.int .i64 0, .int .i64 0, .int .i64 0, .int .i64 0, .int .i64 0, .string ⟨#[]⟩] 32)
  have hsz : (w.alloc (.cells #[.int .i64 0, .int .i64 0, .int .i64 0, .int .i64 0, .int .i64 0, .string ⟨#[]⟩] 32)).heap.size = w.heap.size + 1 := by simp
  have hle := h.le
  have HBW := Lib.hid hbw; have H1 := Lib.hid h1; have HR := Lib.hid hR; have HSZ := Lib.hid hsz
  clear hbw h1 hR hsz h
  go_enter Try.func15, Try.ntmps15
  go_wp2_with fail
  generalize w.alloc (.cells #[.int .i64 0, .int .i64 0, .int .i64 0, .int .i64 0, .int .i64 0, .string ⟨#[]⟩] 32) = w1 at *
  have k0 := cell_regrown H1.out.cells.1
  have k1 := cell_regrown H1.out.cells.2.1
  have k2 := cell_regrown H1.out.cells.2.2.1
  have k3 := cell_regrown H1.out.cells.2.2.2.1
  have cA : ∀ d os, Calls Try.prog 25 #[.slice (some ⟨q.gi, 0, none⟩) R.B.length R.B.length] (Sort.grow (redrawn w1 d) os) fun e w'' => e = .returned (.int .i64 (baseB R.B : Nat)) ∧ Lib.Grows (Sort.grow (redrawn w1 d) os) w'' := fun d os => (RBase_calls _ R.B q.gi R.B.length (H1.out.below (below_regrown w1 d os) (Nat.le_refl _)).irow (by omega)).mono fun e w' ⟨h1, h2⟩ => ⟨h1, by subst h2; exact Lib.Grows.refl _⟩
  have cB : ∀ d os, Calls Try.prog 48 #[.slice (some ⟨q.gi, 0, none⟩) R.B.length R.B.length, .int .i64 16] (Sort.grow (redrawn w1 d) os) fun e w'' => e = .returned (.string (tellB R.B 16)) ∧ Lib.Grows (Sort.grow (redrawn w1 d) os) w'' := fun d os => Lib.Calls.grows_of (RBehind_calls _ R.B q.gi R.B.length 16 (H1.out.below (below_regrown w1 d os) (Nat.le_refl _)).irow hle)
  refine Lib.wp_region_made 24 (fun _ => none) (by kernel_rfl) (by kernel_rfl) Lib.stabP_none ?_
  simp only [List.take_succ_cons, List.take_zero, List.drop_succ_cons, List.drop_zero]
  repeat (refine Lib.wpML_step (by rfl) (fun K hK => ?_); go_simp; first | (refine hK _ ?_; clear hK K) | (apply Exists.intro; refine ⟨fun _ => ?_, hK _ ?_⟩; (first | exact ⟨Lib.noInit (by kernel_rfl), cA _ _⟩ | exact ⟨Lib.noInit (by kernel_rfl), cB _ _⟩); clear hK K))
  refine Lib.wpML_nil ?_
  intro w2 hw2 _
  have hb2 := Lib.Behind.below hw2
  clear hw2 k0 k1 k2 k3 cA cB
  have hR2 := (hb2.block w.heap.size (by rw [HSZ.out]; omega)).trans HR.out
  have hrow := setRow_heap w2 w.heap.size _ #[.int .i64 2, .int .i64 R.ses, .int .i64 R.ep, .int .i64 (baseB R.B : Nat), .int .i64 (R.B.length : Nat), .string (tellB R.B 16)] _ _ hR2
  have hbr := below_row (bn HBW.out hb2) (Nat.le_refl _) #[.int .i64 2, .int .i64 R.ses, .int .i64 R.ep, .int .i64 (baseB R.B : Nat), .int .i64 (R.B.length : Nat), .string (tellB R.B 16)]
  refine wpList_do rfl (exec_store_row _ 32 (.tmp 2) (.tmp 26) (by rfl) w2 w.heap.size 32 #[.int .i64 2, .int .i64 R.ses, .int .i64 R.ep, .int .i64 (baseB R.B : Nat), .int .i64 (R.B.length : Nat), .string (tellB R.B 16)] #[.int .i64 0, .int .i64 0, .int .i64 0, .int .i64 0, .int .i64 0, .string ⟨#[]⟩] (by rfl) (by rfl) (by kernel_rfl) rfl (by simp [Value.oneCell']) hR2) ?_
  generalize w2.setRow w.heap.size _ = w3 at *
  go_wp2
  refine bodyPost_ret (results_one rfl _ _ _ ⟨w.heap.size, 0, none⟩ _ rfl (loadFr _ _ _ _ _ rfl hrow)) rfl ?_
  exact ⟨rfl, hbr⟩
theorem flatC_succ (C : List ByteArray) (i : Nat) (h : i < C.length) : flatC (C.take (i + 1)) = flatC (C.take i) ++ (C.getD i ⟨#[]⟩).data.toList := by
  have : C.take (i + 1) = C.take i ++ [C.getD i ⟨#[]⟩] := by
    rw [List.take_add_one, List.getElem?_eq_getElem h, List.getD_eq_getElem?_getD, List.getElem?_eq_getElem h]; rfl
  rw [this]
  simp [flatC]
set_option maxHeartbeats 4000000 in
set_option maxRecDepth 100000 in
theorem QData_calls (w : World) (R : Rv) (q : Rq) (h : RqAt R q w) :
    Calls Try.prog 26 #[.pointer (some ⟨q.g, 0, none⟩)] w fun e w' => e = .returned (.tuple #[.string (if baseB R.B = R.B.length then bstr (flatC R.C) else ⟨#[]⟩), .bool (decide (baseB R.B = R.B.length))]) ∧ w = w' := by
  obtain ⟨-, -, c2, c3, -⟩ := h.cells
  have hle := h.le
  have HI := Lib.hid h.icell; have HC := Lib.hid h.ccell
  have hcs := fun i => R.cs_at h.wf i
  have hlc := h.wf.lc
  have hfl : ∀ i, i ≤ R.B.length → (bstr (flatC (R.C.take i))).size ≤ 1000 * i := fun i hi => by
    rw [bstr_size]
    have := flatC_le (R.C.take i) (fun c hc => h.wf.cs c (List.mem_of_mem_take hc))
    rw [List.length_take] at this
    omega
  have hfs : ∀ i, i < R.B.length → bstr (flatC (R.C.take (i + 1))) = bstr (flatC (R.C.take i)) ++ R.C.getD i ⟨#[]⟩ := fun i hi => by
    rw [flatC_succ R.C i (by omega), ← bstr_append, bstr_data]
  have hun := baseB_unique R.B
  have hge : R.B.getD R.B.length false = false := getD_ge (Nat.le_refl _)
  have hall : R.C.take R.B.length = R.C := List.take_of_length_le (by omega)
  obtain ⟨X, hX⟩ : ∃ X, X = (if baseB R.B = R.B.length then bstr (flatC R.C) else (⟨#[]⟩ : ByteArray)) := ⟨_, rfl⟩
  obtain ⟨Y, hY⟩ : ∃ Y, Y = decide (baseB R.B = R.B.length) := ⟨_, rfl⟩
  rw [← hX, ← hY]
  have HX := Lib.hid hX; have HY := Lib.hid hY; have HU := Lib.hid hun; have HGE := Lib.hid hge; have HALL := Lib.hid hall; have HFL := Lib.hid hfl; have HFS := Lib.hid hfs; have HCS := Lib.hid hcs
  clear hX hY hun hge hall hfl hfs hcs h hlc
  obtain ⟨n, hn⟩ : ∃ n, R.B.length = n := ⟨_, rfl⟩
  rw [hn] at c2 c3 hle HI HC HX HY HGE HALL HFL HFS
  clear hn
  go_enter Try.func26, Try.ntmps26
  go_wp2
  go_loop [4, 5] (fun s i => ∃ (j : Nat) (S : ByteArray), j ≤ n ∧ i = .int .i64 j ∧ s = .string S ∧ Hid (S = bstr (flatC (R.C.take j))) ∧ Hid (∀ k, k < j → R.B.getD k false = true)) (fun _ i => n - (intOf i).toNat)
  case atStart => exact ⟨0, _, by omega, rfl, rfl, Lib.hid rfl, Lib.hid (fun k hk => absurd hk (Nat.not_lt_zero _))⟩
  case round =>
    obtain ⟨j, S, hj, rfl, rfl, HS, hk⟩ := hrel
    by_cases hlt : j < n
    · have hjI : (j : Int) < (n : Int) := by omega
      have ci := HI.out j hlt
      have cc := HC.out j hlt
      cases hb : R.B.getD j false with
      | false =>
        rw [hb] at ci
        have hbj := HU.out j hk.out hb
        have HX2 : Hid (X = ⟨#[]⟩) := Lib.hid (by rw [HX.out, if_neg (by omega)])
        have HY2 : Hid (Y = false) := Lib.hid (by rw [HY.out]; exact decide_eq_false (by omega))
        clear hb hbj cc
        go_wp2
        go_ret2
        exact ⟨by rw [HX2.out, HY2.out]; rfl, rfl⟩
      | true =>
        rw [hb] at ci
        have HB := Lib.hid hb; clear hb
        have h1 := HFL.out j hj
        rw [← HS.out] at h1
        have h2 := HCS.out j
        have hz : ¬ 9223372036854775807 < S.size + (R.C.getD j ⟨#[]⟩).size := by omega
        have HF := Lib.hid (HFS.out j hlt)
        generalize R.C.getD j ⟨#[]⟩ = c at *
        go_wp2
        exact ⟨⟨j + 1, _, by omega, by go_num, rfl, Lib.hid (by rw [HF.out, HS.out]), Lib.hid fun k hk2 => by
          by_cases e : k = j
          · rw [e]; exact HB.out
          · exact hk.out k (by omega)⟩, by simp only [intOf]; omega⟩
    · obtain rfl : j = n := by omega
      have hbj := HU.out j hk.out HGE.out
      have HX2 : Hid (X = S) := Lib.hid (by rw [HX.out, if_pos hbj, HS.out, HALL.out])
      have HY2 : Hid (Y = true) := Lib.hid (by rw [HY.out]; exact decide_eq_true hbj)
      clear hbj
      go_wp2
      go_ret2
      exact ⟨by rw [HX2.out, HY2.out]; rfl, rfl⟩
end Go.Proofs.Ytpgcdfdfbcmodaa
