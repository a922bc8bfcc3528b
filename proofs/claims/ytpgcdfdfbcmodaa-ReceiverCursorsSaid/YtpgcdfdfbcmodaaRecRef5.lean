/- The walk of the reference's receiver's Cursor. -/
import Derived.Test.YtpgcdfdfbcmodaaRecRef4
namespace Go.Proofs.Ytpgcdfdfbcmodaa
open Go.RowKit Go.Sort
set_option linter.unusedVariables false
set_option linter.unusedSimpArgs false
set_option maxHeartbeats 8000000 in
set_option maxRecDepth 100000 in
theorem QCur_calls (w : World) (R : Rv) (q : Rq) (h : RqAt R q w) :
    Calls Try.prog 27 #[.pointer (some ⟨q.g, 0, none⟩)] w fun e w' => e = .returned (.string (bstr R.curL)) ∧ Below w.heap.size w w' := by
  obtain ⟨c0, c1, -, c3, -⟩ := h.cells
  have hle := h.le
  obtain ⟨sn, hsn⟩ := Int.eq_ofNat_of_zero_le h.wf.s0
  obtain ⟨en, hen⟩ := Int.eq_ofNat_of_zero_le h.wf.e0
  have hs1 := h.wf.s1
  have he1 := h.wf.e1
  rw [hsn] at c0 hs1
  rw [hen] at c1 he1
  have hcl : bstr R.curL = bstr (numL sn) ++ bstr (numL en) ++ bstr (numL R.B.length) ++ bstr (R.curC R.B.length) ++ bstr (numL R.B.length) := by
    rw [R.curL_eq, hsn, hen, bstr_append, bstr_append, bstr_append, bstr_append]
    simp
  have hN := fun (n : Nat) (hn : n < 18446744073709551616) w => Number_calls n hn w
  have hT := fun i w => RText_calls (R.C.getD i ⟨#[]⟩) (by have := R.cs_at h.wf i; omega) w
  have hst : ∀ i, i < R.B.length → R.B.getD i false = true → bstr (R.curC (i + 1)) = bstr (R.curC i) ++ (bstr (numL i) ++ bstr (numL (R.C.getD i ⟨#[]⟩).size ++ (R.C.getD i ⟨#[]⟩).data.toList)) := fun i hi hb => by
    rw [R.curC_succ, bstr_append, bstr_append]
    unfold Rv.ent
    rw [if_pos hb]
  have hs0 : ∀ i, R.B.getD i false = false → R.curC (i + 1) = R.curC i := fun i hb => by
    rw [R.curC_succ]
    unfold Rv.ent
    rw [if_neg (by rw [hb]; simp), List.append_nil]
  have hcz : ∀ j, j ≤ R.B.length → (bstr (R.curC j)).size ≤ 1020 * j := fun j hj => by rw [bstr_size]; exact R.curC_le h.wf j (by omega)
  have htz : ∀ i, (bstr (numL (R.C.getD i ⟨#[]⟩).size ++ (R.C.getD i ⟨#[]⟩).data.toList)).size ≤ 1010 := fun i => by
    rw [bstr_size, List.length_append]
    have h1 := R.cs_at h.wf i
    have h2 := numL_64 (R.C.getD i ⟨#[]⟩).size (by omega)
    have h3 : (R.C.getD i ⟨#[]⟩).data.toList.length = (R.C.getD i ⟨#[]⟩).size := rfl
    omega
  have hz : ∀ n, n < 18446744073709551616 → (bstr (numL n)).size ≤ 10 := fun n hn => by rw [bstr_size]; exact numL_64 n hn
  have hzs := hz sn (by omega)
  have hze := hz en (by omega)
  have hzn := hz R.B.length (by omega)
  have cs := fun w => hN sn (by omega) w
  have ce := fun w => hN en (by omega) w
  have cn := fun w => hN R.B.length (by omega) w
  have HH := Lib.hid h; have HCL := Lib.hid hcl; have HNN := Lib.hid hN; have HTT := Lib.hid hT; have HST := Lib.hid hst; have HS0 := Lib.hid hs0; have HCZ := Lib.hid hcz; have HTZ := Lib.hid htz; have HZ := Lib.hid hz
  have CS := Lib.hid cs; have CE := Lib.hid ce; have CN := Lib.hid cn
  clear h hcl hN hT hst hs0 hcz htz hz cs ce cn hsn hen
  obtain ⟨X, hX⟩ : ∃ X, X = bstr R.curL := ⟨_, rfl⟩
  rw [← hX]
  rw [← hX] at HCL
  clear hX
  have w1_ : IntKind.u64.wrap (sn : Int) = (sn : Int) := by rw [IntKind.wrap_u64]; omega
  have w2_ : IntKind.u64.wrap (en : Int) = (en : Int) := by rw [IntKind.wrap_u64]; omega
  obtain ⟨n, hn⟩ : ∃ n, R.B.length = n := ⟨_, rfl⟩
  have HNB := Lib.hid hn
  rw [hn] at c3 hle HCL HST HCZ hzn CN
  have w3_ : IntKind.u64.wrap (n : Int) = (n : Int) := by rw [IntKind.wrap_u64]; omega
  clear hn
  generalize bstr (numL sn) = A1 at *
  generalize bstr (numL en) = A2 at *
  generalize bstr (numL n) = A3 at *
  have z1 : ¬ 9223372036854775807 < A1.size + A2.size := by omega
  have z2 : ¬ 9223372036854775807 < A1.size + A2.size + A3.size := by omega
  go_enter Try.func27, Try.ntmps27
  go_wp2_with fail
  have k0 := cell_regrown c0
  have k1 := cell_regrown c1
  have k3 := cell_regrown c3
  have cS : ∀ d os, Calls Try.prog 55 #[.int .u64 sn] (Sort.grow (redrawn w d) os) fun e w'' => e = .returned (.string A1) ∧ Lib.Grows (Sort.grow (redrawn w d) os) w'' := fun d os => Lib.Calls.grows_of (CS.out _)
  have cE : ∀ d os, Calls Try.prog 55 #[.int .u64 en] (Sort.grow (redrawn w d) os) fun e w'' => e = .returned (.string A2) ∧ Lib.Grows (Sort.grow (redrawn w d) os) w'' := fun d os => Lib.Calls.grows_of (CE.out _)
  have cN : ∀ d os, Calls Try.prog 55 #[.int .u64 n] (Sort.grow (redrawn w d) os) fun e w'' => e = .returned (.string A3) ∧ Lib.Grows (Sort.grow (redrawn w d) os) w'' := fun d os => Lib.Calls.grows_of (CN.out _)
  refine Lib.wp_region_made 22 (fun _ => none) (by kernel_rfl) (by kernel_rfl) Lib.stabP_none ?_
  simp only [List.take_succ_cons, List.take_zero, List.drop_succ_cons, List.drop_zero]
  iterate 22 (refine Lib.wpML_step (by rfl) (fun K hK => ?_); go_simp; first | (refine hK _ ?_; clear hK K) | (apply Exists.intro; refine ⟨fun _ => ?_, hK _ ?_⟩; (first | (refine ⟨?_, by with_reducible exact cS _ _⟩; exact Lib.noInit (by kernel_rfl)) | (refine ⟨?_, by with_reducible exact cE _ _⟩; exact Lib.noInit (by kernel_rfl)) | (refine ⟨?_, by with_reducible exact cN _ _⟩; exact Lib.noInit (by kernel_rfl))); clear hK K))
  refine Lib.wpML_nil ?_
  intro w1 hw1 _
  have HB1 := Lib.hid (Lib.Behind.below hw1)
  clear hw1 k0 k1 k3 cS cE cN c0 c1 c3
  go_wp2
  go_loopw [3, 4] (fun s i wr => ∃ (j : Nat) (S : ByteArray), j ≤ n ∧ i = .int .i64 j ∧ s = .string S ∧ Hid (S = A1 ++ A2 ++ A3 ++ bstr (R.curC j)) ∧ Hid (Below w.heap.size w wr)) (fun _ i _ => n - (intOf i).toNat)
  case atStart => exact ⟨0, _, by omega, rfl, rfl, Lib.hid (by
    show _ = A1 ++ A2 ++ A3 ++ bstr []
    apply ByteArray.ext; simp [bstr]), HB1⟩
  case round =>
    clear HB1
    obtain ⟨wo, rfl⟩ : ∃ wo : World, wo = wr := ⟨_, rfl⟩
    obtain ⟨j, S, hj, rfl, rfl, HS, HB⟩ := hrel
    have HQ := Lib.hid (HH.out.below HB.out (Nat.le_refl _))
    have c3 := HQ.out.cells.2.2.2.1
    have c2 := HQ.out.cells.2.2.1
    rw [HNB.out] at c2 c3
    have hSz : S.size ≤ 100 + 1020 * j := by
      have h1 := HCZ.out j hj
      rw [HS.out, ByteArray.size_append, ByteArray.size_append, ByteArray.size_append]
      omega
    by_cases hlt : j < n
    · have hjI : (j : Int) < (n : Int) := by omega
      have ci := HQ.out.icell j (by rw [HNB.out]; exact hlt)
      cases hb : R.B.getD j false with
      | false =>
        rw [hb] at ci
        have HE := Lib.hid (HS0.out j hb)
        clear hb HQ
        go_wp2
        exact ⟨⟨j + 1, _, by omega, by go_num, rfl, by rw [HE.out]; exact HS, HB⟩, by simp only [intOf]; omega⟩
      | true =>
        rw [hb] at ci
        have HE := Lib.hid (HST.out j hlt hb)
        have cc := HQ.out.ccell j (by rw [HNB.out]; exact hlt)
        have hzj := HZ.out j (by omega)
        have hzt := HTZ.out j
        have cJ := Lib.hid (fun w => HNN.out j (by omega) w)
        have cT := Lib.hid (fun w => HTT.out j w)
        have wj_ : IntKind.u64.wrap (j : Int) = (j : Int) := by rw [IntKind.wrap_u64]; omega
        generalize bstr (numL (R.C.getD j ⟨#[]⟩).size ++ (R.C.getD j ⟨#[]⟩).data.toList) = TX at *
        generalize R.C.getD j ⟨#[]⟩ = c at *
        generalize bstr (numL j) = NJ at *
        have z3 : ¬ 9223372036854775807 < NJ.size + TX.size := by omega
        have z4 : ¬ 9223372036854775807 < S.size + (NJ.size + TX.size) := by omega
        have k3 := cell_regrown c3
        have kc := cell_regrown cc
        have cJ2 : ∀ d os, Calls Try.prog 55 #[.int .u64 j] (Sort.grow (redrawn wo d) os) fun e w'' => e = .returned (.string NJ) ∧ Lib.Grows (Sort.grow (redrawn wo d) os) w'' := fun d os => Lib.Calls.grows_of (cJ.out _)
        have cT2 : ∀ d os, Calls Try.prog 56 #[.string c] (Sort.grow (redrawn wo d) os) fun e w'' => e = .returned (.string TX) ∧ Lib.Grows (Sort.grow (redrawn wo d) os) w'' := fun d os => Lib.Calls.grows_of (cT.out _)
        clear hb HQ cJ cT
        go_wp2_with fail
        refine Lib.wp_region_made 15 (fun _ => none) (by kernel_rfl) (by kernel_rfl) Lib.stabP_none ?_
        simp only [List.take_succ_cons, List.take_zero, List.drop_succ_cons, List.drop_zero]
        iterate 15 (refine Lib.wpML_step (by rfl) (fun K hK => ?_); go_simp; first | (refine hK _ ?_; clear hK K) | (apply Exists.intro; refine ⟨fun _ => ?_, hK _ ?_⟩; (first | (refine ⟨?_, by with_reducible exact cJ2 _ _⟩; exact Lib.noInit (by kernel_rfl)) | (refine ⟨?_, by with_reducible exact cT2 _ _⟩; exact Lib.noInit (by kernel_rfl))); clear hK K))
        refine Lib.wpML_nil ?_
        intro w2 hw2 _
        have HB2 := Lib.hid (bn HB.out (Lib.Behind.below hw2))
        have HS2 : Hid (S ++ (NJ ++ TX) = A1 ++ A2 ++ A3 ++ bstr (R.curC (j + 1))) := Lib.hid (by rw [HE.out, HS.out]; apply ByteArray.ext; simp)
        clear hw2 HB HS k3 kc cJ2 cT2 c2 c3 ci cc HE
        go_wp2
        exact ⟨⟨j + 1, _, by omega, by go_num, rfl, HS2, HB2⟩, by simp only [intOf]; omega⟩
    · obtain rfl : j = n := by omega
      have z5 : ¬ 9223372036854775807 < S.size + A3.size := by omega
      have HXX : Hid (X = S ++ A3) := Lib.hid (by rw [HCL.out, HS.out])
      clear HQ
      go_wp2_with fail
      refine (CN.out _).mono ?_
      rintro e w2 ⟨rfl, hb2⟩
      have HB2 := Lib.hid (bn HB.out hb2)
      clear hb2 HB
      go_wp2
      go_ret
      exact ⟨by rw [HXX.out]; rfl, HB2.out⟩
end Go.Proofs.Ytpgcdfdfbcmodaa
