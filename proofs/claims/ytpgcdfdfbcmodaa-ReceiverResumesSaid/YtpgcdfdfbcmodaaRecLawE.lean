/- The walk of the law ReceiverResumes: it answers true. -/
import Derived.Test.YtpgcdfdfbcmodaaRecResP
import Derived.Deep.RegionHeld
namespace Go.Proofs.Ytpgcdfdfbcmodaa
open Go.RowKit
set_option linter.unusedVariables false
set_option linter.unusedSimpArgs false
theorem res_wrap (a : Int) : ∃ U : Nat, IntKind.u64.wrap a = U := by
  rw [IntKind.wrap_u64]; exact ⟨(a % 18446744073709551616).toNat, by omega⟩
theorem res_mod (U : Nat) : ∃ m : Nat, (U : Int) % 20 = m ∧ m < 20 ∧ wrap64 (m : Int) = m := by
  have := Nat.mod_lt U (show 20 > 0 by omega)
  refine ⟨U % 20, by simp, this, ?_⟩
  unfold wrap64; omega
theorem Fr.row_cells {w : World} {b : Nat} {f : Fr} {fr : Nat × Nat} (h : w.heap[b]? = some (.cells #[.int .i64 f.k, .int .i64 f.s, .int .i64 f.e, .int .i64 f.i, .int .i64 f.t, .string f.d] 32 fr)) :
    w.cell? ⟨b, 0, none⟩ = some (.int .i64 f.k) ∧ w.cell? ⟨b, 1, none⟩ = some (.int .i64 f.s) ∧ w.cell? ⟨b, 2, none⟩ = some (.int .i64 f.e) ∧ w.cell? ⟨b, 3, none⟩ = some (.int .i64 f.i) ∧ w.cell? ⟨b, 4, none⟩ = some (.int .i64 f.t) ∧ w.cell? ⟨b, 5, none⟩ = some (.string f.d) :=
  ⟨cell_of_row _ _ 0 _ _ _ h, cell_of_row _ _ 1 _ _ _ h, cell_of_row _ _ 2 _ _ _ h, cell_of_row _ _ 3 _ _ _ h, cell_of_row _ _ 4 _ _ _ h, cell_of_row _ _ 5 _ _ _ h⟩
set_option maxRecDepth 100000 in
set_option maxHeartbeats 16000000 in
theorem ReceiverResumes_walk (a0 : Int) (v1 : Value) (xs : List Fr) (a2 : Int) (w : World) (w0 : (Lit.int .i64 a0).wf = true) (w1 : Frs w v1 xs ∧ xs.length ≤ 140737488351232) (w2 : (Lit.int .u64 a2).wf = true) :
    Calls Try.prog 8 #[.int .i64 a0, v1, .int .u64 a2] w fun e w' => e = .returned (.bool true) ∧ Below w.heap.size w w' := by
  obtain ⟨⟨adx, capx, rfl, hxs⟩, hlx⟩ := w1
  have HXS := Lib.hid hxs; clear hxs
  obtain ⟨U, hU⟩ := res_wrap a0
  obtain ⟨m, hm, hm20, hmw⟩ := res_mod U
  by_cases hbig : 100 < (xs.length : Int)
  · go_enter Try.func8, Try.ntmps8
    go_wp2_with fail
    refine (awake_calls _).mono ?_
    rintro e w1 ⟨rfl, hb1⟩
    go_wp2_with fail
    refine (awake_calls _).mono ?_
    rintro e w2 ⟨rfl, hb2⟩
    go_wp2
    go_ret
    exact ⟨rfl, bn hb1 hb2⟩
  have hnx : xs.length ≤ 100 := by omega
  have hd1 : decide (100 < (xs.length : Int)) = false := by simpa using hbig
  clear hbig
  obtain ⟨n, hn⟩ : ∃ n : Nat, (1 : Int) + m = n := ⟨1 + m, by omega⟩
  have hn1 : 1 ≤ n ∧ n ≤ 20 := by omega
  have hnew := fun w => RNew_good w 1 2 n (by decide) (by decide) (by decide) (by decide) hn1.1 (by omega)
  have ht := two_start n
  generalize Rv.start 1 2 n = R0 at *
  have HNEW := Lib.hid hnew; clear hnew
  have HT := Lib.hid ht; clear ht
  have hwn : wrap64 (n : Int) = n := by unfold wrap64; omega
  go_enter Try.func8, Try.ntmps8
  go_wp2_with fail
  refine (awake_calls _).mono ?_
  rintro e w1 ⟨rfl, hb1⟩
  go_wp2_with fail
  refine (HNEW.out _).mono ?_
  rintro e w2 ⟨a, rfl, hv2, hb2, hk2⟩
  have hc2 := bn hb1 hb2
  have HK : Hid (∀ k ∈ a.all, w.heap.size ≤ k) := Lib.hid fun k hk => Nat.le_trans hb1.size (hk2 k hk)
  have HV2 := Lib.hid hv2; have HC2 := Lib.hid hc2
  clear hb1 hb2 hk2 hv2 hc2
  go_wp2_with fail
  refine (HNEW.out _).mono ?_
  rintro e w3 ⟨z, rfl, hz3, hb3, hk3⟩
  have hza := Ra.old HV2.out.lt hk3
  have HZA := Lib.hid hza
  have HKZ : Hid (∀ k ∈ z.all, w.heap.size ≤ k) := Lib.hid fun k hk => Nat.le_trans HC2.out.size (hk3 k hk)
  have HV3 := Lib.hid (HV2.out.below hb3 (Nat.le_refl _)); have HZ3 := Lib.hid hz3; have HC3 := Lib.hid (bn HC2.out hb3)
  clear hza hk3 hz3 hb3 HV2 HC2 HNEW
  go_wp2
  go_loopw [9, 50] (fun s9 s50 wr => ∃ (j : Nat) (z : Ra) (X Y : Rv), s9 = .pointer (some ⟨z.g, 0, none⟩) ∧ s50 = .int .i64 j ∧ j ≤ xs.length ∧ Hid (RvAt X a wr) ∧ Hid (RvAt Y z wr) ∧ Hid (∀ k ∈ z.all, k ∉ a.all) ∧ Hid (∀ k ∈ z.all, w.heap.size ≤ k) ∧ Hid (TwoR n j X Y) ∧ Hid (Below w.heap.size w wr)) (fun _ s50 _ => xs.length - (intOf s50).toNat)
  case atStart => exact ⟨0, z, R0, R0, rfl, rfl, by omega, HV3, HZ3, HZA, HKZ, HT, HC3⟩
  case round =>
    clear HV3 HZ3 HC3 HZA HKZ HT
    obtain ⟨wo, rfl⟩ : ∃ wo : World, wo = wr := ⟨_, rfl⟩
    obtain ⟨j, z, X, Y, rfl, rfl, hj, hv, hz, hza, hkz, ht, hc⟩ := hrel
    by_cases hlt : j < xs.length
    · have hx := List.getElem?_eq_getElem hlt
      obtain ⟨gx, ox, rfl, hcl⟩ := HXS.out (by intro e; subst e; simp at hlt)
      have hfc := (hcl j _ hx).1
      generalize hff : xs[j] = f at *
      obtain ⟨q0, q1, q2, q3, q4, q5⟩ := hfc
      have r0 := (hc.out.cell (World.block_lt_of_cell? w _ q0)).trans q0
      have r1 := (hc.out.cell (World.block_lt_of_cell? w _ q1)).trans q1
      have r2 := (hc.out.cell (World.block_lt_of_cell? w _ q2)).trans q2
      have r3 := (hc.out.cell (World.block_lt_of_cell? w _ q3)).trans q3
      have r4 := (hc.out.cell (World.block_lt_of_cell? w _ q4)).trans q4
      have r5 := (hc.out.cell (World.block_lt_of_cell? w _ q5)).trans q5
      clear q0 q1 q2 q3 q4 q5 hcl HXS hx hff
      have hjI : (j : Int) < (xs.length : Int) := by omega
      by_cases hdb : 500 < (f.d.size : Int)
      · have hdd : decide (500 < (f.d.size : Int)) = true := by simpa using hdb
        have hba := (Below.refl wo.heap.size wo).alloc (Nat.le_refl _) (.cells #[.int .i64 f.k, .int .i64 f.s, .int .i64 f.e, .int .i64 f.i, .int .i64 f.t, .string f.d] 32)
        have HCA := Lib.hid (bn hc.out hba)
        go_wp2
        go_ret
        exact ⟨rfl, HCA.out⟩
      · have hdd : decide (500 < (f.d.size : Int)) = false := by simpa using hdb
        have hba := (Below.refl wo.heap.size wo).alloc (Nat.le_refl _) (.cells #[.int .i64 f.k, .int .i64 f.s, .int .i64 f.e, .int .i64 f.i, .int .i64 f.t, .string f.d] 32)
        have hp := heap_alloc_new wo (.cells #[.int .i64 f.k, .int .i64 f.s, .int .i64 f.e, .int .i64 f.i, .int .i64 f.t, .string f.d] 32)
        have HCA := Lib.hid (bn hc.out hba); have HVA := Lib.hid (hv.out.below hba (Nat.le_refl _)); have HZA2 := Lib.hid (hz.out.below hba (Nat.le_refl _))
        have hcf := Fr.row_cells hp
        have hVD := (hv.out.below hba (Nat.le_refl _)).below ((Below.refl _ (wo.alloc (.cells #[.int .i64 f.k, .int .i64 f.s, .int .i64 f.e, .int .i64 f.i, .int .i64 f.t, .string f.d] 32))).drew) (Nat.le_refl _)
        have hTX : Calls Try.prog 18 #[.pointer (some ⟨a.g, 0, none⟩), .agg #[.int .i64 f.k, .int .i64 f.s, .int .i64 f.e, .int .i64 f.i, .int .i64 f.t, .string f.d]] _ (TakePost X a _ (X.take f)) := Take_calls _ X a f hVD (by have := ht.out.cx; omega) (fun e => by have := ht.out.dx e; omega)
        have hTY : ∀ w1, RvAt Y z w1 → Calls Try.prog 18 #[.pointer (some ⟨z.g, 0, none⟩), .agg #[.int .i64 f.k, .int .i64 f.s, .int .i64 f.e, .int .i64 f.i, .int .i64 f.t, .string f.d]] w1 (TakePost Y z w1 (Y.take f)) := fun w1 (h : RvAt Y z w1) => Take_calls w1 Y z f h (by have := ht.out.cy; omega) (fun e => by have := ht.out.dy e; omega)
        obtain ⟨hce, ht2⟩ := ht.out.take f
        have hZD := fun w1 (h : Chg a.all (wo.alloc (.cells #[.int .i64 f.k, .int .i64 f.s, .int .i64 f.e, .int .i64 f.i, .int .i64 f.t, .string f.d] 32)).drew w1) => (((hz.out.below hba (Nat.le_refl _)).below ((Below.refl _ (wo.alloc (.cells #[.int .i64 f.k, .int .i64 f.s, .int .i64 f.e, .int .i64 f.i, .int .i64 f.t, .string f.d] 32))).drew) (Nat.le_refl _)).chg h hza.out)
        have hPD : (wo.alloc (.cells #[.int .i64 f.k, .int .i64 f.s, .int .i64 f.e, .int .i64 f.i, .int .i64 f.t, .string f.d] 32)).drew.heap[wo.heap.size]? = _ := hp
        have HP := Lib.hid hPD
        have hlt0 : wo.heap.size < (wo.alloc (.cells #[.int .i64 f.k, .int .i64 f.s, .int .i64 f.e, .int .i64 f.i, .int .i64 f.t, .string f.d] 32)).drew.heap.size := (Array.getElem?_eq_some_iff.1 hPD).1
        generalize X.take f = rx at hTX ht2 hce
        generalize Y.take f = ry at hTY ht2 hce
        obtain ⟨c, X'⟩ := rx
        obtain ⟨c', Y'⟩ := ry
        simp only at hce
        subst hce
        have n1 : wo.heap.size ∉ a.all := fun h => by have := hv.out.lt _ h; omega
        have n2 : wo.heap.size ∉ z.all := fun h => by have := hz.out.lt _ h; omega
        have HN1 := Lib.hid n1; have HN2 := Lib.hid n2
        have HTX := Lib.hid hTX; have HTY := Lib.hid hTY; have HZD := Lib.hid hZD; have HT2 := Lib.hid ht2; have HL0 := Lib.hid hlt0
        have HCD := Lib.hid HCA.out.drew
        clear hba hc hv hz hp n1 n2 hdb hPD hTX hTY hZD ht2 hlt0 hVD HCA HVA HZA2
        go_wp2_with fail
        generalize wo.alloc _ = x0 at *
        generalize wo.heap.size = b at *
        obtain ⟨c0, c1, c2, c3, c4, c5⟩ := hcf
        have hcc : ((c' : Int) != (c' : Int)) = false := by simp
        refine wp_region_held_drew (S := fun w' => w'.cell? ⟨b, 0, none⟩ = some (.int .i64 f.k) ∧ w'.cell? ⟨b, 1, none⟩ = some (.int .i64 f.s) ∧ w'.cell? ⟨b, 2, none⟩ = some (.int .i64 f.e) ∧ w'.cell? ⟨b, 3, none⟩ = some (.int .i64 f.i) ∧ w'.cell? ⟨b, 4, none⟩ = some (.int .i64 f.t) ∧ w'.cell? ⟨b, 5, none⟩ = some (.string f.d)) (by kernel_rfl) (Fr.row_cells HP.out) (fun hS => ?_)
        refine wpAnyH_take (i := 0) (v := ?tkv0) rfl (by kernel_rfl) (by kernel_rfl) (by kernel_rfl) (fun _ _ _ h => h) (Or.inl ⟨by rfl, ?tky0⟩) (by assumption) ?tkr0
        case tky0 => (intro w hSw; (try dsimp only at hSw); go_simp; with_reducible rfl)
        simp only [Act.put, List.getElem_toArray, List.getElem_cons_succ, List.getElem_cons_zero, List.setIfInBounds_toArray, List.set_cons_zero, List.set_cons_succ]
        refine wpAnyH_take (i := 1) (v := ?tkv1) rfl (by kernel_rfl) (by kernel_rfl) (by kernel_rfl) (fun _ _ _ h => h) (Or.inl ⟨by rfl, ?tky1⟩) (by assumption) ?tkr1
        case tky1 => (intro w hSw; (try dsimp only at hSw); go_simp; with_reducible rfl)
        simp only [Act.put, List.getElem_toArray, List.getElem_cons_succ, List.getElem_cons_zero, List.setIfInBounds_toArray, List.set_cons_zero, List.set_cons_succ]
        refine wpAnyH_take (i := 3) (v := ?tkv3) rfl (by kernel_rfl) (by kernel_rfl) (by kernel_rfl) (fun _ _ _ h => h) (Or.inl ⟨by rfl, ?tky3⟩) (by assumption) ?tkr3
        case tky3 => (intro w hSw; (try dsimp only at hSw); go_simp; with_reducible rfl)
        simp only [Act.put, List.getElem_toArray, List.getElem_cons_succ, List.getElem_cons_zero, List.setIfInBounds_toArray, List.set_cons_zero, List.set_cons_succ]
        refine wpAnyH_take (i := 4) (v := ?tkv4) rfl (by kernel_rfl) (by kernel_rfl) (by kernel_rfl) (fun _ _ _ h => h) (Or.inl ⟨by rfl, ?tky4⟩) (by assumption) ?tkr4
        case tky4 => (intro w hSw; (try dsimp only at hSw); go_simp; with_reducible rfl)
        simp only [Act.put, List.getElem_toArray, List.getElem_cons_succ, List.getElem_cons_zero, List.setIfInBounds_toArray, List.set_cons_zero, List.set_cons_succ]
        refine wpAnyH_ready (rs := [2]) (by kernel_rfl) (by simp) ?_
        refine AllReadyH.cons rfl (fun K hK => ?_) AllReadyH.nil
        go_simp
        go_at_call 18
        with_reducible refine HTX.out.mono ?_
        rintro e x1 ⟨rfl, hv1, hg1⟩; have hr1 := (hg1.other _ HL0.out HN1.out).trans HP.out
        go_simp
        refine hK.out _ _ (Fr.row_cells hr1) (fun hS1 => ?_)
        clear hK K hS
        refine wpAnyH_ready (rs := [5]) (by kernel_rfl) (by simp) ?_
        refine AllReadyH.cons rfl (fun K hK => ?_) AllReadyH.nil
        go_simp
        go_at_call 18
        with_reducible refine (HTY.out _ (HZD.out _ hg1)).mono ?_
        rintro e x2 ⟨rfl, hz2, hg2⟩; have hr2 := (hg2.other _ (Array.getElem?_eq_some_iff.1 hr1).1 HN2.out).trans hr1
        go_simp
        refine hK.out _ _ (Fr.row_cells hr2) (fun hS => ?_)
        clear hK K hS1
        refine wpAnyH_take (i := 6) (v := ?tkv6) rfl (by kernel_rfl) (by kernel_rfl) (by kernel_rfl) (fun _ _ _ h => h) (Or.inl ⟨by rfl, ?tky6⟩) (by assumption) ?tkr6
        case tky6 => (intro w hSw; (try dsimp only at hSw); go_simp; with_reducible rfl)
        simp only [Act.put, List.getElem_toArray, List.getElem_cons_succ, List.getElem_cons_zero, List.setIfInBounds_toArray, List.set_cons_zero, List.set_cons_succ]
        refine wpAnyH_done (by kernel_rfl) ?_ _
        have hv3 := hv1.chg hg2 (fun k h1 h2 => hza.out k h2 h1)
        have hc3 := (HCD.out.trans (hg1.below HK.out HCD.out.size)).trans (hg2.below hkz.out (HCD.out.trans (hg1.below HK.out HCD.out.size)).size)
        have HV := Lib.hid hv3; have HZ := Lib.hid hz2; have HC := Lib.hid hc3
        clear hS hv1 hg1 hr1 hz2 hg2 hr2 hv3 hc3 HTX HTY HZD HP HCD
        go_wp2_with fail
        · skip
          have hcz0 := RCur_calls x2 Y' z HZ.out
          rw [HT2.out.tells.1] at hcz0
          have hres := fun w => Resume_calls w (bstr X'.curL)
          rw [show (bstr X'.curL).data.toList = X'.curL by simp [bstr], ← HT2.out.tells.1, (HT2.out.res hn1.1 (by omega)).2, HT2.out.tells.1] at hres
          have hcw := fun w (h : RvAt Y' z w) => RCur_calls w Y' z h
          rw [HT2.out.tells.1] at hcw
          have hcf := fun w (z2 : Ra) (h : RvAt Y'.fresh z2 w) => RCur_calls w Y'.fresh z2 h
          rw [HT2.out.tells.2.1] at hcf
          generalize bstr X'.curL = CU at *
          have HRES := Lib.hid hres; have HCW := Lib.hid hcw; have HCF := Lib.hid hcf
          clear hres hcw hcf
          refine hcz0.mono ?_
          rintro e u1 ⟨rfl, hb⟩
          have HVa := Lib.hid (HV.out.below hb (Nat.le_refl _)); have HZa := Lib.hid (HZ.out.below hb (Nat.le_refl _)); have HCa := Lib.hid (bn HC.out hb)
          clear hb HV HZ HC hcz0
          go_wp2_with fail
          refine (HRES.out _).mono ?_
          rintro e u2 ⟨hor, hb⟩
          rcases hor with ⟨h1, -⟩ | ⟨R2, z2, h1, -, rfl, hz2, hk2⟩
          · cases h1
          obtain rfl : Y'.fresh = R2 := Option.some.inj h1
          have HVb := Lib.hid (HVa.out.below hb (Nat.le_refl _)); have HZb := Lib.hid (HZa.out.below hb (Nat.le_refl _)); have HCb := Lib.hid (bn HCa.out hb); have HWb := Lib.hid hz2
          have HZA2 : Hid (∀ k ∈ z2.all, k ∉ a.all) := Lib.hid (Ra.old HVa.out.lt hk2)
          have HKZ2 : Hid (∀ k ∈ z2.all, w.heap.size ≤ k) := Lib.hid fun k hk => Nat.le_trans HCa.out.size (hk2 k hk)
          clear hb hz2 hk2 HVa HZa HCa h1 HRES
          go_wp2_with fail
          refine (HCF.out _ _ HWb.out).mono ?_
          rintro e u3 ⟨rfl, hb⟩
          have HVc := Lib.hid (HVb.out.below hb (Nat.le_refl _)); have HZc := Lib.hid (HZb.out.below hb (Nat.le_refl _)); have HCc := Lib.hid (bn HCb.out hb); have HWc := Lib.hid (HWb.out.below hb (Nat.le_refl _))
          clear hb HVb HZb HCb HWb HCF
          go_wp2_with fail
          refine (HCW.out _ HZc.out).mono ?_
          rintro e u4 ⟨rfl, hb⟩
          have HVd := Lib.hid (HVc.out.below hb (Nat.le_refl _)); have HCd := Lib.hid (bn HCc.out hb); have HWd := Lib.hid (HWc.out.below hb (Nat.le_refl _)); have HT3 := Lib.hid HT2.out.fresh
          clear hb HVc HZc HCc HWc HCW
          go_wp2_with fail
          have HTT := Lib.hid HT3.out
          have hda := fun w (h : RvAt X' a w) => Data_calls w X' a h
          have hdz := fun w (h : RvAt Y'.fresh z2 w) => Data_calls w Y'.fresh z2 h
          have hka := fun w (h : RvAt X' a w) => RAck_calls w X' a h
          have hkz2 := fun w (h : RvAt Y'.fresh z2 w) => RAck_calls w Y'.fresh z2 h
          have hca := fun w (h : RvAt X' a w) => RCur_calls w X' a h
          have hcz := fun w (h : RvAt Y'.fresh z2 w) => RCur_calls w Y'.fresh z2 h
          have hta := fun w (h : RvAt X' a w) => RThere_calls w X' a h
          have htz := fun w (h : RvAt Y'.fresh z2 w) => RThere_calls w Y'.fresh z2 h
          have hct := fun w' g (h : Mp X'.B g w') => Count_calls w' g X'.B h
          obtain ⟨t1, -, t3, t4⟩ := HTT.out.tells
          rw [t3, t4] at hdz
          rw [t1] at hcz
          rw [HTT.out.s, HTT.out.e, HTT.out.B] at hkz2
          rw [HTT.out.B] at htz
          generalize dS X' = DS at hda hdz
          generalize dE X' = DE at hda hdz
          generalize bstr X'.curL = CU at hca hcz
          generalize X'.ses = SE at hka hkz2
          generalize X'.ep = EP at hka hkz2
          generalize baseB X'.B = BA at hka hkz2
          generalize X'.B.length = LE at hka hkz2
          generalize tellB X'.B 16 = TE at hka hkz2
          have HDA := Lib.hid hda; have HDZ := Lib.hid hdz; have HKA := Lib.hid hka; have HKZ3 := Lib.hid hkz2; have HCA := Lib.hid hca; have HCZ := Lib.hid hcz; have HTA := Lib.hid hta; have HTZ := Lib.hid htz; have HCT := Lib.hid hct
          clear hda hdz hka hkz2 hca hcz hta htz hct t1 t3 t4
          refine (HDA.out _ HVd.out).mono ?_
          rintro e y1 ⟨rfl, hb⟩
          have HV1 := Lib.hid (HVd.out.below hb (Nat.le_refl _)); have HZ1 := Lib.hid (HWd.out.below hb (Nat.le_refl _)); have HC1 := Lib.hid (bn HCd.out hb)
          clear hb
          go_wp2_with fail
          refine (HDZ.out _ HZ1.out).mono ?_
          rintro e y2 ⟨rfl, hb⟩
          have HV2 := Lib.hid (HV1.out.below hb (Nat.le_refl _)); have HZ2 := Lib.hid (HZ1.out.below hb (Nat.le_refl _)); have HC2 := Lib.hid (bn HC1.out hb)
          clear hb HV1 HZ1 HC1
          go_wp2_with fail
          refine (HKA.out _ HV2.out).mono ?_
          rintro e y3 ⟨rfl, hb⟩
          have HV3 := Lib.hid (HV2.out.below hb (Nat.le_refl _)); have HZ3 := Lib.hid (HZ2.out.below hb (Nat.le_refl _)); have HC3 := Lib.hid (bn HC2.out hb)
          clear hb HV2 HZ2 HC2
          go_wp2_with fail
          refine (HKZ3.out _ HZ3.out).mono ?_
          rintro e y4 ⟨rfl, hb⟩
          have HV4 := Lib.hid (HV3.out.below hb (Nat.le_refl _)); have HZ4 := Lib.hid (HZ3.out.below hb (Nat.le_refl _)); have HC4 := Lib.hid (bn HC3.out hb)
          clear hb HV3 HZ3 HC3
          go_wp2_with fail
          refine (HCA.out _ HV4.out).mono ?_
          rintro e y5 ⟨rfl, hb⟩
          have HV5 := Lib.hid (HV4.out.below hb (Nat.le_refl _)); have HZ5 := Lib.hid (HZ4.out.below hb (Nat.le_refl _)); have HC5 := Lib.hid (bn HC4.out hb)
          clear hb HV4 HZ4 HC4
          go_wp2_with fail
          refine (HCZ.out _ HZ5.out).mono ?_
          rintro e y6 ⟨rfl, hb⟩
          have HV6 := Lib.hid (HV5.out.below hb (Nat.le_refl _)); have HZ6 := Lib.hid (HZ5.out.below hb (Nat.le_refl _)); have HC6 := Lib.hid (bn HC5.out hb)
          clear hb HV5 HZ5 HC5
          go_wp2_with fail
          refine (HTA.out _ HV6.out).mono ?_
          rintro e y7 ⟨rfl, hm7, hb, -⟩
          have HV7 := Lib.hid (HV6.out.below hb (Nat.le_refl _)); have HZ7 := Lib.hid (HZ6.out.below hb (Nat.le_refl _)); have HC7 := Lib.hid (bn HC6.out hb); have HM7 := Lib.hid hm7
          clear hb HV6 HZ6 HC6 hm7
          go_wp2_with fail
          refine (HCT.out _ _ HM7.out).mono ?_
          rintro e y8 ⟨rfl, rfl⟩
          go_wp2_with fail
          refine (HTZ.out _ HZ7.out).mono ?_
          rintro e y9 ⟨rfl, hm9, hb, -⟩
          have HV9 := Lib.hid (HV7.out.below hb (Nat.le_refl _)); have HZ9 := Lib.hid (HZ7.out.below hb (Nat.le_refl _)); have HC9 := Lib.hid (bn HC7.out hb); have HM9 := Lib.hid hm9
          clear hb HV7 HZ7 HC7 hm9 HM7
          go_wp2_with fail
          refine (HCT.out _ _ HM9.out).mono ?_
          rintro e y10 ⟨rfl, rfl⟩
          clear HDA HDZ HKA HKZ3 HCA HCZ HTA HTZ HCT HM9
          go_wp2
          exact ⟨⟨j + 1, z2, X', Y'.fresh, by first | rfl | trivial, by go_num, by omega, HV9, HZ9, HZA2, HKZ2, HTT, HC9⟩, by simp only [intOf]; omega⟩
        · skip
          have HTT := Lib.hid HT2.out
          have hda := fun w (h : RvAt X' a w) => Data_calls w X' a h
          have hdz := fun w (h : RvAt Y' z w) => Data_calls w Y' z h
          have hka := fun w (h : RvAt X' a w) => RAck_calls w X' a h
          have hkz2 := fun w (h : RvAt Y' z w) => RAck_calls w Y' z h
          have hca := fun w (h : RvAt X' a w) => RCur_calls w X' a h
          have hcz := fun w (h : RvAt Y' z w) => RCur_calls w Y' z h
          have hta := fun w (h : RvAt X' a w) => RThere_calls w X' a h
          have htz := fun w (h : RvAt Y' z w) => RThere_calls w Y' z h
          have hct := fun w' g (h : Mp X'.B g w') => Count_calls w' g X'.B h
          obtain ⟨t1, -, t3, t4⟩ := HTT.out.tells
          rw [t3, t4] at hdz
          rw [t1] at hcz
          rw [HTT.out.s, HTT.out.e, HTT.out.B] at hkz2
          rw [HTT.out.B] at htz
          generalize dS X' = DS at hda hdz
          generalize dE X' = DE at hda hdz
          generalize bstr X'.curL = CU at hca hcz
          generalize X'.ses = SE at hka hkz2
          generalize X'.ep = EP at hka hkz2
          generalize baseB X'.B = BA at hka hkz2
          generalize X'.B.length = LE at hka hkz2
          generalize tellB X'.B 16 = TE at hka hkz2
          have HDA := Lib.hid hda; have HDZ := Lib.hid hdz; have HKA := Lib.hid hka; have HKZ2 := Lib.hid hkz2; have HCA := Lib.hid hca; have HCZ := Lib.hid hcz; have HTA := Lib.hid hta; have HTZ := Lib.hid htz; have HCT := Lib.hid hct
          clear hda hdz hka hkz2 hca hcz hta htz hct t1 t3 t4
          refine (HDA.out _ HV.out).mono ?_
          rintro e y1 ⟨rfl, hb⟩
          have HV1 := Lib.hid (HV.out.below hb (Nat.le_refl _)); have HZ1 := Lib.hid (HZ.out.below hb (Nat.le_refl _)); have HC1 := Lib.hid (bn HC.out hb)
          clear hb
          go_wp2_with fail
          refine (HDZ.out _ HZ1.out).mono ?_
          rintro e y2 ⟨rfl, hb⟩
          have HV2 := Lib.hid (HV1.out.below hb (Nat.le_refl _)); have HZ2 := Lib.hid (HZ1.out.below hb (Nat.le_refl _)); have HC2 := Lib.hid (bn HC1.out hb)
          clear hb HV1 HZ1 HC1
          go_wp2_with fail
          refine (HKA.out _ HV2.out).mono ?_
          rintro e y3 ⟨rfl, hb⟩
          have HV3 := Lib.hid (HV2.out.below hb (Nat.le_refl _)); have HZ3 := Lib.hid (HZ2.out.below hb (Nat.le_refl _)); have HC3 := Lib.hid (bn HC2.out hb)
          clear hb HV2 HZ2 HC2
          go_wp2_with fail
          refine (HKZ2.out _ HZ3.out).mono ?_
          rintro e y4 ⟨rfl, hb⟩
          have HV4 := Lib.hid (HV3.out.below hb (Nat.le_refl _)); have HZ4 := Lib.hid (HZ3.out.below hb (Nat.le_refl _)); have HC4 := Lib.hid (bn HC3.out hb)
          clear hb HV3 HZ3 HC3
          go_wp2_with fail
          refine (HCA.out _ HV4.out).mono ?_
          rintro e y5 ⟨rfl, hb⟩
          have HV5 := Lib.hid (HV4.out.below hb (Nat.le_refl _)); have HZ5 := Lib.hid (HZ4.out.below hb (Nat.le_refl _)); have HC5 := Lib.hid (bn HC4.out hb)
          clear hb HV4 HZ4 HC4
          go_wp2_with fail
          refine (HCZ.out _ HZ5.out).mono ?_
          rintro e y6 ⟨rfl, hb⟩
          have HV6 := Lib.hid (HV5.out.below hb (Nat.le_refl _)); have HZ6 := Lib.hid (HZ5.out.below hb (Nat.le_refl _)); have HC6 := Lib.hid (bn HC5.out hb)
          clear hb HV5 HZ5 HC5
          go_wp2_with fail
          refine (HTA.out _ HV6.out).mono ?_
          rintro e y7 ⟨rfl, hm7, hb, -⟩
          have HV7 := Lib.hid (HV6.out.below hb (Nat.le_refl _)); have HZ7 := Lib.hid (HZ6.out.below hb (Nat.le_refl _)); have HC7 := Lib.hid (bn HC6.out hb); have HM7 := Lib.hid hm7
          clear hb HV6 HZ6 HC6 hm7
          go_wp2_with fail
          refine (HCT.out _ _ HM7.out).mono ?_
          rintro e y8 ⟨rfl, rfl⟩
          go_wp2_with fail
          refine (HTZ.out _ HZ7.out).mono ?_
          rintro e y9 ⟨rfl, hm9, hb, -⟩
          have HV9 := Lib.hid (HV7.out.below hb (Nat.le_refl _)); have HZ9 := Lib.hid (HZ7.out.below hb (Nat.le_refl _)); have HC9 := Lib.hid (bn HC7.out hb); have HM9 := Lib.hid hm9
          clear hb HV7 HZ7 HC7 hm9 HM7
          go_wp2_with fail
          refine (HCT.out _ _ HM9.out).mono ?_
          rintro e y10 ⟨rfl, rfl⟩
          clear HDA HDZ HKA HKZ2 HCA HCZ HTA HTZ HCT HM9
          go_wp2
          exact ⟨⟨j + 1, z, X', Y', by first | rfl | trivial, by go_num, by omega, HV9, HZ9, hza, hkz, HTT, HC9⟩, by simp only [intOf]; omega⟩
    · obtain rfl : j = xs.length := by omega
      go_wp2
      go_ret
      exact ⟨rfl, hc.out⟩
end Go.Proofs.Ytpgcdfdfbcmodaa
