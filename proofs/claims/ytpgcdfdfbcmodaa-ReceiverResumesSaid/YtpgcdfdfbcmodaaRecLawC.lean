/- The walk of the law ReceiverOwn: it answers true. -/
import Derived.Test.YtpgcdfdfbcmodaaRecBack
import Derived.Test.YtpgcdfdfbcmodaaRecLawB
namespace Go.Proofs.Ytpgcdfdfbcmodaa
open Go.RowKit
set_option linter.unusedVariables false
set_option linter.unusedSimpArgs false
def dS (R : Rv) : ByteArray := if baseB R.B = R.B.length then bstr (flatC R.C) else ⟨#[]⟩
def dE (R : Rv) : Nat := if baseB R.B = R.B.length then 0 else 11
theorem Data_calls (w : World) (R : Rv) (a : Ra) (h : RvAt R a w) :
    Calls Try.prog 19 #[.pointer (some ⟨a.g, 0, none⟩)] w fun e w' => e = .returned (.tuple #[.string (dS R), .int .i64 (dE R : Nat)]) ∧ Below w.heap.size w w' := by
  unfold dS dE
  by_cases hf : baseB R.B = R.B.length
  · rw [if_pos hf, if_pos hf]; exact Data_full w R a h hf
  · rw [if_neg hf, if_neg hf]; exact Data_open w R a h hf
structure OwnR (R : Rv) (j : Nat) : Prop where
  s : R.ses = 1
  e : R.ep = 2
  l : R.B.length = 6
  b : R.bare
  c : R.cnt ≤ j
  d : ∀ e, R.D e ≤ j
theorem own_start : OwnR (Rv.start 1 2 6) 0 := ⟨rfl, rfl, by simp [Rv.start], bare_start _ _ _, Nat.le_refl _, fun _ => Nat.le_refl _⟩
theorem OwnR.take {R : Rv} {j : Nat} (h : OwnR R j) (f : Fr) : OwnR (R.take f).2 (j + 1) := by
  have hD := take_D R f j h.c h.d
  refine ⟨?_, ?_, ?_, bare_take h.b f, hD.1, hD.2⟩
  · have := h.s; unfold Rv.take; split <;> simpa [Rv.drop, Rv.put] using this
  · have := h.e; unfold Rv.take; split <;> simpa [Rv.drop, Rv.put] using this
  · have := h.l; unfold Rv.take; split <;> simpa [Rv.drop, Rv.put] using this
theorem field_0 (B : Int) (T : ByteArray) (w : World) : (Instr.field 32 (.agg #[.int .i64 2, .int .i64 1, .int .i64 2, .int .i64 B, .int .i64 6, .string T]) 0).run Try.prog w = .ok (.int .i64 2) w := by kernel_rfl
theorem field_4 (B : Int) (T : ByteArray) (w : World) : (Instr.field 32 (.agg #[.int .i64 2, .int .i64 1, .int .i64 2, .int .i64 B, .int .i64 6, .string T]) 4).run Try.prog w = .ok (.int .i64 6) w := by kernel_rfl
set_option maxRecDepth 100000 in
set_option maxHeartbeats 16000000 in
theorem ReceiverOwn_walk (v0 : Value) (xs : List Fr) (v1 : Value) (ys : List Fr) (w : World) (w0 : Frs w v0 xs ∧ xs.length ≤ 140737488351232) (w1 : Frs w v1 ys ∧ ys.length ≤ 140737488351232) :
    Calls Try.prog 5 #[v0, v1] w fun e w' => e = .returned (.bool true) ∧ Below w.heap.size w w' := by
  obtain ⟨⟨adx, capx, rfl, hxs⟩, hlx⟩ := w0
  obtain ⟨⟨ady, capy, rfl, hys⟩, hly⟩ := w1
  have HXS := Lib.hid hxs; clear hxs
  have HYS := Lib.hid hys; clear hys
  by_cases hbig : 100 < (xs.length : Int) + (ys.length : Int)
  · go_enter Try.func5, Try.ntmps5
    go_wp2_with fail
    refine (awake_calls _).mono ?_
    rintro e w1 ⟨rfl, hb1⟩
    go_wp2_with fail
    refine (awake_calls _).mono ?_
    rintro e w2 ⟨rfl, hb2⟩
    go_wp2
    go_ret
    exact ⟨rfl, bn hb1 hb2⟩
  have hnx : xs.length + ys.length ≤ 100 := by omega
  have hd1 : decide (100 < (xs.length : Int) + (ys.length : Int)) = false := by simpa using hbig
  clear hbig
  have hnew := fun w => RNew_good w 1 2 6 (by decide) (by decide) (by decide) (by decide) (by decide) (by decide)
  have ho := own_start
  generalize Rv.start 1 2 6 = R0 at *
  have HNEW := Lib.hid hnew; clear hnew
  have HO := Lib.hid ho; clear ho
  have hf0 := field_0
  have hf4 := field_4
  go_enter Try.func5, Try.ntmps5
  go_wp2_with fail
  refine (awake_calls _).mono ?_
  rintro e w1 ⟨rfl, hb1⟩
  go_wp2_with fail
  refine (HNEW.out _).mono ?_
  rintro e w2 ⟨a, rfl, hv2, hb2, hk2⟩
  have hc2 := bn hb1 hb2
  have HK : Hid (∀ k ∈ a.all, w.heap.size ≤ k) := Lib.hid fun k hk => Nat.le_trans hb1.size (hk2 k hk)
  have HV2 := Lib.hid hv2; have HC2 := Lib.hid hc2
  clear hb1 hb2 hk2 hv2 hc2
  go_wp2_with fail
  refine (HNEW.out _).mono ?_
  rintro e w3 ⟨z, rfl, hz3, hb3, hk3⟩
  have hza := Ra.old HV2.out.lt hk3
  have HZA := Lib.hid hza
  have HAZ : Hid (∀ k ∈ a.all, k ∉ z.all) := Lib.hid fun k h1 h2 => hza k h2 h1
  have HKZ : Hid (∀ k ∈ z.all, w.heap.size ≤ k) := Lib.hid fun k hk => Nat.le_trans HC2.out.size (hk3 k hk)
  have HV3 := Lib.hid (HV2.out.below hb3 (Nat.le_refl _)); have HZ3 := Lib.hid hz3; have HC3 := Lib.hid (bn HC2.out hb3)
  clear hza hk3 hz3 hb3 HV2 HC2 HNEW
  go_wp2
  go_loopw [45] (fun s45 wr => ∃ (j : Nat) (R : Rv), s45 = .int .i64 j ∧ j ≤ xs.length ∧ Hid (RvAt R a wr) ∧ Hid (RvAt R0 z wr) ∧ Hid (OwnR R j) ∧ Hid (Below w.heap.size w wr)) (fun s45 _ => xs.length - (intOf s45).toNat)
  case atStart => exact ⟨0, R0, rfl, by omega, HV3, HZ3, HO, HC3⟩
  case round =>
    clear HV3 HZ3 HC3
    obtain ⟨wo, rfl⟩ : ∃ wo : World, wo = wr := ⟨_, rfl⟩
    obtain ⟨j, R, rfl, hj, hv, hz, ho, hc⟩ := hrel
    by_cases hlt : j < xs.length
    · skip
      have hx := List.getElem?_eq_getElem hlt
      obtain ⟨gx, ox, rfl, hcl⟩ := HXS.out (by intro e; subst e; simp at hlt)
      have hfc := (hcl j _ hx).1
      generalize hff : xs[j] = f at *
      obtain ⟨q0, q1, q2, q3, q4, q5⟩ := hfc
      have r0 := (hc.out.cell (World.block_lt_of_cell? w _ q0)).trans q0
      have r1 := (hc.out.cell (World.block_lt_of_cell? w _ q1)).trans q1
      have r2 := (hc.out.cell (World.block_lt_of_cell? w _ q2)).trans q2
      have r3 := (hc.out.cell (World.block_lt_of_cell? w _ q3)).trans q3
      have r4 := (hc.out.cell (World.block_lt_of_cell? w _ q4)).trans q4
      have r5 := (hc.out.cell (World.block_lt_of_cell? w _ q5)).trans q5
      clear q0 q1 q2 q3 q4 q5 hcl HXS hx hff
      have hba := (Below.refl wo.heap.size wo).alloc (Nat.le_refl _) (.cells #[.int .i64 f.k, .int .i64 f.s, .int .i64 f.e, .int .i64 f.i, .int .i64 f.t, .string f.d] 32)
      have HCA := Lib.hid (bn hc.out hba); have HVA := Lib.hid (hv.out.below hba (Nat.le_refl _)); have HZA2 := Lib.hid (hz.out.below hba (Nat.le_refl _))
      clear hba hc hv hz
      have hjI : (j : Int) < (xs.length : Int) := by omega
      go_wp2_with fail
      refine (Take_calls _ R a f HVA.out (by have := ho.out.c; omega) (fun e => by have := ho.out.d e; omega)).mono ?_
      generalize wo.alloc _ = x0 at *
      clear r0 r1 r2 r3 r4 r5
      rintro e x1 ⟨rfl, hv1, hg1⟩
      have hot := ho.out.take f
      have HV1 := Lib.hid hv1; have HZ1 := Lib.hid (HZA2.out.chg hg1 HZA.out); have HC1 := Lib.hid (HCA.out.trans (hg1.below HK.out HCA.out.size)); have HO1 := Lib.hid hot
      clear hv1 hg1 hot HVA HZA2 HCA ho
      go_wp2
      exact ⟨⟨j + 1, _, by go_num, by omega, HV1, HZ1, HO1, HC1⟩, by simp only [intOf]; omega⟩
    · obtain rfl : j = xs.length := by omega
      have HOR := ho; clear ho
      have HRV := hv; have HRZ := hz; have HRC := hc
      clear hv hz hc
      go_wp2
      go_loopw [55] (fun s55 wr => ∃ (j : Nat) (R2 : Rv), s55 = .int .i64 j ∧ j ≤ ys.length ∧ Hid (RvAt R a wr) ∧ Hid (RvAt R2 z wr) ∧ Hid (OwnR R2 j) ∧ Hid (Below w.heap.size w wr)) (fun s55 _ => ys.length - (intOf s55).toNat)
      case atStart => exact ⟨0, R0, rfl, by omega, HRV, HRZ, HO, HRC⟩
      case round =>
        clear HRV HRZ HRC
        obtain ⟨wo, rfl⟩ : ∃ wo : World, wo = wr := ⟨_, rfl⟩
        obtain ⟨j, R2, rfl, hj, hv, hz, ho, hc⟩ := hrel
        by_cases hlt : j < ys.length
        · skip
          have hx := List.getElem?_eq_getElem hlt
          obtain ⟨gx, ox, rfl, hcl⟩ := HYS.out (by intro e; subst e; simp at hlt)
          have hfc := (hcl j _ hx).1
          generalize hff : ys[j] = f at *
          obtain ⟨q0, q1, q2, q3, q4, q5⟩ := hfc
          have r0 := (hc.out.cell (World.block_lt_of_cell? w _ q0)).trans q0
          have r1 := (hc.out.cell (World.block_lt_of_cell? w _ q1)).trans q1
          have r2 := (hc.out.cell (World.block_lt_of_cell? w _ q2)).trans q2
          have r3 := (hc.out.cell (World.block_lt_of_cell? w _ q3)).trans q3
          have r4 := (hc.out.cell (World.block_lt_of_cell? w _ q4)).trans q4
          have r5 := (hc.out.cell (World.block_lt_of_cell? w _ q5)).trans q5
          clear q0 q1 q2 q3 q4 q5 hcl HYS hx hff
          have hba := (Below.refl wo.heap.size wo).alloc (Nat.le_refl _) (.cells #[.int .i64 f.k, .int .i64 f.s, .int .i64 f.e, .int .i64 f.i, .int .i64 f.t, .string f.d] 32)
          have HCA := Lib.hid (bn hc.out hba); have HVA := Lib.hid (hv.out.below hba (Nat.le_refl _)); have HZA2 := Lib.hid (hz.out.below hba (Nat.le_refl _))
          clear hba hc hv hz
          have hjI : (j : Int) < (ys.length : Int) := by omega
          go_wp2_with fail
          refine (Take_calls _ R2 z f HZA2.out (by have := ho.out.c; omega) (fun e => by have := ho.out.d e; omega)).mono ?_
          generalize wo.alloc _ = x0 at *
          clear r0 r1 r2 r3 r4 r5
          rintro e x1 ⟨rfl, hz1, hg1⟩
          have hot := ho.out.take f
          have HZ1 := Lib.hid hz1; have HV1 := Lib.hid (HVA.out.chg hg1 HAZ.out); have HC1 := Lib.hid (HCA.out.trans (hg1.below HKZ.out HCA.out.size)); have HO1 := Lib.hid hot
          clear hz1 hg1 hot HVA HZA2 HCA ho
          go_wp2
          exact ⟨⟨j + 1, _, by go_num, by omega, HV1, HZ1, HO1, HC1⟩, by simp only [intOf]; omega⟩
        · obtain rfl : j = ys.length := by omega
          have hinj := cur_inj hv.out.wf hz.out.wf 6 (by omega) HOR.out.l ho.out.l HOR.out.b ho.out.b (HOR.out.s.trans ho.out.s.symm) (HOR.out.e.trans ho.out.e.symm)
          have hdA := fun w' (h : RvAt R a w') => Data_calls w' R a h
          have hdZ := fun w' (h : RvAt R2 z w') => Data_calls w' R2 z h
          have hcA := fun w' (h : RvAt R a w') => RCur_calls w' R a h
          have hcZ := fun w' (h : RvAt R2 z w') => RCur_calls w' R2 z h
          have hkA := fun w' (h : RvAt R a w') => RAck_calls w' R a h
          have hkZ := fun w' (h : RvAt R2 z w') => RAck_calls w' R2 z h
          rw [HOR.out.s, HOR.out.e, HOR.out.l] at hkA
          rw [ho.out.s, ho.out.e, ho.out.l] at hkZ
          have HDA := Lib.hid hdA; have HDZ := Lib.hid hdZ; have HCA := Lib.hid hcA; have HCZ := Lib.hid hcZ; have HKA := Lib.hid hkA; have HKZ2 := Lib.hid hkZ
          have HINJ := Lib.hid hinj
          clear hdA hdZ hcA hcZ hkA hkZ hinj ho HOR
          go_wp2_with fail
          refine (HDA.out _ hv.out).mono ?_
          rintro e x1 ⟨rfl, hb⟩
          have HV1 := Lib.hid (hv.out.below hb (Nat.le_refl _)); have HZ1 := Lib.hid (hz.out.below hb (Nat.le_refl _)); have HC1 := Lib.hid (bn hc.out hb)
          clear hb hv hz hc
          go_wp2_with fail
          refine (HDZ.out _ HZ1.out).mono ?_
          rintro e x2 ⟨rfl, hb⟩
          have HV2 := Lib.hid (HV1.out.below hb (Nat.le_refl _)); have HZ2 := Lib.hid (HZ1.out.below hb (Nat.le_refl _)); have HC2 := Lib.hid (bn HC1.out hb)
          clear hb HV1 HZ1 HC1
          go_wp2_with fail
          refine (HCA.out _ HV2.out).mono ?_
          rintro e x3 ⟨rfl, hb⟩
          have HV3 := Lib.hid (HV2.out.below hb (Nat.le_refl _)); have HZ3 := Lib.hid (HZ2.out.below hb (Nat.le_refl _)); have HC3 := Lib.hid (bn HC2.out hb)
          clear hb HV2 HZ2 HC2
          go_wp2_with fail
          refine (HCZ.out _ HZ3.out).mono ?_
          rintro e x4 ⟨rfl, hb⟩
          have HV4 := Lib.hid (HV3.out.below hb (Nat.le_refl _)); have HZ4 := Lib.hid (HZ3.out.below hb (Nat.le_refl _)); have HC4 := Lib.hid (bn HC3.out hb)
          clear hb HV3 HZ3 HC3 HDA HDZ HCA HCZ
          by_cases heq : R.curL = R2.curL
          · obtain ⟨eB, eC⟩ := HINJ.out heq
            have hkZ := HKZ2.out
            rw [← eB] at hkZ
            have e1 : dS R2 = dS R := by unfold dS; rw [← eB, ← eC]
            have e2 : dE R2 = dE R := by unfold dE; rw [← eB]
            rw [e1, e2, ← heq]
            have HKZ3 := Lib.hid hkZ
            clear hkZ e1 e2 eB eC heq HINJ HKZ2
            generalize bstr R.curL = CU at *
            generalize dS R = DS at *
            generalize dE R = DE at *
            go_wp2_with fail
            refine (HKA.out _ HV4.out).mono ?_
            rintro e x5 ⟨rfl, hb⟩
            have HV5 := Lib.hid (HV4.out.below hb (Nat.le_refl _)); have HZ5 := Lib.hid (HZ4.out.below hb (Nat.le_refl _)); have HC5 := Lib.hid (bn HC4.out hb)
            clear hb HV4 HZ4 HC4
            go_wp2_with fail
            refine (HKZ3.out _ HZ5.out).mono ?_
            rintro e x6 ⟨rfl, hb⟩
            have HV6 := Lib.hid (HV5.out.below hb (Nat.le_refl _)); have HC6 := Lib.hid (bn HC5.out hb)
            clear hb HV5 HZ5 HC5
            go_wp2_with fail
            refine (HKA.out _ HV6.out).mono ?_
            rintro e x7 ⟨rfl, hb⟩
            have HV7 := Lib.hid (HV6.out.below hb (Nat.le_refl _)); have HC7 := Lib.hid (bn HC6.out hb)
            clear hb HV6 HC6
            go_wp2_with fail
            refine (HKA.out _ HV7.out).mono ?_
            rintro e x8 ⟨rfl, hb⟩
            have HC8 := Lib.hid (bn HC7.out hb)
            clear hb HV7 HC7
            go_wp2
            go_ret
            exact ⟨rfl, HC8.out⟩
          · have hne : ((bstr R.curL).toList == (bstr R2.curL).toList) = false := by
              rw [beq_eq_false_iff_ne]
              intro e
              rw [ByteArray.toList_eq, ByteArray.toList_eq] at e
              exact heq (by simpa [bstr] using e)
            clear heq HINJ HKZ2
            generalize bstr R.curL = CU at *
            generalize bstr R2.curL = CV at *
            go_wp2_with fail
            refine (HKA.out _ HV4.out).mono ?_
            rintro e x5 ⟨rfl, hb⟩
            have HV5 := Lib.hid (HV4.out.below hb (Nat.le_refl _)); have HC5 := Lib.hid (bn HC4.out hb)
            clear hb HV4 HZ4 HC4
            go_wp2_with fail
            refine (HKA.out _ HV5.out).mono ?_
            rintro e x6 ⟨rfl, hb⟩
            have HC6 := Lib.hid (bn HC5.out hb)
            clear hb HV5 HC5
            go_wp2
            go_ret
            exact ⟨rfl, HC6.out⟩
end Go.Proofs.Ytpgcdfdfbcmodaa
