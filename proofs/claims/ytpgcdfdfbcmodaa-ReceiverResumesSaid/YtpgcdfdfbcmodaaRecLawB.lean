/- The walk of the law ReceiverDrops: it answers true. -/
import Derived.Test.YtpgcdfdfbcmodaaRecAwake
import Derived.Test.YtpgcdfdfbcmodaaOpenFrs
namespace Go.Proofs.Ytpgcdfdfbcmodaa
open Go.RowKit
set_option linter.unusedVariables false
set_option linter.unusedSimpArgs false
def sumD (D : Int → Nat) : Nat → Nat
  | 0 => 0
  | m + 1 => sumD D m + D (m : Int)
theorem sumD_le (D : Int → Nat) (b : Nat) (h : ∀ e, D e ≤ b) : ∀ m, sumD D m ≤ b * m
  | 0 => Nat.zero_le _
  | m + 1 => by
    have := sumD_le D b h m
    have := h (m : Int)
    rw [sumD, Nat.mul_succ]; omega
theorem sumD_drop (R : Rv) (e : Nat) : ∀ m, sumD (R.drop e).D m = sumD R.D m + if e < m then 1 else 0
  | 0 => by simp [sumD]
  | m + 1 => by
    have := sumD_drop R e m
    rw [sumD, sumD, this]
    show _ + (if (m : Int) = (e : Int) then R.D m + 1 else R.D m) = _
    by_cases h1 : m = e
    · subst h1
      simp; omega
    · have h3 : ¬ (m : Int) = (e : Int) := by omega
      by_cases h2 : e < m
      · simp [h3, h2, show e < m + 1 by omega]; omega
      · simp [h3, h2, show ¬ e < m + 1 by omega]
theorem take_bad (R : Rv) (f : Fr) (h : R.wrong f ≠ 0) : R.take f = (R.wrong f, R.drop (R.wrong f)) := by unfold Rv.take; rw [if_pos h]
theorem take_good (R : Rv) (f : Fr) (h : R.wrong f = 0) : R.take f = (0, R.put f.i.toNat f.d) := by unfold Rv.take; rw [if_neg (by simpa using h)]
theorem take_D (R : Rv) (f : Fr) (j : Nat) (hc : R.cnt ≤ j) (hd : ∀ e, R.D e ≤ j) : (R.take f).2.cnt ≤ j + 1 ∧ ∀ e, (R.take f).2.D e ≤ j + 1 := by
  by_cases h : R.wrong f = 0
  · rw [take_good R f h]; exact ⟨Nat.le_succ_of_le hc, fun e => Nat.le_succ_of_le (hd e)⟩
  · rw [take_bad R f h]
    refine ⟨Nat.succ_le_succ hc, fun e => ?_⟩
    show (if e = _ then R.D e + 1 else R.D e) ≤ _
    have := hd e
    split <;> omega
theorem take_facts (R : Rv) (f : Fr) : ((R.take f).1 = 0 ∧ sumD (R.take f).2.D 20 = sumD R.D 20) ∨ ((R.take f).1 ≠ 0 ∧ sumD (R.take f).2.D 20 = sumD R.D 20 + 1 ∧ (R.take f).2.ses = R.ses ∧ (R.take f).2.ep = R.ep ∧ (R.take f).2.B = R.B ∧ (R.take f).2.curL = R.curL) := by
  by_cases h : R.wrong f = 0
  · rw [take_good R f h]; exact Or.inl ⟨rfl, rfl⟩
  · rw [take_bad R f h]
    have := R.wrong_lt f
    exact Or.inr ⟨h, by rw [sumD_drop, if_pos this], rfl, rfl, rfl, rfl⟩
set_option maxRecDepth 100000 in
set_option maxHeartbeats 16000000 in
theorem ReceiverDrops_walk (v0 : Value) (xs : List Fr) (w : World) (w0 : Frs w v0 xs) :
    Calls Try.prog 4 #[v0] w fun e w' => e = .returned (.bool true) ∧ Below w.heap.size w w' := by
  obtain ⟨adx, capx, rfl, hxs⟩ := w0
  have HXS := Lib.hid hxs; clear hxs
  by_cases hbig : 100 < (xs.length : Int)
  · go_enter Try.func4, Try.ntmps4
    go_wp2_with fail
    refine (awake_calls _).mono ?_
    rintro e w1 ⟨rfl, hb1⟩
    go_wp2_with fail
    refine (awake_calls _).mono ?_
    rintro e w2 ⟨rfl, hb2⟩
    go_wp2
    go_ret
    exact ⟨rfl, bn hb1 hb2⟩
  have hnx : xs.length ≤ 100 := by omega
  have hd1 : decide (100 < (xs.length : Int)) = false := by simpa using hbig
  clear hbig
  have hnew := fun w => RNew_good w 1 2 6 (by decide) (by decide) (by decide) (by decide) (by decide) (by decide)
  have HNEW := Lib.hid hnew; clear hnew
  go_enter Try.func4, Try.ntmps4
  go_wp2_with fail
  refine (awake_calls _).mono ?_
  rintro e w1 ⟨rfl, hb1⟩
  go_wp2_with fail
  refine (HNEW.out _).mono ?_
  rintro e w2 ⟨a, rfl, hv2, hb2, hk2⟩
  have hc2 := bn hb1 hb2
  have HK : Hid (∀ k ∈ a.all, w.heap.size ≤ k) := Lib.hid fun k hk => Nat.le_trans hb1.size (hk2 k hk)
  have HA : Hid (∀ k ∈ a.all, k < w2.heap.size) := Lib.hid hv2.lt
  have HV2 := Lib.hid hv2; have HC2 := Lib.hid hc2
  have hd2 : (Rv.start 1 2 6).cnt ≤ 0 ∧ ∀ e, (Rv.start 1 2 6).D e ≤ 0 := ⟨Nat.le_refl _, fun _ => Nat.le_refl _⟩
  clear hb1 hb2 hk2 hv2 hc2 HNEW
  generalize Rv.start 1 2 6 = R0 at *
  have HD2 := Lib.hid hd2; clear hd2
  go_wp2
  go_loopw [30] (fun s30 wr => ∃ (j : Nat) (R : Rv), s30 = .int .i64 j ∧ j ≤ xs.length ∧ Hid (RvAt R a wr) ∧ Hid (R.cnt ≤ j ∧ ∀ e, R.D e ≤ j) ∧ Hid (Below w.heap.size w wr)) (fun s30 _ => xs.length - (intOf s30).toNat)
  case atStart => exact ⟨0, R0, rfl, by omega, HV2, HD2, HC2⟩
  case round =>
    clear HV2 HD2 HC2
    obtain ⟨wo, rfl⟩ : ∃ wo : World, wo = wr := ⟨_, rfl⟩
    obtain ⟨j, R, rfl, hj, hv, hd, hc⟩ := hrel
    by_cases hlt : j < xs.length
    · have hx := List.getElem?_eq_getElem hlt
      obtain ⟨gx, ox, rfl, hcl⟩ := HXS.out (by intro e; subst e; simp at hlt)
      have hfc := (hcl j _ hx).1
      generalize hff : xs[j] = f at *
      obtain ⟨q0, q1, q2, q3, q4, q5⟩ := hfc
      have r0 := (hc.out.cell (World.block_lt_of_cell? w _ q0)).trans q0
      have r1 := (hc.out.cell (World.block_lt_of_cell? w _ q1)).trans q1
      have r2 := (hc.out.cell (World.block_lt_of_cell? w _ q2)).trans q2
      have r3 := (hc.out.cell (World.block_lt_of_cell? w _ q3)).trans q3
      have r4 := (hc.out.cell (World.block_lt_of_cell? w _ q4)).trans q4
      have r5 := (hc.out.cell (World.block_lt_of_cell? w _ q5)).trans q5
      clear q0 q1 q2 q3 q4 q5 hcl HXS hx hff
      have hba := (Below.refl wo.heap.size wo).alloc (Nat.le_refl _) (.cells #[.int .i64 f.k, .int .i64 f.s, .int .i64 f.e, .int .i64 f.i, .int .i64 f.t, .string f.d] 32)
      have hR := heap_alloc_new wo (.cells #[.int .i64 f.k, .int .i64 f.s, .int .i64 f.e, .int .i64 f.i, .int .i64 f.t, .string f.d] 32)
      have hca := bn hc.out hba
      have hva := hv.out.below hba (Nat.le_refl _)
      have hgf : wo.heap.size ∉ a.all := fun h => by have := hv.out.lt _ h; omega
      have HBA := Lib.hid hba; have HR := Lib.hid hR; have HCA := Lib.hid hca; have HVA := Lib.hid hva; have HGF := Lib.hid hgf
      clear hba hR hca hva hgf
      have hjI : (j : Int) < (xs.length : Int) := by omega
      by_cases hbd : 2000 < (f.d.size : Int)
      · have hbdt : decide (2000 < (f.d.size : Int)) = true := by simpa using hbd
        clear hv hc
        go_wp2
        go_ret
        exact ⟨rfl, HCA.out⟩
      have hbdt : decide (2000 < (f.d.size : Int)) = false := by simpa using hbd
      go_wp2_with fail
      refine (RCur_calls _ R a HVA.out).mono ?_
      clear hbd r0 r1 r2 r3 r4 r5 hv hc HBA
      have hgk := (Array.getElem?_eq_some_iff.1 HR.out).1
      generalize wo.alloc (.cells #[.int .i64 f.k, .int .i64 f.s, .int .i64 f.e, .int .i64 f.i, .int .i64 f.t, .string f.d] 32) = x0 at *
      generalize wo.heap.size = gf at *
      rintro e x1 ⟨rfl, hb⟩
      have HV1 := Lib.hid (HVA.out.below hb (Nat.le_refl _))
      have HR1 := Lib.hid ((hb.block gf hgk).trans HR.out)
      have HC1 := Lib.hid (bn HCA.out hb)
      clear hb HR HVA HCA hgk
      go_wp2_with fail
      refine (RAck_calls _ R a HV1.out).mono ?_
      rintro e x2 ⟨rfl, hb⟩
      have hgk := (Array.getElem?_eq_some_iff.1 HR1.out).1
      have hv2 := HV1.out.below hb (Nat.le_refl _)
      have hr2 := (hb.block gf hgk).trans HR1.out
      have hc2 := bn HC1.out hb
      have hb3 := (Below.refl x2.heap.size x2).alloc (Nat.le_refl _) (.cells #[.int .i64 2, .int .i64 R.ses, .int .i64 R.ep, .int .i64 (baseB R.B : Nat), .int .i64 (R.B.length : Nat), .string (tellB R.B 16)] 32)
      have hq3 := heap_alloc_new x2 (.cells #[.int .i64 2, .int .i64 R.ses, .int .i64 R.ep, .int .i64 (baseB R.B : Nat), .int .i64 (R.B.length : Nat), .string (tellB R.B 16)] 32)
      have hgq : x2.heap.size ∉ a.all := fun h => by have := hv2.lt _ h; omega
      have HV3 := Lib.hid (hv2.below hb3 (Nat.le_refl _))
      have HR3 := Lib.hid ((hb3.block gf (Array.getElem?_eq_some_iff.1 hr2).1).trans hr2)
      have HC3 := Lib.hid (bn hc2 hb3)
      have HQ3 := Lib.hid hq3; have HGQ := Lib.hid hgq
      clear hb hgk hv2 hr2 hc2 hb3 hq3 hgq HV1 HR1 HC1
      go_wp2
      generalize x2.alloc (.cells #[.int .i64 2, .int .i64 R.ses, .int .i64 R.ep, .int .i64 (baseB R.B : Nat), .int .i64 (R.B.length : Nat), .string (tellB R.B 16)] 32) = x3 at *
      generalize x2.heap.size = gq at *
      go_loopw [9, 42] (fun s9 s42 wr => ∃ m : Nat, m ≤ 20 ∧ s9 = .int .i64 (sumD R.D m : Nat) ∧ s42 = .int .i64 m ∧ wr = x3) (fun _ s42 _ => 20 - (intOf s42).toNat)
      case atStart => exact ⟨0, by omega, by first | rfl | trivial, by first | rfl | trivial, by first | rfl | trivial⟩
      case round =>
        obtain ⟨wx, rfl⟩ : ∃ wx : World, wx = wr := ⟨_, rfl⟩
        obtain ⟨m, hm, rfl, rfl, rfl⟩ := hrel
        by_cases hm2 : m < 20
        · have hmI : (m : Int) < 20 := by omega
          have hs1 := sumD_le R.D 100 (fun e => by have := hd.out.2 e; omega) m
          have hs2 : R.D (m : Int) ≤ 100 := by have := hd.out.2 m; omega
          have HSD : Hid (sumD R.D (m + 1) = sumD R.D m + R.D (m : Int)) := Lib.hid rfl
          generalize hsd : sumD R.D m = sd at *
          clear hsd
          have hdr := RDrops_calls wx R a m HV3.out (by omega)
          generalize R.D (m : Int) = dm at *
          have HDR := Lib.hid hdr; clear hdr
          go_wp2_with fail
          refine HDR.out.mono ?_
          rintro e x4 ⟨rfl, rfl⟩
          go_wp2
          exact ⟨⟨m + 1, by omega, by rw [HSD.out]; go_num, by go_num, by first | rfl | trivial⟩, by simp only [intOf]; omega⟩
        · obtain rfl : m = 20 := by omega
          have hs1 := sumD_le R.D 100 (fun e => by have := hd.out.2 e; omega) 20
          have q0 : wx.cell? ⟨gf, 0, none⟩ = some (.int .i64 f.k) := by rw [cell_of_row _ _ 0 _ _ _ HR3.out]; rfl
          have q1 : wx.cell? ⟨gf, 1, none⟩ = some (.int .i64 f.s) := by rw [cell_of_row _ _ 1 _ _ _ HR3.out]; rfl
          have q2 : wx.cell? ⟨gf, 2, none⟩ = some (.int .i64 f.e) := by rw [cell_of_row _ _ 2 _ _ _ HR3.out]; rfl
          have q3 : wx.cell? ⟨gf, 3, none⟩ = some (.int .i64 f.i) := by rw [cell_of_row _ _ 3 _ _ _ HR3.out]; rfl
          have q4 : wx.cell? ⟨gf, 4, none⟩ = some (.int .i64 f.t) := by rw [cell_of_row _ _ 4 _ _ _ HR3.out]; rfl
          have q5 : wx.cell? ⟨gf, 5, none⟩ = some (.string f.d) := by rw [cell_of_row _ _ 5 _ _ _ HR3.out]; rfl
          have htk := Take_calls wx R a f HV3.out (by have := hd.out.1; omega) (fun e => by have := hd.out.2 e; omega)
          have htD := take_D R f j hd.out.1 hd.out.2
          have HTK := Lib.hid htk; have HTD := Lib.hid htD
          have HS1 := Lib.hid hs1
          clear htk htD HR3 hs1
          go_wp2_with fail
          refine HTK.out.mono ?_
          rintro e x4 ⟨rfl, hv4, hg4⟩
          have hc4 := HC3.out.trans (hg4.below HK.out HC3.out.size)
          have hq4 := (hg4.other gq (Array.getElem?_eq_some_iff.1 HQ3.out).1 HGQ.out).trans HQ3.out
          have HV4 := Lib.hid hv4; have HC4 := Lib.hid hc4; have HQ4 := Lib.hid hq4
          clear hv4 hg4 hc4 hq4 HV3 HC3 HQ3 q0 q1 q2 q3 q4 q5 HTK
          have hfac := take_facts R f
          generalize R.take f = T at *
          obtain ⟨er, R2⟩ := T
          simp only at hfac HV4 HTD
          have HFac := Lib.hid hfac; clear hfac
          generalize hcu : bstr R.curL = CU at *
          have HCU := Lib.hid hcu; clear hcu
          generalize sumD R.D 20 = S0 at *
          go_wp2
          go_loopw [12, 54] (fun s9 s42 wr => ∃ m : Nat, m ≤ 20 ∧ s9 = .int .i64 (sumD R2.D m : Nat) ∧ s42 = .int .i64 m ∧ wr = x4) (fun _ s42 _ => 20 - (intOf s42).toNat)
          case atStart => exact ⟨0, by omega, by first | rfl | trivial, by first | rfl | trivial, by first | rfl | trivial⟩
          case round =>
            obtain ⟨wy, rfl⟩ : ∃ wy : World, wy = wr := ⟨_, rfl⟩
            obtain ⟨m, hm, rfl, rfl, rfl⟩ := hrel
            by_cases hm2 : m < 20
            · have hmI : (m : Int) < 20 := by omega
              have hs1 := sumD_le R2.D 101 (fun e => by have := HTD.out.2 e; omega) m
              have hs2 : R2.D (m : Int) ≤ 101 := by have := HTD.out.2 m; omega
              have HSD : Hid (sumD R2.D (m + 1) = sumD R2.D m + R2.D (m : Int)) := Lib.hid rfl
              generalize hsd : sumD R2.D m = sd at *
              clear hsd
              have hdr := RDrops_calls wy R2 a m HV4.out (by omega)
              generalize R2.D (m : Int) = dm at *
              have HDR := Lib.hid hdr; clear hdr
              go_wp2_with fail
              refine HDR.out.mono ?_
              rintro e x5 ⟨rfl, rfl⟩
              go_wp2
              exact ⟨⟨m + 1, by omega, by rw [HSD.out]; go_num, by go_num, by first | rfl | trivial⟩, by simp only [intOf]; omega⟩
            · obtain rfl : m = 20 := by omega
              have hs1 := HS1.out
              rcases HFac.out with ⟨h0, hS⟩ | ⟨h0, hS, e1, e2, e3, e4⟩
              · subst h0
                rw [hS]
                clear HFac hS
                go_wp2_with fail
                go_quiet (fail)
                have HV5 := Lib.hid (HV4.out.below (N := wy.heap.size) (⟨rfl, rfl, rfl, Nat.le_refl _, fun _ _ => rfl⟩ : Below wy.heap.size wy (wy.drewN nq)) (Nat.le_refl _))
                have HC5 := Lib.hid (bn HC4.out (⟨rfl, rfl, rfl, Nat.le_refl _, fun _ _ => rfl⟩ : Below wy.heap.size wy (wy.drewN nq)))
                go_wp2
                exact ⟨⟨j + 1, R2, by go_num, by omega, HV5, HTD, HC5⟩, by simp only [intOf]; omega⟩
              · rw [hS]
                have hs3 : S0 ≤ 2000 := by omega
                have hwr : IntKind.i64.wrap ((S0 : Int) + 1) = (S0 : Int) + 1 := by first | go_arith | (unfold IntKind.wrap; simp; omega)
                have her1 : ((er : Int) == 0) = false := by simp; omega
                have her2 : ((er : Int) != 0) = true := by simp; omega
                have hcC := fun w' (h : RvAt R2 a w') => RCur_calls w' R2 a h
                have hcA := fun w' (h : RvAt R2 a w') => RAck_calls w' R2 a h
                rw [e4, HCU.out] at hcC
                rw [e1, e2, e3] at hcA
                have k0 := cell_regrown (show wy.cell? ⟨gq, 0, none⟩ = some (.int .i64 2) by rw [cell_of_row _ _ 0 _ _ _ HQ4.out]; rfl)
                have k1 := cell_regrown (show wy.cell? ⟨gq, 1, none⟩ = some (.int .i64 R.ses) by rw [cell_of_row _ _ 1 _ _ _ HQ4.out]; rfl)
                have k2 := cell_regrown (show wy.cell? ⟨gq, 2, none⟩ = some (.int .i64 R.ep) by rw [cell_of_row _ _ 2 _ _ _ HQ4.out]; rfl)
                have k3 := cell_regrown (show wy.cell? ⟨gq, 3, none⟩ = some (.int .i64 (baseB R.B : Nat)) by rw [cell_of_row _ _ 3 _ _ _ HQ4.out]; rfl)
                have k4 := cell_regrown (show wy.cell? ⟨gq, 4, none⟩ = some (.int .i64 (R.B.length : Nat)) by rw [cell_of_row _ _ 4 _ _ _ HQ4.out]; rfl)
                have k5 := cell_regrown (show wy.cell? ⟨gq, 5, none⟩ = some (.string (tellB R.B 16)) by rw [cell_of_row _ _ 5 _ _ _ HQ4.out]; rfl)
                have cC : ∀ d os, Calls Try.prog 13 #[.pointer (some ⟨a.g, 0, none⟩)] (Sort.grow (redrawn wy d) os) fun e w'' => e = .returned (.string CU) ∧ ∃ p : Regrown, w'' = Sort.grow (redrawn wy p.d) p.os := fun d os => Calls.regrown_of (hcC _ (HV4.out.below (below_regrown wy d os) (Nat.le_refl _)))
                have cA : ∀ d os, Calls Try.prog 14 #[.pointer (some ⟨a.g, 0, none⟩)] (Sort.grow (redrawn wy d) os) fun e w'' => e = .returned (.agg #[.int .i64 2, .int .i64 R.ses, .int .i64 R.ep, .int .i64 (baseB R.B : Nat), .int .i64 (R.B.length : Nat), .string (tellB R.B 16)]) ∧ ∃ p : Regrown, w'' = Sort.grow (redrawn wy p.d) p.os := fun d os => Calls.regrown_of (hcA _ (HV4.out.below (below_regrown wy d os) (Nat.le_refl _)))
                clear HFac hS hcC hcA e1 e2 e3 e4 h0 HCU
                generalize tellB R.B 16 = TE at *
                generalize baseB R.B = BA at *
                generalize R.B.length = BL at *
                generalize R.ses = SE at *
                generalize R.ep = EP at *
                go_wp2_with fail
                refine wp_region_quiet_below (by kernel_rfl) (by kernel_rfl) ?_
                repeat (quiet_step (first | exact cC _ _ | exact cA _ _))
                refine wpQuiet_nil ?_
                intro w5 hw'
                have hb5 : Below wy.heap.size wy w5 := by obtain ⟨p, rfl⟩ := hw'; exact below_regrown wy _ _
                have HV5 := Lib.hid (HV4.out.below hb5 (Nat.le_refl _))
                have HC5 := Lib.hid (bn HC4.out hb5)
                clear k0 k1 k2 k3 k4 k5 cC cA hw' hb5
                go_wp2
                exact ⟨⟨j + 1, R2, by go_num, by omega, HV5, HTD, HC5⟩, by simp only [intOf]; omega⟩
    · have hjI : ¬ (j : Int) < (xs.length : Int) := by omega
      clear hv
      go_wp2
      go_ret
      exact ⟨rfl, hc.out⟩
end Go.Proofs.Ytpgcdfdfbcmodaa
