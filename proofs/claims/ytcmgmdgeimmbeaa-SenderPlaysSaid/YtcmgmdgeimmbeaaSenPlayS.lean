/- The walk of the law SenderPlays: one call. (Printed by wip/print/senplays.py.) -/
import Derived.Test.YtcmgmdgeimmbeaaSenRTick2
import Derived.Test.YtcmgmdgeimmbeaaSenFacts
import Derived.Deep.CutRange
import Derived.Deep.CutBlock
import Derived.Deep.RegionHeld
namespace Go.Proofs.Ytcmgmdgeimmbeaa
open Go.RowKit Go.Sort
set_option linter.unusedVariables false
set_option linter.unusedSimpArgs false
noncomputable def sndS : Code → Code | .seq _ b => b | c => c
noncomputable def fstS : Code → Code | .seq a _ => a | c => c
noncomputable def inB : Code → Code | .block _ b => b | .loop b => b | c => c
/-- The round's code, and in it the choice. -/
noncomputable def rdC : Code := inB (inB (sndS (fstS (sndS (sndS (sndS (sndS (sndS (sndS (Try.f8.body.getD .skip))))))))))
noncomputable def swC : Code := sndS (fstS (sndS (sndS (inB (fstS (sndS (sndS rdC)))))))
theorem op_cells {w : World} {ob : Nat} {K0 k s e i t : Int} {d : ByteArray} (h : w.heap[ob]? = some (.cells #[.int .i64 K0, .int .i64 k, .int .i64 s, .int .i64 e, .int .i64 i, .int .i64 t, .string d] 50 (0, 0))) : w.cell? ⟨ob, 1, none⟩ = some (.int .i64 k) ∧ w.cell? ⟨ob, 2, none⟩ = some (.int .i64 s) ∧ w.cell? ⟨ob, 3, none⟩ = some (.int .i64 e) ∧ w.cell? ⟨ob, 4, none⟩ = some (.int .i64 i) ∧ w.cell? ⟨ob, 5, none⟩ = some (.int .i64 t) ∧ w.cell? ⟨ob, 6, none⟩ = some (.string d) := by
  refine ⟨?_, ?_, ?_, ?_, ?_, ?_⟩ <;> rw [cell_of_row _ _ _ _ _ _ h] <;> rfl
theorem SnAt.chg {S : Sn} {a : Sa} {w w' : World} {K : List Nat} (h : SnAt S a w) (hc : Chg K w w') (hk : ∀ k ∈ a.all, k ∉ K) : SnAt S a w' := h.keep fun k hk2 => hc.other k (h.lt k hk2) (hk k hk2)
set_option maxRecDepth 100000 in
set_option maxHeartbeats 16000000 in
theorem plays_switch {J K' : Act → World → Prop} {Q' : Exit → Act → World → Prop} {w wx : World} {a : Sa} {r : Rs} {S : Sn} {rg ob N : Nat} {adC : Option Addr} {K0 k s e i t : Int} {d : ByteArray} {t0 t1 t2 t3 t4 t5 t6 t7 t8 t10 t12 t14 t15 t16 t17 t18 t19 t20 t21 t22 t23 t24 t25 t26 t27 t28 t29 t30 t31 t32 t33 t34 t35 t36 t37 t38 t39 t40 t41 t42 t43 t44 t45 t46 t47 t48 t49 t50 t51 t52 t53 t54 t55 t56 t57 t58 t59 t60 t61 t62 t63 t64 t65 t66 t67 t68 t69 t70 t71 t72 t73 t74 t76 t77 t78 t79 t80 t81 t82 t83 t84 t85 t86 t87 t88 t89 t90 t91 t92 t93 t94 t95 t96 t97 t98 t99 t100 t101 t102 t103 t104 t105 t106 t107 t108 t109 t110 t111 t112 t113 t114 t115 t116 t117 t118 t119 t120 t121 t122 t123 t124 t125 t126 t127 t128 t129 t130 t131 t132 t133 t134 t135 t136 t137 t138 t139 t140 t141 t142 t143 t144 t145 t146 t147 t148 t149 t150 t151 t152 t153 t154 t155 t156 t157 t158 t159 t160 t161 t162 t163 t164 : Value}
    (hP : ∀ (c9 : _) (a9 : Act) (d9 : Option Tmp) (v9 : Value) (w9 : World), Q' (.panic c9) (a9.put d9 v9) w9 → Q' (.panic c9) a9 w9) (hd : d.size ≤ 100) (hnow : S.now ≤ 300) (HS : Hid (SnAt S a wx)) (HR : Hid (RfAt S r wx)) (HN : Hid (S.B.length = N)) (HG : Hid (r.g = rg)) (HA : Hid (r.ad = adC)) (H8 : Hid (∀ i, S.T.getD i 0 ≤ 8)) (HK : Hid (∀ k ∈ r.all, w.heap.size ≤ k ∧ k ∉ a.all)) (HAK : Hid (∀ k ∈ a.all, w.heap.size ≤ k)) (HC0 : Hid (∀ x, adC = some x → x.block < w.heap.size ∧ x.spot = none))
    (HB : Hid (Below w.heap.size w wx)) (HP : Hid (wx.heap[ob]? = some (.cells #[.int .i64 K0, .int .i64 k, .int .i64 s, .int .i64 e, .int .i64 i, .int .i64 t, .string d] 50 (0, 0)))) (HO1 : Hid (ob ∉ a.all)) (HO2 : Hid (ob ∉ r.all))
    (hJ : ∀ a9 w9, (fun a1 wx => ∃ u8 u14 u15 u16 u17 u65 u66 u67 u68 u69 u70 u71 u72 u73 u74 u75 u76 u77 u78 u79 u80 u81 u82 u83 u84 u85 u86 u87 u88 u89 u90 u91 u92 u93 u94 u95 u96 u97 u98 u99 u100 u101 u102 u103 u104 u105 u106 u107 u108 u109 u110 u111 u112 u113 u114 u115 u116 u117 u118 u119 u120 u121 u122 u123 u124 u125 u126 u127 u128 u129 u130 u131 u132 u133 u134 u135 u136 u137 u138 u139 u140 u141 u142 u143 u144 u145 u146 u147 u148 u149 u150 u151 u152 u153 u154 u155 u156 u157 u158 u159 u160 u161 u162 u163 u164 : Value, (∃ (S2 : Sn) (r2 : Rs), Hid (SnAt S2 a wx) ∧ Hid (RfAt S2 r2 wx) ∧ Hid (S2.now ≤ S.now + 1) ∧ Hid (S2.B.length = N) ∧ Hid (r2.g = rg) ∧ Hid (r2.ad = adC) ∧ Hid (∀ i, S2.T.getD i 0 ≤ 8) ∧ Hid (∀ k ∈ r2.all, w.heap.size ≤ k ∧ k ∉ a.all) ∧ Hid (Below w.heap.size w wx)) ∧ a1 = { tmps := #[t0, t1, t2, t3, t4, t5, t6, t7, u8, .pointer (some ⟨a.g, 0, none⟩), t10, .pointer (some ⟨rg, 0, none⟩), t12, .pointer (some ⟨ob, 0, none⟩), u14, u15, u16, u17, t18, t19, t20, t21, t22, t23, t24, t25, t26, t27, t28, t29, t30, t31, t32, t33, t34, t35, t36, t37, t38, t39, t40, t41, t42, t43, t44, t45, t46, t47, t48, t49, t50, t51, t52, t53, t54, t55, t56, t57, t58, t59, t60, t61, t62, t63, t64, u65, u66, u67, u68, u69, u70, u71, u72, u73, u74, u75, u76, u77, u78, u79, u80, u81, u82, u83, u84, u85, u86, u87, u88, u89, u90, u91, u92, u93, u94, u95, u96, u97, u98, u99, u100, u101, u102, u103, u104, u105, u106, u107, u108, u109, u110, u111, u112, u113, u114, u115, u116, u117, u118, u119, u120, u121, u122, u123, u124, u125, u126, u127, u128, u129, u130, u131, u132, u133, u134, u135, u136, u137, u138, u139, u140, u141, u142, u143, u144, u145, u146, u147, u148, u149, u150, u151, u152, u153, u154, u155, u156, u157, u158, u159, u160, u161, u162, u163, u164], defers := [] }) a9 w9 → J a9 w9) (hK : ∀ a9 w9, Met J a9 w9 → K' a9 w9) :
    Code.wp Try.prog swC (Exit.then K' Q') { tmps := #[t0, t1, t2, t3, t4, t5, t6, t7, t8, .pointer (some ⟨a.g, 0, none⟩), t10, .pointer (some ⟨rg, 0, none⟩), t12, .pointer (some ⟨ob, 0, none⟩), t14, t15, t16, t17, t18, t19, t20, t21, t22, t23, t24, t25, t26, t27, t28, t29, t30, t31, t32, t33, t34, t35, t36, t37, t38, t39, t40, t41, t42, t43, t44, t45, t46, t47, t48, t49, t50, t51, t52, t53, t54, t55, t56, t57, t58, t59, t60, t61, t62, t63, t64, t65, t66, t67, t68, t69, t70, t71, t72, t73, t74, .bool (K0 == 1), t76, t77, t78, t79, t80, t81, t82, t83, t84, t85, t86, t87, t88, t89, t90, t91, t92, t93, t94, t95, t96, t97, t98, t99, t100, t101, t102, t103, t104, t105, t106, t107, t108, t109, t110, t111, t112, t113, t114, t115, t116, t117, t118, t119, t120, t121, t122, t123, t124, t125, t126, t127, t128, t129, t130, t131, t132, t133, t134, t135, t136, t137, t138, t139, t140, t141, t142, t143, t144, t145, t146, t147, t148, t149, t150, t151, t152, t153, t154, t155, t156, t157, t158, t159, t160, t161, t162, t163, t164], defers := [] } wx := by
  have had : ∀ x, r.ad = some x → x.block ∉ a.all := fun x hx hk => by
    have h1 := (HC0.out x (HA.out.symm.trans hx)).1
    have h2 := HAK.out _ hk
    omega
  have HAD := Lib.hid had; clear had
  have hrk : ∀ k ∈ r.all, k ∉ a.all := fun k hk => (HK.out k hk).2
  have har : ∀ k ∈ a.all, k ∉ r.all := fun k h1 h2 => (HK.out k h2).2 h1
  have HRK := Lib.hid hrk; have HAR := Lib.hid har; clear hrk har
  have hrlt := HR.out.lt
  have HRL := Lib.hid hrlt; clear hrlt
  conv => arg 2; whnf
  by_cases hk1 : K0 = 1
  · have hkb : (K0 == 1) = true := by simpa using hk1
    have tf := tick_facts S
    have tl := tick_len S
    have te := tick_eight S HS.out.wf H8.out
    have ht := Tick_calls wx S a HS.out (by omega)
    have hq := fun w1 (h : RfAt S r w1) => RTick_calls w1 S r h (by omega) H8.out (fun x hx => (HC0.out x (HA.out.symm.trans hx)).2)
    obtain ⟨⟨l, c, S2⟩, hq0⟩ : ∃ q, S.tick = q := ⟨_, rfl⟩
    rw [hq0] at tf tl te ht
    simp only [hq0] at hq
    clear hq0
    dsimp only at tf tl te
    have hnow2 : S2.now ≤ S.now + 1 := tf.2.2.1
    have hbl2 : S2.B.length = N := by rw [tf.2.1]; exact HN.out
    have hll : l.length ≤ 1000 := by have := HS.out.mp.le; omega
    rw [HG.out] at hq
    have HT := Lib.hid ht; have HQ := Lib.hid hq; have HNOW2 := Lib.hid hnow2; have HBL2 := Lib.hid hbl2; have HLL := Lib.hid hll; have HTE := Lib.hid te
    clear ht hq hnow2 hbl2 hll te tf tl hk1
    go_wp2_with fail
    refine HT.out.mono ?_
    unfold TickPost
    rintro x w1 ⟨v1, rfl, hs1, hf1, hc1⟩
    have HS1 := Lib.hid hs1; have HF1 := Lib.hid hf1
    have HR1 := Lib.hid (HR.out.chg hc1 HRK.out HAD.out)
    have HB1 := Lib.hid (HB.out.trans (hc1.below HAK.out HB.out.size))
    have HZ1 := Lib.hid hc1.size
    clear hs1 hf1 hc1 HT
    go_wp2_with fail
    refine (HQ.out _ HR1.out).mono ?_
    unfold RTickPost
    rintro x w2 ⟨v2, rfl, hr2, hf2, hc2⟩
    have HS2 := Lib.hid (HS1.out.chg hc2 HAR.out)
    have HF2 := Lib.hid (HF1.out.keep hc2.size (fun k h1 h2 => hc2.other k h2 (fun h3 => by have := HRL.out k h3; omega)))
    have HG2 := Lib.hid hf2
    have HR2 := Lib.hid hr2
    have HB2 := Lib.hid (HB1.out.trans (hc2.below (fun k hk => (HK.out k hk).1) HB1.out.size))
    clear hr2 hf2 hc2 HQ HS1 HF1 HR1 HB1
    go_wp2_with fail
    refine (SameFrames_calls _ S l v1 v2 _ _ HF2.out HG2.out HLL.out).mono ?_
    rintro x w3 ⟨rfl, hb3⟩
    have HS3 := Lib.hid (HS2.out.below hb3 (Nat.le_refl _)); have HR3 := Lib.hid (HR2.out.below hb3 (Nat.le_refl _)); have HB3 := Lib.hid (bn HB2.out hb3)
    clear hb3 HS2 HR2 HB2 HF2 HG2
    go_wp2_with fail
    go_meet
    exact ⟨S2, r, HS3, HR3, HNOW2, HBL2, HG, HA, HTE, HK, HB3⟩
  · have hkb : (K0 == 1) = false := by simpa using hk1
    have hA := Ack_calls wx.drew S a k s e i t d HS.out.drew (by omega)
    have hQ := fun w1 (h : RfAt S r w1) => RAck_calls w1 S r k s e i t d h (by omega)
    have af := ack_facts S k s e i t d
    obtain ⟨⟨c, S2⟩, hq0⟩ : ∃ q, S.ack k s e i t d = q := ⟨_, rfl⟩
    rw [hq0] at af hA
    simp only [hq0] at hQ
    clear hq0
    dsimp only at af
    have hnow2 : S2.now ≤ S.now + 1 := by rw [af.2.1]; omega
    have hbl2 : S2.B.length = N := by rw [af.1]; exact HN.out
    have hte : ∀ i, S2.T.getD i 0 ≤ 8 := by rw [af.2.2.2.2.2.1]; exact H8.out
    rw [HG.out] at hQ
    have HAC := Lib.hid hA; have HQ := Lib.hid hQ; have HNOW2 := Lib.hid hnow2; have HBL2 := Lib.hid hbl2; have HTE := Lib.hid hte
    clear hA hQ hnow2 hbl2 hte af hk1
    have hcc : ((c : Int) != (c : Int)) = false := by simp
    go_wp2_with fail
    have hcs := op_cells HP.out
    refine wp_region_held_drew (S := fun w' => w'.cell? ⟨ob, 1, none⟩ = some (.int .i64 k) ∧ w'.cell? ⟨ob, 2, none⟩ = some (.int .i64 s) ∧ w'.cell? ⟨ob, 3, none⟩ = some (.int .i64 e) ∧ w'.cell? ⟨ob, 4, none⟩ = some (.int .i64 i) ∧ w'.cell? ⟨ob, 5, none⟩ = some (.int .i64 t) ∧ w'.cell? ⟨ob, 6, none⟩ = some (.string d)) (by kernel_rfl) hcs (fun hS => ?_)
    clear hcs
    refine wpAnyH_take (i := 0) (v := ?tkv0) rfl (by kernel_rfl) (by kernel_rfl) (by kernel_rfl) (fun c9 a9 w9 h9 => hP c9 a9 _ _ w9 h9) (Or.inl ⟨by rfl, ?tky0⟩) (by assumption) ?tkr0
    case tky0 => (intro w hSw; (try dsimp only at hSw); go_simp; with_reducible rfl)
    simp only [Act.put, List.getElem_toArray, List.getElem_cons_succ, List.getElem_cons_zero, List.setIfInBounds_toArray, List.set_cons_zero, List.set_cons_succ]
    refine wpAnyH_take (i := 1) (v := ?tkv1) rfl (by kernel_rfl) (by kernel_rfl) (by kernel_rfl) (fun c9 a9 w9 h9 => hP c9 a9 _ _ w9 h9) (Or.inl ⟨by rfl, ?tky1⟩) (by assumption) ?tkr1
    case tky1 => (intro w hSw; (try dsimp only at hSw); go_simp; with_reducible rfl)
    simp only [Act.put, List.getElem_toArray, List.getElem_cons_succ, List.getElem_cons_zero, List.setIfInBounds_toArray, List.set_cons_zero, List.set_cons_succ]
    refine wpAnyH_take (i := 2) (v := ?tkv2) rfl (by kernel_rfl) (by kernel_rfl) (by kernel_rfl) (fun c9 a9 w9 h9 => hP c9 a9 _ _ w9 h9) (Or.inl ⟨by rfl, ?tky2⟩) (by assumption) ?tkr2
    case tky2 => (intro w hSw; (try dsimp only at hSw); go_simp; with_reducible rfl)
    simp only [Act.put, List.getElem_toArray, List.getElem_cons_succ, List.getElem_cons_zero, List.setIfInBounds_toArray, List.set_cons_zero, List.set_cons_succ]
    refine wpAnyH_take (i := 4) (v := ?tkv4) rfl (by kernel_rfl) (by kernel_rfl) (by kernel_rfl) (fun c9 a9 w9 h9 => hP c9 a9 _ _ w9 h9) (Or.inl ⟨by rfl, ?tky4⟩) (by assumption) ?tkr4
    case tky4 => (intro w hSw; (try dsimp only at hSw); go_simp; with_reducible rfl)
    simp only [Act.put, List.getElem_toArray, List.getElem_cons_succ, List.getElem_cons_zero, List.setIfInBounds_toArray, List.set_cons_zero, List.set_cons_succ]
    refine wpAnyH_take (i := 5) (v := ?tkv5) rfl (by kernel_rfl) (by kernel_rfl) (by kernel_rfl) (fun c9 a9 w9 h9 => hP c9 a9 _ _ w9 h9) (Or.inl ⟨by rfl, ?tky5⟩) (by assumption) ?tkr5
    case tky5 => (intro w hSw; (try dsimp only at hSw); go_simp; with_reducible rfl)
    simp only [Act.put, List.getElem_toArray, List.getElem_cons_succ, List.getElem_cons_zero, List.setIfInBounds_toArray, List.set_cons_zero, List.set_cons_succ]
    refine wpAnyH_take (i := 6) (v := ?tkv6) rfl (by kernel_rfl) (by kernel_rfl) (by kernel_rfl) (fun c9 a9 w9 h9 => hP c9 a9 _ _ w9 h9) (Or.inl ⟨by rfl, ?tky6⟩) (by assumption) ?tkr6
    case tky6 => (intro w hSw; (try dsimp only at hSw); go_simp; with_reducible rfl)
    simp only [Act.put, List.getElem_toArray, List.getElem_cons_succ, List.getElem_cons_zero, List.setIfInBounds_toArray, List.set_cons_zero, List.set_cons_succ]

    refine wpAnyH_ready (rs := [3]) (by kernel_rfl) (by simp) ?_
    refine AllReadyH.cons rfl (fun K hK => ?_) AllReadyH.nil
    go_simp
    go_at_call 13
    with_reducible refine HAC.out.mono ?_
    unfold AckPost
    rintro x x1 ⟨rfl, hs1, hc1⟩
    have hcw : Chg a.all wx x1 := (Chg.of_below ((Below.refl wx.heap.size wx).drew)).trans hc1
    have hp1 : x1.heap[ob]? = _ := (hcw.other ob (Array.getElem?_eq_some_iff.1 HP.out).1 HO1.out).trans HP.out
    have HP1 := Lib.hid hp1; have HS1 := Lib.hid hs1
    have HR1 := Lib.hid (HR.out.chg hcw HRK.out HAD.out)
    have HB1 := Lib.hid (HB.out.trans (hcw.below HAK.out HB.out.size))
    clear hs1 hc1 hcw HAC hp1
    go_simp
    refine hK.out _ _ (op_cells HP1.out) (fun hS1 => ?_)
    clear hK K hS
    refine wpAnyH_ready (rs := [7]) (by kernel_rfl) (by simp) ?_
    refine AllReadyH.cons rfl (fun K hK => ?_) AllReadyH.nil
    go_simp
    go_at_call 24
    with_reducible refine (HQ.out _ HR1.out).mono ?_
    unfold RAckPost
    rintro x x2 ⟨r2, rfl, hr2, hc2, hg2, ha2, hk2⟩
    have hp2 : x2.heap[ob]? = _ := (hc2.other ob (Array.getElem?_eq_some_iff.1 HP1.out).1 HO2.out).trans HP1.out
    have HP2 := Lib.hid hp2
    have HS2 := Lib.hid (HS1.out.chg hc2 HAR.out)
    have HR2 := Lib.hid hr2
    have HB2 := Lib.hid (HB1.out.trans (hc2.below (fun k hk => (HK.out k hk).1) HB1.out.size))
    have HGG : Hid (r2.g = rg) := Lib.hid (hg2.trans HG.out)
    have HAA : Hid (r2.ad = adC) := Lib.hid (ha2.trans HA.out)
    have HKK : Hid (∀ k ∈ r2.all, w.heap.size ≤ k ∧ k ∉ a.all) := Lib.hid (fun k hk => by
      rcases hk2 k hk with h | h
      · exact HK.out k h
      · exact ⟨Nat.le_trans HB1.out.size h, fun h2 => by have := HS1.out.lt k h2; omega⟩)
    clear hr2 hc2 hg2 ha2 hk2 hp2 HQ
    go_simp
    refine hK.out _ _ (op_cells HP2.out) (fun hS2 => ?_)
    clear hK K hS1
    refine wpAnyH_take (i := 8) (v := ?tkv8) rfl (by kernel_rfl) (by kernel_rfl) (by kernel_rfl) (fun c9 a9 w9 h9 => hP c9 a9 _ _ w9 h9) (Or.inl ⟨by rfl, ?tky8⟩) (by assumption) ?tkr8
    case tky8 => (intro w hSw; (try dsimp only at hSw); go_simp; with_reducible rfl)
    simp only [Act.put, List.getElem_toArray, List.getElem_cons_succ, List.getElem_cons_zero, List.setIfInBounds_toArray, List.set_cons_zero, List.set_cons_succ]

    refine wpAnyH_done (by kernel_rfl) ?_ _
    clear hS2 HS HR HB HP HS1 HR1 HB1 HP1
    go_wp2_with fail
    go_meet
    exact ⟨S2, r2, HS2, HR2, HNOW2, HBL2, HGG, HAA, HTE, HKK, HB2⟩
end Go.Proofs.Ytcmgmdgeimmbeaa
