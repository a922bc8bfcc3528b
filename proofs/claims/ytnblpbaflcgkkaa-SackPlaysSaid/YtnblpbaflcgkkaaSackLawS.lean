/- The walk of the law SackPlays: one call. (Printed by wip/print/sackplays.py.) -/
import Derived.Test.YtnblpbaflcgkkaaSackLawF
namespace Go.Proofs.Ytnblpbaflcgkkaa
open Go.RowKit Go.Sort
set_option linter.unusedVariables false
set_option linter.unusedSimpArgs false
noncomputable def sndS : Code → Code | .seq _ b => b | c => c
noncomputable def fstS : Code → Code | .seq a _ => a | c => c
noncomputable def inB : Code → Code | .block _ b => b | .loop b => b | c => c
/-- The round's code, and in it the choice. -/
noncomputable def rdC : Code := sndS (sndS (inB (inB (sndS (fstS (sndS (sndS (sndS (sndS (sndS (Try.f3.body.getD .skip)))))))))))
noncomputable def swC : Code := sndS (fstS (sndS (sndS (inB (fstS rdC)))))
set_option maxRecDepth 100000 in
set_option maxHeartbeats 16000000 in
theorem plays_switch {J K' : Act → World → Prop} {Q' : Exit → Act → World → Prop} {w wx : World} {n gm ob g cap : Nat} {B : List Bool} {k i m : Int} {s : ByteArray} {t1 t2 t3 t4 t6 t8 t10 t11 t12 t13 t14 t15 t16 t17 t18 t19 t20 t21 t22 t23 t24 t25 t26 t27 t28 t29 t30 t31 t32 t33 t34 t35 t36 t37 t38 t39 t40 t41 t42 t43 t44 t45 t46 t47 t48 t49 t50 t51 t53 t54 t55 t56 t57 t58 t59 t60 t61 t62 t63 t64 t65 t66 t67 t68 t69 t70 t71 t72 t73 t74 t75 t76 t77 t78 t79 t80 t81 t82 t83 t84 t85 t86 t87 t88 t89 t90 t91 t92 t93 t94 t95 t96 t97 t98 t99 t100 t101 t102 t103 t104 t105 t106 t107 t108 t109 t110 t111 t112 t113 t114 t115 t116 t117 t118 t119 t120 t121 t122 t123 t124 t125 t126 t127 t128 t129 t130 t131 t132 t133 t134 t135 t136 t137 t138 t139 t140 t141 t142 t143 t144 t145 t146 t147 t148 t149 t150 t151 t152 t153 t154 t155 t156 t157 t158 t159 t160 t161 t162 t163 t164 t165 t166 t167 t168 t169 t170 t171 t172 t173 t174 t175 t176 t177 t178 t179 t180 t181 : Value}
    (hn1 : 1 ≤ n) (hn2 : n ≤ 256) (hi1 : -9223372036854775808 ≤ i) (hi2 : i ≤ 9223372036854775807) (h100 : (s.size : Int) ≤ 100)
    (HL : Hid (B.length = n)) (HM : Hid (Mp B gm wx)) (HR : Hid (BRow B g cap wx)) (HGG : Hid (gm < g)) (HGM : Hid (w.heap.size ≤ gm)) (HOB : Hid (ob ≠ gm)) (HOG : Hid (ob ≠ g)) (HB : Hid (Below w.heap.size w wx)) (HP : Hid (wx.heap[ob]? = some (.cells #[.int .i64 k, .int .i64 i, .int .i64 m, .string s] 30 (0, 0))))
    (hJ : ∀ a9 w9, (fun a1 wx => ∃ u4 u7 u10 u11 u12 u44 u45 u46 u47 u48 u49 u50 u51 u52 u53 u54 u55 u56 u57 u58 u59 u60 u61 u62 u63 u64 u65 u66 u67 u68 u69 u70 u71 u72 u73 u74 u75 u76 u77 u78 u79 u80 u81 u82 u83 u84 u85 u86 u87 u88 u89 u90 u91 u92 u93 u94 u95 u96 u97 u98 u99 u100 u101 u102 u103 u104 u105 u106 u107 u108 u109 u110 u111 u112 u113 u114 u115 u116 u117 u118 u119 u120 u121 u122 u123 u124 u125 u126 u127 u128 u129 u130 u131 u132 u133 u134 u135 u136 u137 u138 u139 u140 u141 u142 u143 u144 u145 u146 u147 u148 u149 u150 u151 u152 u153 u154 u155 u156 u157 u158 u159 u160 u161 u162 u163 u164 u165 u166 u167 u168 u169 u170 u171 u172 u173 u174 u175 u176 u177 u178 u179 u180 u181 : Value, (∃ (B : List Bool) (g cap : Nat), u7 = .slice (some ⟨g, 0, none⟩) n cap ∧ Hid (B.length = n) ∧ Hid (Mp B gm wx) ∧ Hid (BRow B g cap wx) ∧ Hid (gm < g) ∧ Hid (Below w.heap.size w wx) ∧ Hid (wx.heap[ob]? = some (.cells #[.int .i64 k, .int .i64 i, .int .i64 m, .string s] 30 (0, 0)))) ∧ a1 = { tmps := #[.int .i64 (n : Int), t1, t2, t3, u4, .pointer (some ⟨gm, 0, none⟩), t6, u7, t8, .pointer (some ⟨ob, 0, none⟩), u10, u11, u12, t13, t14, t15, t16, t17, t18, t19, t20, t21, t22, t23, t24, t25, t26, t27, t28, t29, t30, t31, t32, t33, t34, t35, t36, t37, t38, t39, t40, t41, t42, t43, u44, u45, u46, u47, u48, u49, u50, u51, u52, u53, u54, u55, u56, u57, u58, u59, u60, u61, u62, u63, u64, u65, u66, u67, u68, u69, u70, u71, u72, u73, u74, u75, u76, u77, u78, u79, u80, u81, u82, u83, u84, u85, u86, u87, u88, u89, u90, u91, u92, u93, u94, u95, u96, u97, u98, u99, u100, u101, u102, u103, u104, u105, u106, u107, u108, u109, u110, u111, u112, u113, u114, u115, u116, u117, u118, u119, u120, u121, u122, u123, u124, u125, u126, u127, u128, u129, u130, u131, u132, u133, u134, u135, u136, u137, u138, u139, u140, u141, u142, u143, u144, u145, u146, u147, u148, u149, u150, u151, u152, u153, u154, u155, u156, u157, u158, u159, u160, u161, u162, u163, u164, u165, u166, u167, u168, u169, u170, u171, u172, u173, u174, u175, u176, u177, u178, u179, u180, u181], defers := [] }) a9 w9 → J a9 w9) (hK : ∀ a9 w9, Met J a9 w9 → K' a9 w9) :
    Code.wp Try.prog swC (Exit.then K' Q') { tmps := #[.int .i64 (n : Int), t1, t2, t3, t4, .pointer (some ⟨gm, 0, none⟩), t6, .slice (some ⟨g, 0, none⟩) n cap, t8, .pointer (some ⟨ob, 0, none⟩), t10, t11, t12, t13, t14, t15, t16, t17, t18, t19, t20, t21, t22, t23, t24, t25, t26, t27, t28, t29, t30, t31, t32, t33, t34, t35, t36, t37, t38, t39, t40, t41, t42, t43, t44, t45, t46, t47, t48, t49, t50, t51, .int .i64 k, t53, t54, t55, t56, t57, t58, t59, t60, t61, t62, t63, t64, t65, t66, t67, t68, t69, t70, t71, t72, t73, t74, t75, t76, t77, t78, t79, t80, t81, t82, t83, t84, t85, t86, t87, t88, t89, t90, t91, t92, t93, t94, t95, t96, t97, t98, t99, t100, t101, t102, t103, t104, t105, t106, t107, t108, t109, t110, t111, t112, t113, t114, t115, t116, t117, t118, t119, t120, t121, t122, t123, t124, t125, t126, t127, t128, t129, t130, t131, t132, t133, t134, t135, t136, t137, t138, t139, t140, t141, t142, t143, t144, t145, t146, t147, t148, t149, t150, t151, t152, t153, t154, t155, t156, t157, t158, t159, t160, t161, t162, t163, t164, t165, t166, t167, t168, t169, t170, t171, t172, t173, t174, t175, t176, t177, t178, t179, t180, t181], defers := [] } wx := by
  conv => arg 2; whnf
  obtain ⟨q0, q1, q2, q3⟩ := So_cells (x := (k, i, m, s)) HP.out
  by_cases hk1 : k = 1
  · subst hk1
    by_cases hi0 : i < 0
    · have e1 : decide (0 ≤ i) = false := decide_eq_false (by omega)
      have HNI : Hid (newI B i = false) := Lib.hid (by unfold newI; rw [e1]; rfl)
      have HSB : Hid (setB B i = B) := Lib.hid (by unfold setB; rw [if_neg (by omega)])
      go_wp2_with fail
      refine (Set_calls _ gm B i HM.out).mono ?_
      rw [HNI.out]
      rintro e wS ⟨rfl, hm, hu⟩
      have HM2 := Lib.hid hm
      have HR2 := Lib.hid (HR.out.keep (hu.other g (Nat.ne_of_gt HGG.out)))
      have HB2 := Lib.hid (HB.out.trans (hu.below HGM.out))
      have HP2 := Lib.hid ((hu.other ob HOB.out).trans HP.out)
      have q1 := (So_cells (x := ((1 : Int), i, m, s)) HP2.out).2.1
      clear hm hu HM HR HB HP
      rw [HSB.out] at HM2
      go_wp2_with fail
      go_meet
      exact ⟨B, g, cap, rfl, HL, HM2, HR2, HGG, HB2, HP2⟩

    · have e1 : decide (0 ≤ i) = true := decide_eq_true (by omega)
      by_cases hin : i < (n : Int)
      · have e2 : decide (i < (n : Int)) = true := decide_eq_true hin
        obtain ⟨p, rfl⟩ := Int.eq_ofNat_of_zero_le (show 0 ≤ i by omega)
        have hp : p < n := by omega
        have cb := HR.out.cell p (by rw [HL.out]; exact hp)
        cases hb : B.getD p false with
        | true =>
          rw [hb] at cb
          have HNI : Hid (newI B (p : Int) = false) := Lib.hid (by unfold newI; rw [hasB_nat, hb]; simp)
          have HSB : Hid (setB B (p : Int) = B) := Lib.hid (by rw [setB_nat, set_has B p hb])
          clear hb
          go_wp2_with fail
          refine (Set_calls _ gm B (p : Int) HM.out).mono ?_
          rw [HNI.out]
          rintro e wS ⟨rfl, hm, hu⟩
          have HM2 := Lib.hid hm
          have HR2 := Lib.hid (HR.out.keep (hu.other g (Nat.ne_of_gt HGG.out)))
          have HB2 := Lib.hid (HB.out.trans (hu.below HGM.out))
          have HP2 := Lib.hid ((hu.other ob HOB.out).trans HP.out)
          have q1 := (So_cells (x := ((1 : Int), (p : Int), m, s)) HP2.out).2.1
          clear hm hu HM HR HB HP
          rw [HSB.out] at HM2
          go_wp2_with fail
          go_meet
          exact ⟨B, g, cap, rfl, HL, HM2, HR2, HGG, HB2, HP2⟩

        | false =>
          rw [hb] at cb
          have HNI : Hid (newI B (p : Int) = true) := Lib.hid (by unfold newI; rw [hasB_nat, hb, HL.out, e1, e2]; rfl)
          have HSB : Hid (setB B (p : Int) = B.set p true) := Lib.hid (setB_nat B p)
          clear hb
          go_wp2_with fail
          refine (Set_calls _ gm B (p : Int) HM.out).mono ?_
          rw [HNI.out]
          rintro e wS ⟨rfl, hm, hu⟩
          have HM2 := Lib.hid hm
          have HR2 := Lib.hid (HR.out.keep (hu.other g (Nat.ne_of_gt HGG.out)))
          have HB2 := Lib.hid (HB.out.trans (hu.below HGM.out))
          have HP2 := Lib.hid ((hu.other ob HOB.out).trans HP.out)
          have q1 := (So_cells (x := ((1 : Int), (p : Int), m, s)) HP2.out).2.1
          clear hm hu HM HR HB HP
          rw [HSB.out] at HM2
          have cb2 := HR2.out.cell p (by rw [HL.out]; exact hp)
          have fb2 := HR2.out.frozen p
          have HR3 := Lib.hid (HR2.out.set p true (by rw [HL.out]; exact hp))
          have HM3 := Lib.hid (HM2.out.keep (Below.heap_setCell wS ⟨g, p, none⟩ (.bool true) gm (by show gm ≠ g; exact Nat.ne_of_lt HGG.out)))
          have HP3 := Lib.hid ((Below.heap_setCell wS ⟨g, p, none⟩ (.bool true) ob (by show ob ≠ g; exact fun h => HOG.out h)).trans HP2.out)
          have HB3 := Lib.hid (HB2.out.setCell (p := ⟨g, p, none⟩) (show w.heap.size ≤ g from Nat.le_trans HGM.out (Nat.le_of_lt HGG.out)) (.bool true))
          have HL3 : Hid ((B.set p true).length = n) := Lib.hid (by rw [List.length_set]; exact HL.out)
          clear HM2 HR2 HP2 HB2
          go_wp2_with fail
          go_meet
          exact ⟨B.set p true, g, cap, rfl, HL3, HM3, HR3, HGG, HB3, HP3⟩

      · have e2 : decide (i < (n : Int)) = false := decide_eq_false hin
        have HNI : Hid (newI B i = false) := Lib.hid (by unfold newI; rw [HL.out, e2]; simp)
        have HSB : Hid (setB B i = B) := Lib.hid (by unfold setB; rw [if_pos (by omega), List.set_eq_of_length_le (by rw [HL.out]; omega)])
        go_wp2_with fail
        refine (Set_calls _ gm B i HM.out).mono ?_
        rw [HNI.out]
        rintro e wS ⟨rfl, hm, hu⟩
        have HM2 := Lib.hid hm
        have HR2 := Lib.hid (HR.out.keep (hu.other g (Nat.ne_of_gt HGG.out)))
        have HB2 := Lib.hid (HB.out.trans (hu.below HGM.out))
        have HP2 := Lib.hid ((hu.other ob HOB.out).trans HP.out)
        have q1 := (So_cells (x := ((1 : Int), i, m, s)) HP2.out).2.1
        clear hm hu HM HR HB HP
        rw [HSB.out] at HM2
        go_wp2_with fail
        go_meet
        exact ⟨B, g, cap, rfl, HL, HM2, HR2, HGG, HB2, HP2⟩

  · have hk1b : (k == 1) = false := by simpa using hk1
    by_cases hk2 : k = 2
    · subst hk2
      have hrm := RMerge_calls wx B g cap i s HR.out (by rw [HL.out]; exact hn1) (by rw [HL.out]; exact hn2) hi1 (by omega) (by omega)
      have hme := fun w h => Merge_calls w gm B i s h hi1 (by omega) (by omega)
      have hwl := withB_length B (toldB i s) B.length
      rw [HL.out] at hrm hwl
      rw [HL.out] at hme
      generalize newB B (toldB i s) n = NB at *
      generalize withB B (toldB i s) n = B2 at *
      have HRM := Lib.hid hrm; have HME := Lib.hid hme; have HL2 := Lib.hid hwl
      clear hrm hme hwl
      go_wp2_with fail
      refine HRM.out.mono ?_
      rintro e wS ⟨g2, cap2, rfl, hr2, hg2, hb2⟩
      have HM2 := Lib.hid (HM.out.below hb2)
      have HP2 := Lib.hid ((hb2.block ob (Array.getElem?_eq_some_iff.1 HP.out).1).trans HP.out)
      have HB2 := Lib.hid (bn HB.out hb2)
      have HR2 := Lib.hid hr2
      have HG2 : Hid (gm < g2) := Lib.hid (Nat.lt_of_lt_of_le HM.out.lt hg2)
      obtain ⟨q0, q1, q2, q3⟩ := So_cells (x := ((2 : Int), i, m, s)) HP2.out
      clear hr2 hg2 hb2 HM HP HB HR
      go_wp2_with fail
      refine (HME.out _ HM2.out).mono ?_
      rintro e wT ⟨rfl, hm, hu⟩
      have HM3 := Lib.hid hm
      have HR3 := Lib.hid (HR2.out.keep (hu.other g2 (Nat.ne_of_gt HG2.out)))
      have HB3 := Lib.hid (HB2.out.trans (hu.below HGM.out))
      have HP3 := Lib.hid ((hu.other ob HOB.out).trans HP2.out)
      clear hm hu HM2 HR2 HB2 HP2
      go_wp2_with fail
      go_meet
      exact ⟨B2, g2, cap2, rfl, HL2, HM3, HR3, HG2, HB3, HP3⟩
    · have hk2b : (k == 2) = false := by simpa using hk2
      go_wp2_with fail
      go_meet
      exact ⟨B, g, cap, rfl, HL, HM, HR, HGG, HB, HP⟩

end Go.Proofs.Ytnblpbaflcgkkaa
