/- The walk of the reference's Text, of sixteen bytes. (Printed by wip/print/pfxrtext6.py.) -/
import Derived.Test.YtmccnmccegbdjaaDoorPfxRText
namespace Go.Proofs.YtmccnmccegbdjaaDoor
open Go.RowKit Go.Sort
set_option linter.unusedVariables false
set_option linter.unusedSimpArgs false
theorem hex_cut (w : World) (y : Nat) (hy : y < 16) :
    (Instr.sliceAt 9 (.string hexS) (some (.int .i64 (y : Int))) (some (.int .i64 ((y : Int) + 1))) none).run Tryd.prog w = .ok (.string (bstr [hexd y])) w := by
  have h : y = 0 ∨ y = 1 ∨ y = 2 ∨ y = 3 ∨ y = 4 ∨ y = 5 ∨ y = 6 ∨ y = 7 ∨ y = 8 ∨ y = 9 ∨ y = 10 ∨ y = 11 ∨ y = 12 ∨ y = 13 ∨ y = 14 ∨ y = 15 := by omega
  rcases h with rfl | rfl | rfl | rfl | rfl | rfl | rfl | rfl | rfl | rfl | rfl | rfl | rfl | rfl | rfl | rfl <;> rfl
theorem exec_hex_cut {a : Act} {o : Oper} {x l h : Operand} (ho : o.op = .slice 9 x (some l) (some h) none) {y : Nat} (hy : y < 16) (hx : a.eval x = .string hexS) (hl : a.eval l = .int .i64 (y : Int)) (hh : a.eval h = .int .i64 ((y : Int) + 1)) (w : World) :
    (execOp a.eval o).run Tryd.prog w = .ok (.value (.string (bstr [hexd y]))) w := by
  have := hex_cut w y hy
  unfold execOp
  simp only [ho, hx, hl, hh, Option.map_some, Option.map_none, Sem.run_bind, this, Result.andThen_ok, Sem.run_pure]
theorem r8_step0 (A : List Nat) : bstr (r8 A 1) = bstr [] ++ (bstr [hexd (A.getD 0 0 / 16)] ++ bstr [hexd (A.getD 0 0 % 16)]) := by
  rw [bstr_cat, bstr_cat]; rfl
theorem r8_stepo (A : List Nat) (i : Nat) (h : i % 2 ≠ 0) : bstr (r8 A (i + 1)) = bstr (r8 A i) ++ (bstr [hexd (A.getD i 0 / 16)] ++ bstr [hexd (A.getD i 0 % 16)]) := by
  rw [bstr_cat, bstr_cat, r8, if_neg (fun h2 => h h2.2), List.append_nil]; rfl
theorem r8_stepe (A : List Nat) (i : Nat) (h0 : 0 < i) (h : i % 2 = 0) : bstr (r8 A (i + 1)) = bstr (r8 A i) ++ ⟨#[58]⟩ ++ (bstr [hexd (A.getD i 0 / 16)] ++ bstr [hexd (A.getD i 0 % 16)]) := by
  show _ = _ ++ bstr [58] ++ _
  rw [bstr_cat, bstr_cat, bstr_cat, r8, if_pos ⟨h0, h⟩]; rfl
set_option maxRecDepth 100000 in
set_option maxHeartbeats 16000000 in
theorem RText_six (w : World) (p : Px) (hp : p.wf) (hr : p.right = true) (h6 : p.six = true) : Calls Tryd.prog 19 #[.agg p.row] w fun e w' => e = .returned (.string p.text) ∧ Below w.heap.size w w' := by
  have hb0 := (Below.refl w.heap.size w).alloc (Nat.le_refl _) (.cells p.row 30)
  have h0 := PxAt.new w p hp.len
  have HB0 := Lib.hid hb0; have H0 := Lib.hid h0; clear hb0 h0
  obtain ⟨n, hn, hn2⟩ := Px.right_n hr
  rw [h6] at hn2
  have hn128 : n ≤ 128 := hn2
  obtain ⟨rr, hrr⟩ : ∃ rr, rr = p.text := ⟨_, rfl⟩
  rw [← hrr]
  have ht := hrr.trans (text_bstr hr)
  rw [h6, if_pos rfl, ← r8_all, hn] at ht
  have HRR := Lib.hid ht; clear hrr hr ht hn2
  have HN := Lib.hid hn; have H6 := Lib.hid h6; clear hn h6
  go_enter Tryd.func19, Tryd.ntmps19
  go_wp2_with (with_reducible refine wpList_mark (o := ⟨some 10, _, _, _, _, _⟩) ?_)
  generalize w.alloc (.cells p.row 30) = w1 at *
  have c6 := H0.out.six
  rw [H6.out] at c6
  refine Marked.intro ?_
  go_wp2_with fail
  clear c6
  go_loopw [3, 6] (fun s3 s6 wr => ∃ (i : Nat) (S : ByteArray), s3 = .string S ∧ s6 = .int .i64 i ∧ i ≤ 16 ∧ Hid (S = bstr (r8 p.A i)) ∧ Hid (Below w1.heap.size w1 wr)) (fun _ s6 _ => 16 - (intOf s6).toNat)
  case atStart => exact ⟨0, _, rfl, rfl, by omega, Lib.hid rfl, Lib.hid (Below.refl _ _)⟩
  case round =>
    obtain ⟨wo, rfl⟩ : ∃ wo : World, wo = wr := ⟨_, rfl⟩
    obtain ⟨i, S, rfl, rfl, hi, HS, HB⟩ := hrel
    have P1 := Lib.hid (H0.out.b HB.out)
    have hsz : S.size ≤ 3 * i := by rw [HS.out, bstr_size]; exact r8_len p.A i
    by_cases hlt : i < 16
    · have hiI : (i : Int) < 16 := by omega
      have hc := P1.out.byte i (by omega)
      have hx := hp.small i
      by_cases h0 : i = 0
      · subst h0
        have HST := Lib.hid (r8_step0 p.A)
        have HST : Hid (bstr (r8 p.A (0 + 1)) = S ++ (bstr [hexd (p.A.getD 0 0 / 16)] ++ bstr [hexd (p.A.getD 0 0 % 16)])) := Lib.hid (by rw [HS.out]; exact HST.out)
        have hgt : ¬ (0 : Int) < ((0 : Nat) : Int) := by omega
        generalize p.A.getD 0 0 = x at *
        have hq : IntKind.u8.wrap ((x : Int) / 16) = ((x / 16 : Nat) : Int) := by rw [IntKind.wrap_u8]; omega
        have hq2 : (x : Int) / 16 = ((x / 16 : Nat) : Int) := by simp
        have hm : Int.tmod (x : Int) 16 = ((x % 16 : Nat) : Int) := rfl
        have hq16 : x / 16 < 16 := by omega
        have hm16 : x % 16 < 16 := by omega
        have hzz : ¬ 9223372036854775807 < (bstr [hexd (x / 16)]).size + (bstr [hexd (x % 16)]).size := by rw [bstr_size, bstr_size]; simp only [List.length_cons, List.length_nil]; omega
        have hz9 : ¬ 9223372036854775807 < S.size + ((bstr [hexd (x / 16)]).size + (bstr [hexd (x % 16)]).size) := by rw [bstr_size, bstr_size]; simp only [List.length_cons, List.length_nil]; omega
        generalize x / 16 = yh at *
        generalize x % 16 = yl at *
        have hu1 : IntKind.u8.wrap (yh : Int) = (yh : Int) := by rw [IntKind.wrap_u8]; omega
        have hi1 : IntKind.i64.wrap (yh : Int) = (yh : Int) := IntWalk.i64_in _ (by omega)
        have hi2 : IntKind.i64.wrap (yl : Int) = (yl : Int) := IntWalk.i64_in _ (by omega)
        have ho1 : IntKind.i64.wrap ((yh : Int) + 1) = (yh : Int) + 1 := IntWalk.i64_in _ (by omega)
        have ho2 : IntKind.i64.wrap ((yl : Int) + 1) = (yl : Int) + 1 := IntWalk.i64_in _ (by omega)
        go_wp2_with fail
        refine Lib.wp_region_made 14 (fun _ => none) (by kernel_rfl) (by kernel_rfl) Lib.stabP_none ?_
        simp only [List.take_succ_cons, List.take_zero, List.drop_succ_cons, List.drop_zero]
        have k1 := cell_regrown hc
        repeat (refine Lib.wpML_step (by rfl) (fun K hK => ?_); go_simp; (refine hK _ ?_; clear hK K))
        refine Lib.wpML_nil ?_
        intro w2 hw2 _
        have hb2 := Lib.Behind.below hw2
        clear hw2 k1
        go_wp2_with fail
        refine Lib.wp_region_made 14 (fun _ => none) (by kernel_rfl) (by kernel_rfl) Lib.stabP_none ?_
        simp only [List.take_succ_cons, List.take_zero, List.drop_succ_cons, List.drop_zero]
        iterate 5 (refine Lib.wpML_step (by rfl) (fun K hK => ?_); go_simp; (refine hK _ ?_; clear hK K))
        refine Lib.wpML_val (.string (bstr [hexd yh])) (by rfl) (by rfl) (fun w' _ => exec_hex_cut rfl hq16 (by rfl) (by rfl) (by first | rfl | exact congrArg _ ho1) w') ?_
        iterate 4 (refine Lib.wpML_step (by rfl) (fun K hK => ?_); go_simp; (refine hK _ ?_; clear hK K))
        refine Lib.wpML_val (.string (bstr [hexd yl])) (by rfl) (by rfl) (fun w' _ => exec_hex_cut rfl hm16 (by rfl) (by rfl) (by first | rfl | exact congrArg _ ho2) w') ?_
        generalize bstr [hexd yh] = Bh at *
        generalize bstr [hexd yl] = Bl at *
        repeat (refine Lib.wpML_step (by rfl) (fun K hK => ?_); go_simp; (refine hK _ ?_; clear hK K))
        refine Lib.wpML_nil ?_
        intro w3 hw3 _
        have hb3 := Lib.Behind.below hw3
        have HB3 := Lib.hid (bn HB.out (bn hb2 hb3))
        clear hw3 hb2 hb3 HB P1
        go_wp2
        exact ⟨⟨1, _, rfl, rfl, by omega, Lib.hid HST.out.symm, HB3⟩, by simp only [intOf]; omega⟩
      · have hgt : (0 : Int) < (i : Int) := by omega
        by_cases he : i % 2 = 0
        · have HST : Hid (bstr (r8 p.A (i + 1)) = S ++ ⟨#[58]⟩ ++ (bstr [hexd (p.A.getD i 0 / 16)] ++ bstr [hexd (p.A.getD i 0 % 16)])) := Lib.hid (by rw [HS.out]; exact r8_stepe p.A i (by omega) he)
          have htm : Int.tmod (i : Int) 2 = 0 := by show ((i % 2 : Nat) : Int) = 0; omega
          have hz0 : ¬ 9223372036854775807 < S.size + 1 := by omega
          clear he
          generalize p.A.getD i 0 = x at *
          have hq : IntKind.u8.wrap ((x : Int) / 16) = ((x / 16 : Nat) : Int) := by rw [IntKind.wrap_u8]; omega
          have hq2 : (x : Int) / 16 = ((x / 16 : Nat) : Int) := by simp
          have hm : Int.tmod (x : Int) 16 = ((x % 16 : Nat) : Int) := rfl
          have hq16 : x / 16 < 16 := by omega
          have hm16 : x % 16 < 16 := by omega
          have hzz : ¬ 9223372036854775807 < (bstr [hexd (x / 16)]).size + (bstr [hexd (x % 16)]).size := by rw [bstr_size, bstr_size]; simp only [List.length_cons, List.length_nil]; omega
          have hz9 : ¬ 9223372036854775807 < (S.size + 1) + ((bstr [hexd (x / 16)]).size + (bstr [hexd (x % 16)]).size) := by rw [bstr_size, bstr_size]; simp only [List.length_cons, List.length_nil]; omega
          generalize x / 16 = yh at *
          generalize x % 16 = yl at *
          have hu1 : IntKind.u8.wrap (yh : Int) = (yh : Int) := by rw [IntKind.wrap_u8]; omega
          have hi1 : IntKind.i64.wrap (yh : Int) = (yh : Int) := IntWalk.i64_in _ (by omega)
          have hi2 : IntKind.i64.wrap (yl : Int) = (yl : Int) := IntWalk.i64_in _ (by omega)
          have ho1 : IntKind.i64.wrap ((yh : Int) + 1) = (yh : Int) + 1 := IntWalk.i64_in _ (by omega)
          have ho2 : IntKind.i64.wrap ((yl : Int) + 1) = (yl : Int) + 1 := IntWalk.i64_in _ (by omega)
          go_wp2_with fail
          refine Lib.wp_region_made 14 (fun _ => none) (by kernel_rfl) (by kernel_rfl) Lib.stabP_none ?_
          simp only [List.take_succ_cons, List.take_zero, List.drop_succ_cons, List.drop_zero]
          have k1 := cell_regrown hc
          repeat (refine Lib.wpML_step (by rfl) (fun K hK => ?_); go_simp; (refine hK _ ?_; clear hK K))
          refine Lib.wpML_nil ?_
          intro w2 hw2 _
          have hb2 := Lib.Behind.below hw2
          clear hw2 k1
          go_wp2_with fail
          refine Lib.wp_region_made 14 (fun _ => none) (by kernel_rfl) (by kernel_rfl) Lib.stabP_none ?_
          simp only [List.take_succ_cons, List.take_zero, List.drop_succ_cons, List.drop_zero]
          iterate 5 (refine Lib.wpML_step (by rfl) (fun K hK => ?_); go_simp; (refine hK _ ?_; clear hK K))
          refine Lib.wpML_val (.string (bstr [hexd yh])) (by rfl) (by rfl) (fun w' _ => exec_hex_cut rfl hq16 (by rfl) (by rfl) (by first | rfl | exact congrArg _ ho1) w') ?_
          iterate 4 (refine Lib.wpML_step (by rfl) (fun K hK => ?_); go_simp; (refine hK _ ?_; clear hK K))
          refine Lib.wpML_val (.string (bstr [hexd yl])) (by rfl) (by rfl) (fun w' _ => exec_hex_cut rfl hm16 (by rfl) (by rfl) (by first | rfl | exact congrArg _ ho2) w') ?_
          generalize bstr [hexd yh] = Bh at *
          generalize bstr [hexd yl] = Bl at *
          repeat (refine Lib.wpML_step (by rfl) (fun K hK => ?_); go_simp; (refine hK _ ?_; clear hK K))
          refine Lib.wpML_nil ?_
          intro w3 hw3 _
          have hb3 := Lib.Behind.below hw3
          have HB3 := Lib.hid (bn HB.out (bn hb2 hb3))
          clear hw3 hb2 hb3 HB P1
          go_wp2
          exact ⟨⟨i + 1, _, rfl, by go_num, by omega, Lib.hid HST.out.symm, HB3⟩, by simp only [intOf]; omega⟩
        · have HST : Hid (bstr (r8 p.A (i + 1)) = S ++ (bstr [hexd (p.A.getD i 0 / 16)] ++ bstr [hexd (p.A.getD i 0 % 16)])) := Lib.hid (by rw [HS.out]; exact r8_stepo p.A i he)
          have htm : Int.tmod (i : Int) 2 = 1 := by show ((i % 2 : Nat) : Int) = 1; omega
          clear he
          generalize p.A.getD i 0 = x at *
          have hq : IntKind.u8.wrap ((x : Int) / 16) = ((x / 16 : Nat) : Int) := by rw [IntKind.wrap_u8]; omega
          have hq2 : (x : Int) / 16 = ((x / 16 : Nat) : Int) := by simp
          have hm : Int.tmod (x : Int) 16 = ((x % 16 : Nat) : Int) := rfl
          have hq16 : x / 16 < 16 := by omega
          have hm16 : x % 16 < 16 := by omega
          have hzz : ¬ 9223372036854775807 < (bstr [hexd (x / 16)]).size + (bstr [hexd (x % 16)]).size := by rw [bstr_size, bstr_size]; simp only [List.length_cons, List.length_nil]; omega
          have hz9 : ¬ 9223372036854775807 < S.size + ((bstr [hexd (x / 16)]).size + (bstr [hexd (x % 16)]).size) := by rw [bstr_size, bstr_size]; simp only [List.length_cons, List.length_nil]; omega
          generalize x / 16 = yh at *
          generalize x % 16 = yl at *
          have hu1 : IntKind.u8.wrap (yh : Int) = (yh : Int) := by rw [IntKind.wrap_u8]; omega
          have hi1 : IntKind.i64.wrap (yh : Int) = (yh : Int) := IntWalk.i64_in _ (by omega)
          have hi2 : IntKind.i64.wrap (yl : Int) = (yl : Int) := IntWalk.i64_in _ (by omega)
          have ho1 : IntKind.i64.wrap ((yh : Int) + 1) = (yh : Int) + 1 := IntWalk.i64_in _ (by omega)
          have ho2 : IntKind.i64.wrap ((yl : Int) + 1) = (yl : Int) + 1 := IntWalk.i64_in _ (by omega)
          go_wp2_with fail
          refine Lib.wp_region_made 14 (fun _ => none) (by kernel_rfl) (by kernel_rfl) Lib.stabP_none ?_
          simp only [List.take_succ_cons, List.take_zero, List.drop_succ_cons, List.drop_zero]
          have k1 := cell_regrown hc
          repeat (refine Lib.wpML_step (by rfl) (fun K hK => ?_); go_simp; (refine hK _ ?_; clear hK K))
          refine Lib.wpML_nil ?_
          intro w2 hw2 _
          have hb2 := Lib.Behind.below hw2
          clear hw2 k1
          go_wp2_with fail
          refine Lib.wp_region_made 14 (fun _ => none) (by kernel_rfl) (by kernel_rfl) Lib.stabP_none ?_
          simp only [List.take_succ_cons, List.take_zero, List.drop_succ_cons, List.drop_zero]
          iterate 5 (refine Lib.wpML_step (by rfl) (fun K hK => ?_); go_simp; (refine hK _ ?_; clear hK K))
          refine Lib.wpML_val (.string (bstr [hexd yh])) (by rfl) (by rfl) (fun w' _ => exec_hex_cut rfl hq16 (by rfl) (by rfl) (by first | rfl | exact congrArg _ ho1) w') ?_
          iterate 4 (refine Lib.wpML_step (by rfl) (fun K hK => ?_); go_simp; (refine hK _ ?_; clear hK K))
          refine Lib.wpML_val (.string (bstr [hexd yl])) (by rfl) (by rfl) (fun w' _ => exec_hex_cut rfl hm16 (by rfl) (by rfl) (by first | rfl | exact congrArg _ ho2) w') ?_
          generalize bstr [hexd yh] = Bh at *
          generalize bstr [hexd yl] = Bl at *
          repeat (refine Lib.wpML_step (by rfl) (fun K hK => ?_); go_simp; (refine hK _ ?_; clear hK K))
          refine Lib.wpML_nil ?_
          intro w3 hw3 _
          have hb3 := Lib.Behind.below hw3
          have HB3 := Lib.hid (bn HB.out (bn hb2 hb3))
          clear hw3 hb2 hb3 HB P1
          go_wp2
          exact ⟨⟨i + 1, _, rfl, by go_num, by omega, Lib.hid HST.out.symm, HB3⟩, by simp only [intOf]; omega⟩
    · obtain rfl : i = 16 := by omega
      have cn := P1.out.len
      rw [HN.out] at cn
      have HD := Lib.hid (fun w => digits_calls n (by omega) w)
      have hdz := decB_size n
      have hz1 : ¬ 9223372036854775807 < S.size + 1 := by omega
      have hz : ¬ 9223372036854775807 < S.size + 1 + (decB n).size := by omega
      have d16 : decide (((16 : Nat) : Int) < 16) = false := by decide
      have HR : Hid (rr = S ++ ⟨#[47]⟩ ++ decB n) := Lib.hid (by
        rw [HRR.out, HS.out, Int.toNat_natCast]
        show bstr _ = bstr _ ++ bstr [47] ++ bstr _
        rw [bstr_cat, bstr_cat, List.append_assoc])
      generalize decB n = D at *
      go_wp2_with fail
      refine (HD.out _).mono ?_
      rintro e w3 ⟨rfl, hb3⟩
      have HB3 := Lib.hid (bn HB0.out (bn HB.out hb3))
      clear HB hb3 P1 HD HB0
      go_wp2
      go_ret
      exact ⟨by rw [HR.out]; rfl, HB3.out⟩
end Go.Proofs.YtmccnmccegbdjaaDoor
