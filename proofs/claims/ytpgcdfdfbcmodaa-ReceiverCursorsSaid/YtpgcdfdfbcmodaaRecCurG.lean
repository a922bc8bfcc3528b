/- The walk of the law ReceiverCursors: any bytes are the receiver that the document says, or are refused as it says. -/
import Derived.Test.YtpgcdfdfbcmodaaRecCurP
namespace Go.Proofs.Ytpgcdfdfbcmodaa
open Go.RowKit Go.Sort
set_option linter.unusedVariables false
set_option linter.unusedSimpArgs false
set_option maxRecDepth 100000 in
set_option maxHeartbeats 16000000 in
theorem Cursors_long (s : ByteArray) (hbig : 2000 < s.size) (w : World) :
    Calls Try.prog 3 #[.string s] w fun e w' => e = .returned (.bool true) ∧ Below w.heap.size w w' := by
  have d1 : decide (2000 < (s.size : Int)) = true := decide_eq_true (by omega)
  go_enter Try.func3, Try.ntmps3
  go_wp2_with fail
  refine (awake_calls _).mono ?_
  rintro e w1 ⟨rfl, hb1⟩
  go_wp2_with fail
  refine (awake_calls _).mono ?_
  rintro e w2 ⟨rfl, hb2⟩
  go_wp2
  go_ret
  exact ⟨rfl, bn hb1 hb2⟩
set_option maxRecDepth 100000 in
set_option maxHeartbeats 16000000 in
theorem Cursors_none (s : ByteArray) (hbig : ¬ 2000 < s.size) (c : Nat) (hF : resR s.data.toList = (none, c)) (w : World) :
    Calls Try.prog 3 #[.string s] w fun e w' => e = .returned (.bool true) ∧ Below w.heap.size w w' := by
  have d1 : decide (2000 < (s.size : Int)) = false := decide_eq_false (by omega)
  have hr := fun w => Resume_calls w s
  have hq := fun w => QResume_calls w s
  have hn := resR_none (l := s.data.toList) (by rw [hF])
  rw [hF] at hr hq hn
  have hc : ¬ (c : Int) = 0 := by simp only at hn; omega
  have HR := Lib.hid hr; have HQ := Lib.hid hq
  clear hr hq hn hF
  go_enter Try.func3, Try.ntmps3
  go_wp2_with fail
  refine (awake_calls _).mono ?_
  rintro e w1 ⟨rfl, hb1⟩
  have HB1 := Lib.hid hb1; clear hb1
  go_wp2_with fail
  refine (HR.out _).mono ?_
  rintro e w2 ⟨⟨-, rfl⟩ | ⟨R, a, h, -⟩, hb2⟩
  · have HB2 := Lib.hid (bn HB1.out hb2); clear hb2 HB1
    go_wp2_with fail
    refine (HQ.out _).mono ?_
    rintro e w3 ⟨⟨-, rfl⟩ | ⟨R, q, h, -⟩, hb3⟩
    · have HB3 := Lib.hid (bn HB2.out hb3); clear hb3 HB2
      go_wp2
      go_ret
      exact ⟨rfl, HB3.out⟩
    · cases h
  · cases h
set_option maxRecDepth 100000 in
set_option maxHeartbeats 16000000 in
theorem Cursors_some (s : ByteArray) (hbig : ¬ 2000 < s.size) (R : Rv) (c : Nat) (hF : resR s.data.toList = (some R, c)) (w : World) :
    Calls Try.prog 3 #[.string s] w fun e w' => e = .returned (.bool true) ∧ Below w.heap.size w w' := by
  have d1 : decide (2000 < (s.size : Int)) = false := decide_eq_false (by omega)
  have hr := fun w => Resume_calls w s
  have hq := fun w => QResume_calls w s
  have hcur := resR_back hF
  rw [hF] at hr hq
  have hcu := RCur_calls (R := R)
  rw [hcur, bstr_data] at hcu
  have hak := RAck_calls (R := R)
  have hqk := QAck_calls (R := R)
  obtain ⟨A, hA⟩ : ∃ A : Int, R.ses = A := ⟨_, rfl⟩
  obtain ⟨E, hE⟩ : ∃ A : Int, R.ep = A := ⟨_, rfl⟩
  obtain ⟨N, hN⟩ : ∃ A : Nat, R.B.length = A := ⟨_, rfl⟩
  obtain ⟨b, hb⟩ : ∃ A : Nat, baseB R.B = A := ⟨_, rfl⟩
  obtain ⟨t, ht⟩ : ∃ A : ByteArray, tellB R.B 16 = A := ⟨_, rfl⟩
  rw [hA, hE, hN, hb, ht] at hak hqk
  have HR := Lib.hid hr; have HQ := Lib.hid hq; have HCU := Lib.hid hcu; have HAK := Lib.hid hak; have HQK := Lib.hid hqk
  clear hr hq hF hcur hcu hak hqk hA hE hN hb ht
  go_enter Try.func3, Try.ntmps3
  go_wp2_with fail
  refine (awake_calls _).mono ?_
  rintro e w1 ⟨rfl, hb1⟩
  have HB1 := Lib.hid hb1; clear hb1
  go_wp2_with fail
  refine (HR.out _).mono ?_
  rintro e w2 ⟨⟨h, -⟩ | ⟨R1, a, h, h0, rfl, hv, -⟩, hb2⟩
  · cases h
  obtain rfl : R = R1 := by simpa using h
  have HV := Lib.hid hv
  have HB2 := Lib.hid (bn HB1.out hb2); clear hb2 HB1 hv h h0
  go_wp2_with fail
  refine (HQ.out _).mono ?_
  rintro e w3 ⟨⟨h, -⟩ | ⟨R1, q, h, h0, rfl, hv3, -⟩, hb3⟩
  · cases h
  obtain rfl : R = R1 := by simpa using h
  have HV3 := Lib.hid (HV.out.below hb3 (Nat.le_refl _))
  have HQ3 := Lib.hid hv3
  have HB3 := Lib.hid (bn HB2.out hb3); clear hb3 HB2 hv3 h h0 HV
  go_wp2_with fail
  refine (HCU.out _ _ HV3.out).mono ?_
  rintro e w4 ⟨rfl, hb4⟩
  have HV4 := Lib.hid (HV3.out.below hb4 (Nat.le_refl _))
  have HQ4 := Lib.hid (HQ3.out.below hb4 (Nat.le_refl _))
  have HB4 := Lib.hid (bn HB3.out hb4); clear hb4 HB3 HQ3 HV3
  go_wp2_with fail
  refine (HAK.out _ _ HV4.out).mono ?_
  rintro e w5 ⟨rfl, hb5⟩
  have HQ5 := Lib.hid (HQ4.out.below hb5 (Nat.le_refl _))
  have HB5 := Lib.hid (bn HB4.out hb5); clear hb5 HB4 HQ4 HV4
  go_wp2_with fail
  refine (HQK.out _ _ HQ5.out).mono ?_
  rintro e w6 ⟨rfl, hb6⟩
  have HB6 := Lib.hid (bn HB5.out hb6); clear hb6 HB5 HQ5
  go_wp2
  go_ret
  exact ⟨rfl, HB6.out⟩
theorem ReceiverCursors_walk (s : ByteArray) (w0 : s.size ≤ 140737488351232) (w : World) :
    Calls Try.prog 3 #[.string s] w fun e w' => e = .returned (.bool true) ∧ Below w.heap.size w w' := by
  by_cases hbig : 2000 < s.size
  · exact Cursors_long s hbig w
  · cases hF : resR s.data.toList with
    | mk F c =>
      cases F with
      | none => exact Cursors_none s hbig c hF w
      | some R => exact Cursors_some s hbig R c hF w
end Go.Proofs.Ytpgcdfdfbcmodaa
