/- The walk of the frame's law Bursts: it answers true. -/
import Derived.Test.YtbpamegfohcbmaaFrameLawB
namespace Go.Proofs.Ytbpamegfohcbmaa
open Go.RowKit
set_option linter.unusedVariables false
set_option linter.unusedSimpArgs false
set_option maxRecDepth 100000 in
set_option maxHeartbeats 8000000 in
theorem Bursts_bad (a : Fr) (m : ByteArray) (at_ b : Int) (ha : ¬ a.ok) (w : World) :
    Calls Try.prog 5 #[a.val, .int .i64 at_, .int .u32 b, .string m] w fun e w' => e = .returned (.bool true) ∧ Below w.heap.size w w' := by
  obtain ⟨hA1, hc1⟩ := Fr.box a w
  have a0 := @Fr.at.c0 a w.heap.size
  have a1 := @Fr.at.c1 a w.heap.size
  have a2 := @Fr.at.c2 a w.heap.size
  have a3 := @Fr.at.c3 a w.heap.size
  have a4 := @Fr.at.c4 a w.heap.size
  have a5 := @Fr.at.c5 a w.heap.size
  have hG := fun w => RRight_calls w a
  rw [decide_eq_false ha] at hG
  simp only [a.val_cells] at *
  have HG := Lib.hid hG; clear hG
  go_enter Try.func5, Try.ntmps5
  go_wp2_with fail
  generalize w.alloc (.cells #[.int .i64 a.k, .int .i64 a.s, .int .i64 a.e, .int .i64 a.i, .int .i64 a.t, .string a.d] 23) = w1 at *
  refine (awake_calls _).mono ?_
  rintro e' w2 ⟨rfl, hb2⟩
  have hA2 := hA1.below hb2
  have hc2 := bn hc1 hb2
  clear hA1 hc1 hb2
  go_wp2_with fail
  with_reducible refine (HG.out _).mono ?_
  rintro e' w3 ⟨rfl, hb3⟩
  have hA3 := hA2.below hb3
  have hc3 := bn hc2 hb3
  clear hA2 hc2 hb3
  go_wp2_with fail
  refine (awake_calls _).mono ?_
  rintro e' w4 ⟨rfl, hb4⟩
  have hA4 := hA3.below hb4
  have hc4 := bn hc3 hb4
  clear hA3 hc3 hb4
  go_wp2
  go_ret
  exact ⟨rfl, hc4⟩
set_option maxRecDepth 100000 in
set_option maxHeartbeats 8000000 in
theorem Bursts_big (a : Fr) (m : ByteArray) (at_ b : Int) (ha : a.ok) (h1 : 2000 < a.d.size) (w : World) :
    Calls Try.prog 5 #[a.val, .int .i64 at_, .int .u32 b, .string m] w fun e w' => e = .returned (.bool true) ∧ Below w.heap.size w w' := by
  obtain ⟨hA1, hc1⟩ := Fr.box a w
  have a0 := @Fr.at.c0 a w.heap.size
  have a1 := @Fr.at.c1 a w.heap.size
  have a2 := @Fr.at.c2 a w.heap.size
  have a3 := @Fr.at.c3 a w.heap.size
  have a4 := @Fr.at.c4 a w.heap.size
  have a5 := @Fr.at.c5 a w.heap.size
  have hG := fun w => RRight_calls w a
  rw [decide_eq_true ha] at hG
  simp only [a.val_cells] at *
  have HG := Lib.hid hG; clear hG
  go_enter Try.func5, Try.ntmps5
  go_wp2_with fail
  generalize w.alloc (.cells #[.int .i64 a.k, .int .i64 a.s, .int .i64 a.e, .int .i64 a.i, .int .i64 a.t, .string a.d] 23) = w1 at *
  refine (awake_calls _).mono ?_
  rintro e' w2 ⟨rfl, hb2⟩
  have hA2 := hA1.below hb2
  have hc2 := bn hc1 hb2
  clear hA1 hc1 hb2
  go_wp2_with fail
  with_reducible refine (HG.out _).mono ?_
  rintro e' w3 ⟨rfl, hb3⟩
  have hA3 := hA2.below hb3
  have hc3 := bn hc2 hb3
  clear hA2 hc2 hb3
  go_wp2_with fail
  refine (awake_calls _).mono ?_
  rintro e' w4 ⟨rfl, hb4⟩
  have hA4 := hA3.below hb4
  have hc4 := bn hc3 hb4
  clear hA3 hc3 hb4
  go_wp2
  go_ret
  exact ⟨rfl, hc4⟩
set_option maxRecDepth 100000 in
set_option maxHeartbeats 8000000 in
theorem Bursts_many (a : Fr) (m : ByteArray) (at_ b : Int) (ha : a.ok) (h1 : ¬ 2000 < a.d.size) (h2 : 100 < m.size) (w : World) :
    Calls Try.prog 5 #[a.val, .int .i64 at_, .int .u32 b, .string m] w fun e w' => e = .returned (.bool true) ∧ Below w.heap.size w w' := by
  obtain ⟨hA1, hc1⟩ := Fr.box a w
  have a0 := @Fr.at.c0 a w.heap.size
  have a1 := @Fr.at.c1 a w.heap.size
  have a2 := @Fr.at.c2 a w.heap.size
  have a3 := @Fr.at.c3 a w.heap.size
  have a4 := @Fr.at.c4 a w.heap.size
  have a5 := @Fr.at.c5 a w.heap.size
  have hG := fun w => RRight_calls w a
  rw [decide_eq_true ha] at hG
  simp only [a.val_cells] at *
  have HG := Lib.hid hG; clear hG
  go_enter Try.func5, Try.ntmps5
  go_wp2_with fail
  generalize w.alloc (.cells #[.int .i64 a.k, .int .i64 a.s, .int .i64 a.e, .int .i64 a.i, .int .i64 a.t, .string a.d] 23) = w1 at *
  refine (awake_calls _).mono ?_
  rintro e' w2 ⟨rfl, hb2⟩
  have hA2 := hA1.below hb2
  have hc2 := bn hc1 hb2
  clear hA1 hc1 hb2
  go_wp2_with fail
  with_reducible refine (HG.out _).mono ?_
  rintro e' w3 ⟨rfl, hb3⟩
  have hA3 := hA2.below hb3
  have hc3 := bn hc2 hb3
  clear hA2 hc2 hb3
  go_wp2_with fail
  refine (awake_calls _).mono ?_
  rintro e' w4 ⟨rfl, hb4⟩
  have hA4 := hA3.below hb4
  have hc4 := bn hc3 hb4
  clear hA3 hc3 hb4
  go_wp2
  go_ret
  exact ⟨rfl, hc4⟩
set_option maxRecDepth 100000 in
set_option maxHeartbeats 8000000 in
theorem Bursts_none (a : Fr) (m : ByteArray) (at_ b : Int) (ha : a.ok) (h1 : ¬ 2000 < a.d.size) (h2 : m.size = 0) (w : World) :
    Calls Try.prog 5 #[a.val, .int .i64 at_, .int .u32 b, .string m] w fun e w' => e = .returned (.bool true) ∧ Below w.heap.size w w' := by
  obtain ⟨hA1, hc1⟩ := Fr.box a w
  have a0 := @Fr.at.c0 a w.heap.size
  have a1 := @Fr.at.c1 a w.heap.size
  have a2 := @Fr.at.c2 a w.heap.size
  have a3 := @Fr.at.c3 a w.heap.size
  have a4 := @Fr.at.c4 a w.heap.size
  have a5 := @Fr.at.c5 a w.heap.size
  have hG := fun w => RRight_calls w a
  rw [decide_eq_true ha] at hG
  simp only [a.val_cells] at *
  have hm : m = ⟨#[]⟩ := by
    apply ByteArray.ext; exact Array.eq_empty_of_size_eq_zero h2
  clear h2
  subst hm
  have HG := Lib.hid hG; clear hG
  go_enter Try.func5, Try.ntmps5
  go_wp2_with fail
  generalize w.alloc (.cells #[.int .i64 a.k, .int .i64 a.s, .int .i64 a.e, .int .i64 a.i, .int .i64 a.t, .string a.d] 23) = w1 at *
  refine (awake_calls _).mono ?_
  rintro e' w2 ⟨rfl, hb2⟩
  have hA2 := hA1.below hb2
  have hc2 := bn hc1 hb2
  clear hA1 hc1 hb2
  go_wp2_with fail
  with_reducible refine (HG.out _).mono ?_
  rintro e' w3 ⟨rfl, hb3⟩
  have hA3 := hA2.below hb3
  have hc3 := bn hc2 hb3
  clear hA2 hc2 hb3
  go_wp2_with fail
  refine (awake_calls _).mono ?_
  rintro e' w4 ⟨rfl, hb4⟩
  have hA4 := hA3.below hb4
  have hc4 := bn hc3 hb4
  clear hA3 hc3 hb4
  go_wp2
  go_ret
  exact ⟨rfl, hc4⟩
set_option maxRecDepth 100000 in
set_option maxHeartbeats 8000000 in
theorem Bursts_good (a : Fr) (m : ByteArray) (at_ : Int) (b : Nat) (hb : b < 4294967296) (c0 : -9223372036854775808 ≤ at_) (c1 : at_ < 9223372036854775808) (ha : a.ok) (h1 : ¬ 2000 < a.d.size) (h2 : ¬ 100 < m.size) (h3 : m.size ≠ 0) (w : World) :
    Calls Try.prog 5 #[a.val, .int .i64 at_, .int .u32 b, .string m] w fun e w' => e = .returned (.bool true) ∧ Below w.heap.size w w' := by
  obtain ⟨hA1, hc1⟩ := Fr.box a w
  have a0 := @Fr.at.c0 a w.heap.size
  have a1 := @Fr.at.c1 a w.heap.size
  have a2 := @Fr.at.c2 a w.heap.size
  have a3 := @Fr.at.c3 a w.heap.size
  have a4 := @Fr.at.c4 a w.heap.size
  have a5 := @Fr.at.c5 a w.heap.size
  have hG := fun w => RRight_calls w a
  rw [decide_eq_true ha] at hG
  obtain ⟨f, hf, ef⟩ := Fr.good ha
  have hP := fun w => Print_good w f hf
  have hs := printB_size f
  have efd : a.d = f.d := by rw [ef]; rfl
  rw [← efd] at hs
  rw [← ef] at hP
  obtain ⟨ho1, ho2, ho3⟩ := or_one b (by omega)
  obtain ⟨U, hU⟩ : ∃ U : Nat, IntKind.u64.wrap at_ = U := u64_wrap_nat at_
  obtain ⟨p, hp, hp8⟩ := mod_place U (printB f).size (by omega) (by omega)
  obtain ⟨hop, -⟩ := flip_burst (bodyB f) p (b ||| 1) ho2 ho3 (by rw [bodyB_size, ← efd]; omega)
  have hX := fun w => Flip_calls w (printB f) p (b ||| 1) ho2 (by omega) (by omega) (by omega)
  have hfs : (⟨(flipL (printB f).data.toList p (b ||| 1)).toArray⟩ : ByteArray).size = (printB f).size := by
    show (flipL (printB f).data.toList p (b ||| 1)).length = _
    rw [flipL_length]; rfl
  have hY := fun w => Read_calls w ⟨(flipL (printB f).data.toList p (b ||| 1)).toArray⟩ (by omega)
  have hb1 := read_burst f ⟨(flipL (printB f).data.toList p (b ||| 1)).toArray⟩ hfs (by rw [show printB f = sealB (bodyB f) from rfl, hop])
  have hb2 := read_cut f hf (p / 8) (by omega)
  have hb3 := read_more f hf m h3
  have hC := fun w => Read_calls w ((printB f).extract 0 (p / 8)) (by rw [ByteArray.size_extract]; omega)
  have hM := fun w => Read_calls w (printB f ++ m) (by rw [ByteArray.size_append]; omega)
  rw [hb3] at hM
  have hz : m.toList.isEmpty = false := by
    rw [ByteArray.toList_eq, List.isEmpty_eq_false_iff]
    intro e
    exact h3 (congrArg List.length e)
  have hsm : (printB f).size ≤ 2019 := by omega
  have hs0 : 19 ≤ (printB f).size := by omega
  have hlim : ¬ 9223372036854775807 < (printB f).size + m.size := by omega
  clear hs hop hfs hb3 efd ef hf h3
  generalize (⟨(flipL (printB f).data.toList p (b ||| 1)).toArray⟩ : ByteArray) = pq at *
  generalize printB f = pf at *
  have hp9 : (p : Int) / 8 ≤ (pf.size : Int) := by omega
  clear ha
  rcases hb1 with hb1 | hb1 <;> rcases hb2 with hb2 | hb2 <;> rw [hb1] at hY <;> rw [hb2] at hC <;> clear hb1 hb2
  all_goals simp only [a.val_cells, zero_val] at *
  all_goals
    have HG := Lib.hid hG; clear hG
    have HP := Lib.hid hP; clear hP
    have HX := Lib.hid hX; clear hX
    have HY := Lib.hid hY; clear hY
    have HC := Lib.hid hC; clear hC
    have HM := Lib.hid hM; clear hM
    go_enter Try.func5, Try.ntmps5
    go_wp2_with fail
    generalize w.alloc (.cells #[.int .i64 a.k, .int .i64 a.s, .int .i64 a.e, .int .i64 a.i, .int .i64 a.t, .string a.d] 23) = w1 at *
    refine (awake_calls _).mono ?_
    rintro e' w2 ⟨rfl, hb2⟩
    have hA2 := hA1.below hb2
    have hc2 := bn hc1 hb2
    clear hA1 hc1 hb2
    go_wp2_with fail
    with_reducible refine (HG.out _).mono ?_
    rintro e' w3 ⟨rfl, hb3⟩
    have hA3 := hA2.below hb3
    have hc3 := bn hc2 hb3
    clear hA2 hc2 hb3
    go_wp2_with fail
    with_reducible refine (HP.out _).mono ?_
    rintro e' w4 ⟨rfl, hb4⟩
    have hA4 := hA3.below hb4
    have hc4 := bn hc3 hb4
    clear hA3 hc3 hb4
    go_wp2_with fail
    with_reducible refine (HX.out _).mono ?_
    rintro e' w5 ⟨rfl, hb5⟩
    have hA5 := hA4.below hb5
    have hc5 := bn hc4 hb5
    clear hA4 hc4 hb5
    go_wp2_with fail
    with_reducible refine (HY.out _).mono ?_
    rintro e' w6 ⟨rfl, hb6⟩
    have hA6 := hA5.below hb6
    have hc6 := bn hc5 hb6
    clear hA5 hc5 hb6
    have hb7 := (Below.refl w6.heap.size w6).alloc (Nat.le_refl _) (.cells #[.int .i64 0, .int .i64 0, .int .i64 0, .int .i64 0, .int .i64 0, .string ⟨#[]⟩] 23)
    have hA7 := hA6.below hb7
    have hc7 := bn hc6 hb7
    clear hA6 hc6 hb7
    go_wp2_with fail
    generalize w6.alloc (.cells #[.int .i64 0, .int .i64 0, .int .i64 0, .int .i64 0, .int .i64 0, .string ⟨#[]⟩] 23) = w7 at *
    with_reducible refine (HC.out _).mono ?_
    rintro e' w8 ⟨rfl, hb8⟩
    have hA8 := hA7.below hb8
    have hc8 := bn hc7 hb8
    clear hA7 hc7 hb8
    have hb9 := (Below.refl w8.heap.size w8).alloc (Nat.le_refl _) (.cells #[.int .i64 0, .int .i64 0, .int .i64 0, .int .i64 0, .int .i64 0, .string ⟨#[]⟩] 23)
    have hA9 := hA8.below hb9
    have hc9 := bn hc8 hb9
    clear hA8 hc8 hb9
    go_wp2_with fail
    generalize w8.alloc (.cells #[.int .i64 0, .int .i64 0, .int .i64 0, .int .i64 0, .int .i64 0, .string ⟨#[]⟩] 23) = w9 at *
    with_reducible refine (HM.out _).mono ?_
    rintro e' w10 ⟨rfl, hb10⟩
    have hA10 := hA9.below hb10
    have hc10 := bn hc9 hb10
    clear hA9 hc9 hb10
    go_wp2
    go_ret
    exact ⟨rfl, hc10.alloc hc10.size _⟩
theorem FrameBursts_walk (a : Fr) (at_ b : Int) (m : ByteArray) (w1 : (Lit.int .i64 at_).wf = true) (w2 : (Lit.int .u32 b).wf = true) (w3 : m.size ≤ 140737488351232) (w : World) :
    Calls Try.prog 5 #[a.val, .int .i64 at_, .int .u32 b, .string m] w fun e w' => e = .returned (.bool true) ∧ Below w.heap.size w w' := by
  obtain ⟨b0, b1⟩ := bounds_u32 w2
  obtain ⟨b, rfl⟩ := Int.eq_ofNat_of_zero_le b0
  obtain ⟨c0, c1⟩ := bounds_i64 w1
  by_cases ha : a.ok
  · by_cases h1 : 2000 < a.d.size
    · exact Bursts_big a m _ _ ha h1 w
    · by_cases h2 : 100 < m.size
      · exact Bursts_many a m _ _ ha h1 h2 w
      · by_cases h3 : m.size = 0
        · exact Bursts_none a m _ _ ha h1 h3 w
        · exact Bursts_good a m _ b (by omega) (by omega) (by omega) ha h1 h2 h3 w
  · exact Bursts_bad a m _ _ ha w
end Go.Proofs.Ytbpamegfohcbmaa
