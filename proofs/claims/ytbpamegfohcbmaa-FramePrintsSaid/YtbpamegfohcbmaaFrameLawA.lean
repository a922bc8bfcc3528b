/- The walks of the frame's laws Prints and Reads: each answers true. -/
import Derived.Test.YtbpamegfohcbmaaFrameAwake
namespace Go.Proofs.Ytbpamegfohcbmaa
open Go.RowKit
set_option linter.unusedVariables false
set_option linter.unusedSimpArgs false
set_option maxRecDepth 100000 in
set_option maxHeartbeats 8000000 in
theorem Prints_big (a : Fr) (hbig : 70000 < a.d.size) (w : World) :
    Calls Try.prog 3 #[a.val] w fun e w' => e = .returned (.bool true) ∧ Below w.heap.size w w' := by
  obtain ⟨hA1, hc1⟩ := Fr.box a w
  have a0 := @Fr.at.c0 a w.heap.size
  have a1 := @Fr.at.c1 a w.heap.size
  have a2 := @Fr.at.c2 a w.heap.size
  have a3 := @Fr.at.c3 a w.heap.size
  have a4 := @Fr.at.c4 a w.heap.size
  have a5 := @Fr.at.c5 a w.heap.size
  rw [a.val_cells]
  go_enter Try.func3, Try.ntmps3
  go_wp2_with fail
  generalize w.alloc (.cells #[.int .i64 a.k, .int .i64 a.s, .int .i64 a.e, .int .i64 a.i, .int .i64 a.t, .string a.d] 23) = w1 at *
  refine (awake_calls _).mono ?_
  rintro e' w2 ⟨rfl, hb2⟩
  have hA2 := hA1.below hb2
  have hc2 := bn hc1 hb2
  clear hA1 hc1 hb2
  go_wp2_with fail
  refine (awake_calls _).mono ?_
  rintro e' w3 ⟨rfl, hb3⟩
  have hA3 := hA2.below hb3
  have hc3 := bn hc2 hb3
  clear hA2 hc2 hb3
  go_wp2
  go_ret
  exact ⟨rfl, hc3⟩
set_option maxRecDepth 100000 in
set_option maxHeartbeats 8000000 in
theorem Prints_bad (a : Fr) (hbig : ¬ 70000 < a.d.size) (ha : ¬ a.ok) (w : World) :
    Calls Try.prog 3 #[a.val] w fun e w' => e = .returned (.bool true) ∧ Below w.heap.size w w' := by
  obtain ⟨hA1, hc1⟩ := Fr.box a w
  have a0 := @Fr.at.c0 a w.heap.size
  have a1 := @Fr.at.c1 a w.heap.size
  have a2 := @Fr.at.c2 a w.heap.size
  have a3 := @Fr.at.c3 a w.heap.size
  have a4 := @Fr.at.c4 a w.heap.size
  have a5 := @Fr.at.c5 a w.heap.size
  have hP := fun w => Print_bad w a ha
  have hG := fun w => Right_calls w a
  have hH := fun w => RRight_calls w a
  rw [decide_eq_false ha] at hG hH
  rw [a.val_cells] at *
  clear ha
  have HP := Lib.hid hP; clear hP
  have HG := Lib.hid hG; clear hG
  have HH := Lib.hid hH; clear hH
  go_enter Try.func3, Try.ntmps3
  go_wp2_with fail
  generalize w.alloc (.cells #[.int .i64 a.k, .int .i64 a.s, .int .i64 a.e, .int .i64 a.i, .int .i64 a.t, .string a.d] 23) = w1 at *
  refine (awake_calls _).mono ?_
  rintro e' w2 ⟨rfl, hb2⟩
  have hA2 := hA1.below hb2
  have hc2 := bn hc1 hb2
  clear hA1 hc1 hb2
  go_wp2_with fail
  with_reducible refine (HP.out _).mono ?_
  rintro e' w3 ⟨rfl, hb3⟩
  have hA3 := hA2.below hb3
  have hc3 := bn hc2 hb3
  clear hA2 hc2 hb3
  go_wp2_with fail
  clear a0 a1 a2 a3 a4 a5
  have q0 := cell_regrown (w := w3) (a := ⟨w.heap.size, 0, none⟩) (v := .int .i64 a.k) hA3.c0
  have q1 := cell_regrown (w := w3) (a := ⟨w.heap.size, 1, none⟩) (v := .int .i64 a.s) hA3.c1
  have q2 := cell_regrown (w := w3) (a := ⟨w.heap.size, 2, none⟩) (v := .int .i64 a.e) hA3.c2
  have q3 := cell_regrown (w := w3) (a := ⟨w.heap.size, 3, none⟩) (v := .int .i64 a.i) hA3.c3
  have q4 := cell_regrown (w := w3) (a := ⟨w.heap.size, 4, none⟩) (v := .int .i64 a.t) hA3.c4
  have q5 := cell_regrown (w := w3) (a := ⟨w.heap.size, 5, none⟩) (v := .string a.d) hA3.c5
  refine wp_region_quiet_below (by kernel_rfl) (by kernel_rfl) ?_
  repeat (quiet_step (first | (with_reducible exact Calls.regrown_of (HG.out _)) | (with_reducible exact Calls.regrown_of (HH.out _))))
  refine wpQuiet_nil ?_
  rintro w' ⟨p, rfl⟩
  have hb4 := below_regrown w3 p.d p.os
  generalize Go.Sort.grow (redrawn w3 p.d) p.os = w4 at hb4 ⊢
  clear q0 q1 q2 q3 q4 q5
  have hA4 := hA3.below hb4
  have hc4 := bn hc3 hb4
  clear hA3 hc3 hb4
  have a0 := @Fr.at.c0 a w.heap.size
  have a1 := @Fr.at.c1 a w.heap.size
  have a2 := @Fr.at.c2 a w.heap.size
  have a3 := @Fr.at.c3 a w.heap.size
  have a4 := @Fr.at.c4 a w.heap.size
  have a5 := @Fr.at.c5 a w.heap.size
  go_wp2_with fail
  with_reducible refine (HH.out _).mono ?_
  rintro e' w5 ⟨rfl, hb5⟩
  have hA5 := hA4.below hb5
  have hc5 := bn hc4 hb5
  clear hA4 hc4 hb5
  go_wp2
  go_ret
  exact ⟨rfl, hc5⟩
set_option maxRecDepth 100000 in
set_option maxHeartbeats 8000000 in
theorem Prints_good (a : Fr) (ha : a.ok) (w : World) :
    Calls Try.prog 3 #[a.val] w fun e w' => e = .returned (.bool true) ∧ Below w.heap.size w w' := by
  obtain ⟨hA1, hc1⟩ := Fr.box a w
  have a0 := @Fr.at.c0 a w.heap.size
  have a1 := @Fr.at.c1 a w.heap.size
  have a2 := @Fr.at.c2 a w.heap.size
  have a3 := @Fr.at.c3 a w.heap.size
  have a4 := @Fr.at.c4 a w.heap.size
  have a5 := @Fr.at.c5 a w.heap.size
  have hG := fun w => Right_calls w a
  have hH := fun w => RRight_calls w a
  rw [decide_eq_true ha] at hG hH
  obtain ⟨f, hf, ef⟩ := Fr.good ha
  have hP := fun w => Print_good w f hf
  have hQ := fun w => RPrint_calls w f hf
  have hs := printB_size f
  have hd : a.d.size ≤ 65000 := ha.2.2.2.2.2.2.2.2.2
  have hfd : f.d.size = a.d.size := by rw [ef]; rfl
  have hbig : ¬ 70000 < a.d.size := by omega
  have hR := fun w => Read_calls w (printB f) (by omega)
  rw [read_print f hf] at hR
  rw [← ef] at hP hQ hR
  rw [hfd] at hs
  generalize printB f = pf at *
  simp only [a.val_cells] at *
  have hs2 : ((pf.size : Int) == 19 + (a.d.size : Int)) = true := by simp; omega
  have Hs := Lib.hid hs; clear hs
  clear ha hf ef hfd
  have r0 := fun g w => @Fr.at.c0 a g w
  have r1 := fun g w => @Fr.at.c1 a g w
  have r2 := fun g w => @Fr.at.c2 a g w
  have r3 := fun g w => @Fr.at.c3 a g w
  have r4 := fun g w => @Fr.at.c4 a g w
  have r5 := fun g w => @Fr.at.c5 a g w
  have R0 := Lib.hid r0; have R1 := Lib.hid r1; have R2 := Lib.hid r2; have R3 := Lib.hid r3; have R4 := Lib.hid r4; have R5 := Lib.hid r5
  clear r0 r1 r2 r3 r4 r5
  have HP := Lib.hid hP; clear hP
  have HQ := Lib.hid hQ; clear hQ
  have HR := Lib.hid hR; clear hR
  have HG := Lib.hid hG; clear hG
  have HH := Lib.hid hH; clear hH
  go_enter Try.func3, Try.ntmps3
  go_wp2_with fail
  generalize w.alloc (.cells #[.int .i64 a.k, .int .i64 a.s, .int .i64 a.e, .int .i64 a.i, .int .i64 a.t, .string a.d] 23) = w1 at *
  refine (awake_calls _).mono ?_
  rintro e' w2 ⟨rfl, hb2⟩
  have hA2 := hA1.below hb2
  have hc2 := bn hc1 hb2
  clear hA1 hc1 hb2
  go_wp2_with fail
  with_reducible refine (HP.out _).mono ?_
  rintro e' w3 ⟨rfl, hb3⟩
  have hA3 := hA2.below hb3
  have hc3 := bn hc2 hb3
  clear hA2 hc2 hb3
  go_wp2_with fail
  clear a0 a1 a2 a3 a4 a5
  have q0 := cell_regrown (w := w3) (a := ⟨w.heap.size, 0, none⟩) (v := .int .i64 a.k) hA3.c0
  have q1 := cell_regrown (w := w3) (a := ⟨w.heap.size, 1, none⟩) (v := .int .i64 a.s) hA3.c1
  have q2 := cell_regrown (w := w3) (a := ⟨w.heap.size, 2, none⟩) (v := .int .i64 a.e) hA3.c2
  have q3 := cell_regrown (w := w3) (a := ⟨w.heap.size, 3, none⟩) (v := .int .i64 a.i) hA3.c3
  have q4 := cell_regrown (w := w3) (a := ⟨w.heap.size, 4, none⟩) (v := .int .i64 a.t) hA3.c4
  have q5 := cell_regrown (w := w3) (a := ⟨w.heap.size, 5, none⟩) (v := .string a.d) hA3.c5
  refine wp_region_quiet_below (by kernel_rfl) (by kernel_rfl) ?_
  repeat (quiet_step (first | (with_reducible exact Calls.regrown_of (HG.out _)) | (with_reducible exact Calls.regrown_of (HH.out _))))
  refine wpQuiet_nil ?_
  rintro w' ⟨p, rfl⟩
  have hb4 := below_regrown w3 p.d p.os
  generalize Go.Sort.grow (redrawn w3 p.d) p.os = w4 at hb4 ⊢
  clear q0 q1 q2 q3 q4 q5
  have hA4 := hA3.below hb4
  have hc4 := bn hc3 hb4
  clear hA3 hc3 hb4
  have a0 := @Fr.at.c0 a w.heap.size
  have a1 := @Fr.at.c1 a w.heap.size
  have a2 := @Fr.at.c2 a w.heap.size
  have a3 := @Fr.at.c3 a w.heap.size
  have a4 := @Fr.at.c4 a w.heap.size
  have a5 := @Fr.at.c5 a w.heap.size
  go_wp2_with fail
  with_reducible refine (HH.out _).mono ?_
  rintro e' w5 ⟨rfl, hb5⟩
  have hA5 := hA4.below hb5
  have hc5 := bn hc4 hb5
  clear hA4 hc4 hb5
  go_wp2_with fail
  with_reducible refine (HR.out _).mono ?_
  rintro e' w6 ⟨rfl, hb6⟩
  have hA6 := hA5.below hb6
  have hc6 := bn hc5 hb6
  clear hA5 hc5 hb6
  have hb7 := (Below.refl w6.heap.size w6).alloc (Nat.le_refl _) (.cells #[.int .i64 a.k, .int .i64 a.s, .int .i64 a.e, .int .i64 a.i, .int .i64 a.t, .string a.d] 23)
  have hA7 := hA6.below hb7
  have hG7 : a.at w6.heap.size (w6.alloc (.cells #[.int .i64 a.k, .int .i64 a.s, .int .i64 a.e, .int .i64 a.i, .int .i64 a.t, .string a.d] 23)) := (Fr.box a w6).1
  have g0 := R0.out w6.heap.size; have g1 := R1.out w6.heap.size; have g2 := R2.out w6.heap.size; have g3 := R3.out w6.heap.size; have g4 := R4.out w6.heap.size; have g5 := R5.out w6.heap.size
  have hc7 := bn hc6 hb7
  clear hA6 hc6 hb7
  go_wp2_with fail
  generalize w6.alloc (.cells #[.int .i64 a.k, .int .i64 a.s, .int .i64 a.e, .int .i64 a.i, .int .i64 a.t, .string a.d] 23) = w7 at *
  with_reducible refine (HQ.out _).mono ?_
  rintro e' w8 ⟨rfl, hb8⟩
  have hA8 := hA7.below hb8
  have hG8 := hG7.below hb8
  have hc8 := bn hc7 hb8
  clear hA7 hG7 hc7 hb8
  go_wp2
  go_ret
  exact ⟨rfl, hc8⟩
theorem FramePrints_walk (a : Fr) (w : World) :
    Calls Try.prog 3 #[a.val] w fun e w' => e = .returned (.bool true) ∧ Below w.heap.size w w' := by
  by_cases ha : a.ok
  · exact Prints_good a ha w
  · by_cases hbig : 70000 < a.d.size
    · exact Prints_big a hbig w
    · exact Prints_bad a hbig ha w
theorem read_code (s : ByteArray) : (readB s).2 ≤ 5 := by
  unfold readB
  split
  · decide
  · split
    · decide
    · split
      · decide
      · split
        · exact Nat.zero_le _
        · decide
set_option maxRecDepth 100000 in
set_option maxHeartbeats 8000000 in
theorem Reads_big (s : ByteArray) (hbig : 3000 < s.size) (w : World) :
    Calls Try.prog 4 #[.string s] w fun e w' => e = .returned (.bool true) ∧ Below w.heap.size w w' := by
  go_enter Try.func4, Try.ntmps4
  go_wp2_with fail
  refine (awake_calls _).mono ?_
  rintro e' w2 ⟨rfl, hb2⟩
  go_wp2_with fail
  refine (awake_calls _).mono ?_
  rintro e' w3 ⟨rfl, hb3⟩
  go_wp2
  go_ret
  exact ⟨rfl, bn hb2 hb3⟩
set_option maxRecDepth 100000 in
set_option maxHeartbeats 8000000 in
theorem Reads_good (s : ByteArray) (hbig : ¬ 3000 < s.size) (r : Fr) (c : Nat) (hr : readB s = (r, c)) (h0 : c = 0) (w : World) :
    Calls Try.prog 4 #[.string s] w fun e w' => e = .returned (.bool true) ∧ Below w.heap.size w w' := by
  have hR := fun w => Read_calls w s (by omega)
  have hS := fun w => RRead_calls w s (by omega)
  rw [hr] at hR hS
  subst h0
  obtain ⟨f, hf, ef, es⟩ := read_good s r hr
  have hP := fun w => Print_good w f hf
  rw [← ef, ← es] at hP
  clear hf ef es hr
  simp only [r.val_cells] at *
  have r0 := fun g w => @Fr.at.c0 r g w
  have r1 := fun g w => @Fr.at.c1 r g w
  have r2 := fun g w => @Fr.at.c2 r g w
  have r3 := fun g w => @Fr.at.c3 r g w
  have r4 := fun g w => @Fr.at.c4 r g w
  have r5 := fun g w => @Fr.at.c5 r g w
  have R0 := Lib.hid r0; have R1 := Lib.hid r1; have R2 := Lib.hid r2; have R3 := Lib.hid r3; have R4 := Lib.hid r4; have R5 := Lib.hid r5
  clear r0 r1 r2 r3 r4 r5
  have HP := Lib.hid hP; clear hP
  have HR := Lib.hid hR; clear hR
  have HS := Lib.hid hS; clear hS
  go_enter Try.func4, Try.ntmps4
  go_wp2_with fail
  refine (awake_calls _).mono ?_
  rintro e' w1 ⟨rfl, hc1⟩
  go_wp2_with fail
  with_reducible refine (HR.out _).mono ?_
  rintro e' w2 ⟨rfl, hb2⟩
  have hc2 := bn hc1 hb2
  clear hc1 hb2
  have hb3 := (Below.refl w2.heap.size w2).alloc (Nat.le_refl _) (.cells #[.int .i64 r.k, .int .i64 r.s, .int .i64 r.e, .int .i64 r.i, .int .i64 r.t, .string r.d] 23)
  have hG3 : r.at w2.heap.size (w2.alloc (.cells #[.int .i64 r.k, .int .i64 r.s, .int .i64 r.e, .int .i64 r.i, .int .i64 r.t, .string r.d] 23)) := (Fr.box r w2).1
  have g0 := R0.out w2.heap.size; have g1 := R1.out w2.heap.size; have g2 := R2.out w2.heap.size; have g3 := R3.out w2.heap.size; have g4 := R4.out w2.heap.size; have g5 := R5.out w2.heap.size
  have hc3 := bn hc2 hb3
  clear  hc2 hb3
  go_wp2_with fail
  generalize w2.alloc (.cells #[.int .i64 r.k, .int .i64 r.s, .int .i64 r.e, .int .i64 r.i, .int .i64 r.t, .string r.d] 23) = w3 at *
  with_reducible refine (HS.out _).mono ?_
  rintro e' w4 ⟨rfl, hb4⟩
  have hG4 := hG3.below hb4
  have hc4 := bn hc3 hb4
  clear hG3 hc3 hb4
  have hb5 := (Below.refl w4.heap.size w4).alloc (Nat.le_refl _) (.cells #[.int .i64 r.k, .int .i64 r.s, .int .i64 r.e, .int .i64 r.i, .int .i64 r.t, .string r.d] 23)
  have hG5 := hG4.below hb5
  have hJ5 : r.at w4.heap.size (w4.alloc (.cells #[.int .i64 r.k, .int .i64 r.s, .int .i64 r.e, .int .i64 r.i, .int .i64 r.t, .string r.d] 23)) := (Fr.box r w4).1
  have j0 := R0.out w4.heap.size; have j1 := R1.out w4.heap.size; have j2 := R2.out w4.heap.size; have j3 := R3.out w4.heap.size; have j4 := R4.out w4.heap.size; have j5 := R5.out w4.heap.size
  have hc5 := bn hc4 hb5
  clear hG4 hc4 hb5
  go_wp2_with fail
  generalize w4.alloc (.cells #[.int .i64 r.k, .int .i64 r.s, .int .i64 r.e, .int .i64 r.i, .int .i64 r.t, .string r.d] 23) = w5 at *
  with_reducible refine (HP.out _).mono ?_
  rintro e' w6 ⟨rfl, hb6⟩
  have hG6 := hG5.below hb6
  have hJ6 := hJ5.below hb6
  have hc6 := bn hc5 hb6
  clear hG5 hJ5 hc5 hb6
  go_wp2
  go_ret
  exact ⟨rfl, hc6⟩
set_option maxRecDepth 100000 in
set_option maxHeartbeats 8000000 in
theorem Reads_bad (s : ByteArray) (hbig : ¬ 3000 < s.size) (r : Fr) (c : Nat) (hr : readB s = (r, c)) (h0 : c ≠ 0) (w : World) :
    Calls Try.prog 4 #[.string s] w fun e w' => e = .returned (.bool true) ∧ Below w.heap.size w w' := by
  have hR := fun w => Read_calls w s (by omega)
  have hS := fun w => RRead_calls w s (by omega)
  rw [hr] at hR hS
  have hz : r = Fr.zero ∧ c ≤ 5 := by
    have h2 := read_refused s c (by rw [hr]) h0
    rw [h2] at hr
    have := read_code s
    rw [h2] at this
    exact ⟨(Prod.mk.inj hr).1.symm, this⟩
  have hP := fun w => Print_bad w r (by rw [hz.1]; decide)
  have hc : ((c : Int) == 0) = false := by simp; omega
  clear hz hr
  simp only [r.val_cells] at *
  have r0 := fun g w => @Fr.at.c0 r g w
  have r1 := fun g w => @Fr.at.c1 r g w
  have r2 := fun g w => @Fr.at.c2 r g w
  have r3 := fun g w => @Fr.at.c3 r g w
  have r4 := fun g w => @Fr.at.c4 r g w
  have r5 := fun g w => @Fr.at.c5 r g w
  have R0 := Lib.hid r0; have R1 := Lib.hid r1; have R2 := Lib.hid r2; have R3 := Lib.hid r3; have R4 := Lib.hid r4; have R5 := Lib.hid r5
  clear r0 r1 r2 r3 r4 r5
  have HP := Lib.hid hP; clear hP
  have HR := Lib.hid hR; clear hR
  have HS := Lib.hid hS; clear hS
  go_enter Try.func4, Try.ntmps4
  go_wp2_with fail
  refine (awake_calls _).mono ?_
  rintro e' w1 ⟨rfl, hc1⟩
  go_wp2_with fail
  with_reducible refine (HR.out _).mono ?_
  rintro e' w2 ⟨rfl, hb2⟩
  have hc2 := bn hc1 hb2
  clear hc1 hb2
  have hb3 := (Below.refl w2.heap.size w2).alloc (Nat.le_refl _) (.cells #[.int .i64 r.k, .int .i64 r.s, .int .i64 r.e, .int .i64 r.i, .int .i64 r.t, .string r.d] 23)
  have hG3 : r.at w2.heap.size (w2.alloc (.cells #[.int .i64 r.k, .int .i64 r.s, .int .i64 r.e, .int .i64 r.i, .int .i64 r.t, .string r.d] 23)) := (Fr.box r w2).1
  have g0 := R0.out w2.heap.size; have g1 := R1.out w2.heap.size; have g2 := R2.out w2.heap.size; have g3 := R3.out w2.heap.size; have g4 := R4.out w2.heap.size; have g5 := R5.out w2.heap.size
  have hc3 := bn hc2 hb3
  clear  hc2 hb3
  go_wp2_with fail
  generalize w2.alloc (.cells #[.int .i64 r.k, .int .i64 r.s, .int .i64 r.e, .int .i64 r.i, .int .i64 r.t, .string r.d] 23) = w3 at *
  with_reducible refine (HS.out _).mono ?_
  rintro e' w4 ⟨rfl, hb4⟩
  have hG4 := hG3.below hb4
  have hc4 := bn hc3 hb4
  clear hG3 hc3 hb4
  have hb5 := (Below.refl w4.heap.size w4).alloc (Nat.le_refl _) (.cells #[.int .i64 r.k, .int .i64 r.s, .int .i64 r.e, .int .i64 r.i, .int .i64 r.t, .string r.d] 23)
  have hG5 := hG4.below hb5
  have hJ5 : r.at w4.heap.size (w4.alloc (.cells #[.int .i64 r.k, .int .i64 r.s, .int .i64 r.e, .int .i64 r.i, .int .i64 r.t, .string r.d] 23)) := (Fr.box r w4).1
  have j0 := R0.out w4.heap.size; have j1 := R1.out w4.heap.size; have j2 := R2.out w4.heap.size; have j3 := R3.out w4.heap.size; have j4 := R4.out w4.heap.size; have j5 := R5.out w4.heap.size
  have hc5 := bn hc4 hb5
  clear hG4 hc4 hb5
  go_wp2_with fail
  generalize w4.alloc (.cells #[.int .i64 r.k, .int .i64 r.s, .int .i64 r.e, .int .i64 r.i, .int .i64 r.t, .string r.d] 23) = w5 at *
  with_reducible refine (HP.out _).mono ?_
  rintro e' w6 ⟨rfl, hb6⟩
  have hG6 := hG5.below hb6
  have hJ6 := hJ5.below hb6
  have hc6 := bn hc5 hb6
  clear hG5 hJ5 hc5 hb6
  go_wp2
  go_ret
  exact ⟨rfl, hc6⟩
theorem FrameReads_walk (s : ByteArray) (w0 : s.size ≤ 140737488351232) (w : World) :
    Calls Try.prog 4 #[.string s] w fun e w' => e = .returned (.bool true) ∧ Below w.heap.size w w' := by
  by_cases hbig : 3000 < s.size
  · exact Reads_big s hbig w
  · by_cases h0 : (readB s).2 = 0
    · exact Reads_good s hbig (readB s).1 (readB s).2 rfl h0 w
    · exact Reads_bad s hbig (readB s).1 (readB s).2 rfl h0 w
end Go.Proofs.Ytbpamegfohcbmaa
