/- The walks of the frame's laws Bursts, Fields and Two: each answers true. -/
import Derived.Test.YtbpamegfohcbmaaFrameAwake
namespace Go.Proofs.Ytbpamegfohcbmaa
open Go.RowKit
set_option linter.unusedVariables false
set_option linter.unusedSimpArgs false
theorem or_one (b : Nat) (h : b < 4294967296) : bits .or .u32 (b : Int) 1 = ((b ||| 1 : Nat) : Int) ∧ b ||| 1 < 4294967296 ∧ (b ||| 1) % 2 = 1 := by
  refine ⟨?_, Nat.or_lt_two_pow (n := 32) h (by omega), ?_⟩
  · rw [u32_or _ _ (by omega) (by omega) (by omega) (by omega)]; simp
  · simp
theorem u64_wrap_nat (a : Int) : ∃ U : Nat, IntKind.u64.wrap a = U := by
  rw [IntKind.wrap_u64]; exact ⟨(a % 18446744073709551616).toNat, by omega⟩
theorem mod_place (U n : Nat) (h0 : 0 < n) (h1 : n ≤ 3004) : ∃ p : Nat, wrap64 ((U : Int) % (8 * (n : Int))) = p ∧ p < 8 * n := by
  refine ⟨U % (8 * n), ?_, Nat.mod_lt _ (by omega)⟩
  have e : (U : Int) % (8 * (n : Int)) = ((U % (8 * n) : Nat) : Int) := by simp
  have hl := Nat.mod_lt U (show 8 * n > 0 by omega)
  rw [e]
  unfold wrap64; omega
theorem fr_ext {a b : Fr} (h1 : a.k = b.k) (h2 : a.s = b.s) (h3 : a.e = b.e) (h4 : a.i = b.i) (h5 : a.t = b.t) (h6 : a.d.toList = b.d.toList) : a = b := by
  have : a.d = b.d := bytes_ext (by rw [ByteArray.toList_eq, ByteArray.toList_eq] at h6; exact h6)
  cases a; cases b; simp only at *; subst h1 h2 h3 h4 h5 this; rfl
set_option maxRecDepth 100000 in
set_option maxHeartbeats 8000000 in
theorem FrameTwo_bada (a b : Fr) (ha : ¬ a.ok) (w : World) :
    Calls Try.prog 7 #[a.val, b.val] w fun e w' => e = .returned (.bool true) ∧ Below w.heap.size w w' := by
  obtain ⟨hA1, hB1, hc1⟩ := Fr.box2 a b w
  have a0 := @Fr.at.c0 a w.heap.size
  have a1 := @Fr.at.c1 a w.heap.size
  have a2 := @Fr.at.c2 a w.heap.size
  have a3 := @Fr.at.c3 a w.heap.size
  have a4 := @Fr.at.c4 a w.heap.size
  have a5 := @Fr.at.c5 a w.heap.size
  have b0 := @Fr.at.c0 b (w.heap.size + 1)
  have b1 := @Fr.at.c1 b (w.heap.size + 1)
  have b2 := @Fr.at.c2 b (w.heap.size + 1)
  have b3 := @Fr.at.c3 b (w.heap.size + 1)
  have b4 := @Fr.at.c4 b (w.heap.size + 1)
  have b5 := @Fr.at.c5 b (w.heap.size + 1)
  have hG := fun w => RRight_calls w a
  have hH := fun w => RRight_calls w b
  rw [decide_eq_false ha] at hG
  simp only [a.val_cells, b.val_cells] at *
  have HG := Lib.hid hG; clear hG
  have HH := Lib.hid hH; clear hH
  go_enter Try.func7, Try.ntmps7
  go_wp2_with fail
  generalize (w.alloc (.cells #[.int .i64 a.k, .int .i64 a.s, .int .i64 a.e, .int .i64 a.i, .int .i64 a.t, .string a.d] 23)).alloc (.cells #[.int .i64 b.k, .int .i64 b.s, .int .i64 b.e, .int .i64 b.i, .int .i64 b.t, .string b.d] 23) = w1 at *
  refine (awake_calls _).mono ?_
  rintro e' w2 ⟨rfl, hb2⟩
  have hA2 := hA1.below hb2
  have hB2 := hB1.below hb2
  have hc2 := bn hc1 hb2
  clear hA1 hB1 hc1 hb2
  go_wp2_with fail
  with_reducible refine (HG.out _).mono ?_
  rintro e' w3 ⟨rfl, hb3⟩
  have hA3 := hA2.below hb3
  have hB3 := hB2.below hb3
  have hc3 := bn hc2 hb3
  clear hA2 hB2 hc2 hb3
  go_wp2_with fail
  refine (awake_calls _).mono ?_
  rintro e' w4 ⟨rfl, hb4⟩
  have hA4 := hA3.below hb4
  have hB4 := hB3.below hb4
  have hc4 := bn hc3 hb4
  clear hA3 hB3 hc3 hb4
  go_wp2
  go_ret
  exact ⟨rfl, hc4⟩
set_option maxRecDepth 100000 in
set_option maxHeartbeats 8000000 in
theorem FrameTwo_badb (a b : Fr) (ha : a.ok) (hb : ¬ b.ok) (w : World) :
    Calls Try.prog 7 #[a.val, b.val] w fun e w' => e = .returned (.bool true) ∧ Below w.heap.size w w' := by
  obtain ⟨hA1, hB1, hc1⟩ := Fr.box2 a b w
  have a0 := @Fr.at.c0 a w.heap.size
  have a1 := @Fr.at.c1 a w.heap.size
  have a2 := @Fr.at.c2 a w.heap.size
  have a3 := @Fr.at.c3 a w.heap.size
  have a4 := @Fr.at.c4 a w.heap.size
  have a5 := @Fr.at.c5 a w.heap.size
  have b0 := @Fr.at.c0 b (w.heap.size + 1)
  have b1 := @Fr.at.c1 b (w.heap.size + 1)
  have b2 := @Fr.at.c2 b (w.heap.size + 1)
  have b3 := @Fr.at.c3 b (w.heap.size + 1)
  have b4 := @Fr.at.c4 b (w.heap.size + 1)
  have b5 := @Fr.at.c5 b (w.heap.size + 1)
  have hG := fun w => RRight_calls w a
  have hH := fun w => RRight_calls w b
  rw [decide_eq_true ha] at hG
  rw [decide_eq_false hb] at hH
  simp only [a.val_cells, b.val_cells] at *
  have HG := Lib.hid hG; clear hG
  have HH := Lib.hid hH; clear hH
  go_enter Try.func7, Try.ntmps7
  go_wp2_with fail
  generalize (w.alloc (.cells #[.int .i64 a.k, .int .i64 a.s, .int .i64 a.e, .int .i64 a.i, .int .i64 a.t, .string a.d] 23)).alloc (.cells #[.int .i64 b.k, .int .i64 b.s, .int .i64 b.e, .int .i64 b.i, .int .i64 b.t, .string b.d] 23) = w1 at *
  refine (awake_calls _).mono ?_
  rintro e' w2 ⟨rfl, hb2⟩
  have hA2 := hA1.below hb2
  have hB2 := hB1.below hb2
  have hc2 := bn hc1 hb2
  clear hA1 hB1 hc1 hb2
  go_wp2_with fail
  with_reducible refine (HG.out _).mono ?_
  rintro e' w3 ⟨rfl, hb3⟩
  have hA3 := hA2.below hb3
  have hB3 := hB2.below hb3
  have hc3 := bn hc2 hb3
  clear hA2 hB2 hc2 hb3
  go_wp2_with fail
  with_reducible refine (HH.out _).mono ?_
  rintro e' w4 ⟨rfl, hb4⟩
  have hA4 := hA3.below hb4
  have hB4 := hB3.below hb4
  have hc4 := bn hc3 hb4
  clear hA3 hB3 hc3 hb4
  go_wp2_with fail
  refine (awake_calls _).mono ?_
  rintro e' w5 ⟨rfl, hb5⟩
  have hA5 := hA4.below hb5
  have hB5 := hB4.below hb5
  have hc5 := bn hc4 hb5
  clear hA4 hB4 hc4 hb5
  go_wp2
  go_ret
  exact ⟨rfl, hc5⟩
set_option maxRecDepth 100000 in
set_option maxHeartbeats 8000000 in
theorem Two_good (a b : Fr) (ha : a.ok) (hb : b.ok) (w : World) :
    Calls Try.prog 7 #[a.val, b.val] w fun e w' => e = .returned (.bool true) ∧ Below w.heap.size w w' := by
  obtain ⟨hA1, hB1, hc1⟩ := Fr.box2 a b w
  have a0 := @Fr.at.c0 a w.heap.size
  have a1 := @Fr.at.c1 a w.heap.size
  have a2 := @Fr.at.c2 a w.heap.size
  have a3 := @Fr.at.c3 a w.heap.size
  have a4 := @Fr.at.c4 a w.heap.size
  have a5 := @Fr.at.c5 a w.heap.size
  have b0 := @Fr.at.c0 b (w.heap.size + 1)
  have b1 := @Fr.at.c1 b (w.heap.size + 1)
  have b2 := @Fr.at.c2 b (w.heap.size + 1)
  have b3 := @Fr.at.c3 b (w.heap.size + 1)
  have b4 := @Fr.at.c4 b (w.heap.size + 1)
  have b5 := @Fr.at.c5 b (w.heap.size + 1)
  have hG := fun w => RRight_calls w a
  have hH := fun w => RRight_calls w b
  rw [decide_eq_true ha] at hG
  rw [decide_eq_true hb] at hH
  obtain ⟨f, hf, ef⟩ := Fr.good ha
  obtain ⟨g, hg, eg⟩ := Fr.good hb
  have hP := fun w => Print_good w f hf
  have hQ := fun w => Print_good w g hg
  have hsz : (printB f ++ printB g).size ≤ 140737488351232 := by
    rw [ByteArray.size_append, printB_size, printB_size]; have := hf.d; have := hg.d; omega
  have hR := fun w => Read_calls w (printB f ++ printB g) hsz
  rw [read_more f hf _ (by rw [printB_size]; omega)] at hR
  simp only [zero_val] at hR
  have hlim : ¬ 9223372036854775807 < (printB f).size + (printB g).size := by
    rw [← ByteArray.size_append]; omega
  rw [← ef] at hP
  rw [← eg] at hQ
  generalize printB f = pf at *
  generalize printB g = pg at *
  clear hsz ef eg hf hg ha hb
  simp only [a.val_cells, b.val_cells] at *
  have HG := Lib.hid hG; clear hG
  have HH := Lib.hid hH; clear hH
  have HP := Lib.hid hP; clear hP
  have HQ := Lib.hid hQ; clear hQ
  have HR := Lib.hid hR; clear hR
  go_enter Try.func7, Try.ntmps7
  go_wp2_with fail
  generalize (w.alloc (.cells #[.int .i64 a.k, .int .i64 a.s, .int .i64 a.e, .int .i64 a.i, .int .i64 a.t, .string a.d] 23)).alloc (.cells #[.int .i64 b.k, .int .i64 b.s, .int .i64 b.e, .int .i64 b.i, .int .i64 b.t, .string b.d] 23) = w1 at *
  refine (awake_calls _).mono ?_
  rintro e' w2 ⟨rfl, hb2⟩
  have hA2 := hA1.below hb2
  have hB2 := hB1.below hb2
  have hc2 := bn hc1 hb2
  clear hA1 hB1 hc1 hb2
  go_wp2_with fail
  with_reducible refine (HG.out _).mono ?_
  rintro e' w3 ⟨rfl, hb3⟩
  have hA3 := hA2.below hb3
  have hB3 := hB2.below hb3
  have hc3 := bn hc2 hb3
  clear hA2 hB2 hc2 hb3
  go_wp2_with fail
  with_reducible refine (HH.out _).mono ?_
  rintro e' w4 ⟨rfl, hb4⟩
  have hA4 := hA3.below hb4
  have hB4 := hB3.below hb4
  have hc4 := bn hc3 hb4
  clear hA3 hB3 hc3 hb4
  go_wp2_with fail
  with_reducible refine (HP.out _).mono ?_
  rintro e' w5 ⟨rfl, hb5⟩
  have hA5 := hA4.below hb5
  have hB5 := hB4.below hb5
  have hc5 := bn hc4 hb5
  clear hA4 hB4 hc4 hb5
  go_wp2_with fail
  with_reducible refine (HQ.out _).mono ?_
  rintro e' w6 ⟨rfl, hb6⟩
  have hA6 := hA5.below hb6
  have hB6 := hB5.below hb6
  have hc6 := bn hc5 hb6
  clear hA5 hB5 hc5 hb6
  go_wp2_with fail
  with_reducible refine (HR.out _).mono ?_
  rintro e' w7 ⟨rfl, hb7⟩
  have hA7 := hA6.below hb7
  have hB7 := hB6.below hb7
  have hc7 := bn hc6 hb7
  clear hA6 hB6 hc6 hb7
  go_wp2
  go_ret
  exact ⟨rfl, hc7.alloc hc7.size _⟩
theorem FrameTwo_walk (a b : Fr) (w : World) :
    Calls Try.prog 7 #[a.val, b.val] w fun e w' => e = .returned (.bool true) ∧ Below w.heap.size w w' := by
  by_cases ha : a.ok
  · by_cases hb : b.ok
    · exact Two_good a b ha hb w
    · exact FrameTwo_badb a b ha hb w
  · exact FrameTwo_bada a b ha w
set_option maxRecDepth 100000 in
set_option maxHeartbeats 8000000 in
theorem FrameFields_bada (a b : Fr) (ha : ¬ a.ok) (w : World) :
    Calls Try.prog 6 #[a.val, b.val] w fun e w' => e = .returned (.bool true) ∧ Below w.heap.size w w' := by
  obtain ⟨hA1, hB1, hc1⟩ := Fr.box2 a b w
  have a0 := @Fr.at.c0 a w.heap.size
  have a1 := @Fr.at.c1 a w.heap.size
  have a2 := @Fr.at.c2 a w.heap.size
  have a3 := @Fr.at.c3 a w.heap.size
  have a4 := @Fr.at.c4 a w.heap.size
  have a5 := @Fr.at.c5 a w.heap.size
  have b0 := @Fr.at.c0 b (w.heap.size + 1)
  have b1 := @Fr.at.c1 b (w.heap.size + 1)
  have b2 := @Fr.at.c2 b (w.heap.size + 1)
  have b3 := @Fr.at.c3 b (w.heap.size + 1)
  have b4 := @Fr.at.c4 b (w.heap.size + 1)
  have b5 := @Fr.at.c5 b (w.heap.size + 1)
  have hG := fun w => RRight_calls w a
  have hH := fun w => RRight_calls w b
  rw [decide_eq_false ha] at hG
  simp only [a.val_cells, b.val_cells] at *
  have HG := Lib.hid hG; clear hG
  have HH := Lib.hid hH; clear hH
  go_enter Try.func6, Try.ntmps6
  go_wp2_with fail
  generalize (w.alloc (.cells #[.int .i64 a.k, .int .i64 a.s, .int .i64 a.e, .int .i64 a.i, .int .i64 a.t, .string a.d] 23)).alloc (.cells #[.int .i64 b.k, .int .i64 b.s, .int .i64 b.e, .int .i64 b.i, .int .i64 b.t, .string b.d] 23) = w1 at *
  refine (awake_calls _).mono ?_
  rintro e' w2 ⟨rfl, hb2⟩
  have hA2 := hA1.below hb2
  have hB2 := hB1.below hb2
  have hc2 := bn hc1 hb2
  clear hA1 hB1 hc1 hb2
  go_wp2_with fail
  with_reducible refine (HG.out _).mono ?_
  rintro e' w3 ⟨rfl, hb3⟩
  have hA3 := hA2.below hb3
  have hB3 := hB2.below hb3
  have hc3 := bn hc2 hb3
  clear hA2 hB2 hc2 hb3
  go_wp2_with fail
  refine (awake_calls _).mono ?_
  rintro e' w4 ⟨rfl, hb4⟩
  have hA4 := hA3.below hb4
  have hB4 := hB3.below hb4
  have hc4 := bn hc3 hb4
  clear hA3 hB3 hc3 hb4
  go_wp2
  go_ret
  exact ⟨rfl, hc4⟩
set_option maxRecDepth 100000 in
set_option maxHeartbeats 8000000 in
theorem FrameFields_badb (a b : Fr) (ha : a.ok) (hb : ¬ b.ok) (w : World) :
    Calls Try.prog 6 #[a.val, b.val] w fun e w' => e = .returned (.bool true) ∧ Below w.heap.size w w' := by
  obtain ⟨hA1, hB1, hc1⟩ := Fr.box2 a b w
  have a0 := @Fr.at.c0 a w.heap.size
  have a1 := @Fr.at.c1 a w.heap.size
  have a2 := @Fr.at.c2 a w.heap.size
  have a3 := @Fr.at.c3 a w.heap.size
  have a4 := @Fr.at.c4 a w.heap.size
  have a5 := @Fr.at.c5 a w.heap.size
  have b0 := @Fr.at.c0 b (w.heap.size + 1)
  have b1 := @Fr.at.c1 b (w.heap.size + 1)
  have b2 := @Fr.at.c2 b (w.heap.size + 1)
  have b3 := @Fr.at.c3 b (w.heap.size + 1)
  have b4 := @Fr.at.c4 b (w.heap.size + 1)
  have b5 := @Fr.at.c5 b (w.heap.size + 1)
  have hG := fun w => RRight_calls w a
  have hH := fun w => RRight_calls w b
  rw [decide_eq_true ha] at hG
  rw [decide_eq_false hb] at hH
  simp only [a.val_cells, b.val_cells] at *
  have HG := Lib.hid hG; clear hG
  have HH := Lib.hid hH; clear hH
  go_enter Try.func6, Try.ntmps6
  go_wp2_with fail
  generalize (w.alloc (.cells #[.int .i64 a.k, .int .i64 a.s, .int .i64 a.e, .int .i64 a.i, .int .i64 a.t, .string a.d] 23)).alloc (.cells #[.int .i64 b.k, .int .i64 b.s, .int .i64 b.e, .int .i64 b.i, .int .i64 b.t, .string b.d] 23) = w1 at *
  refine (awake_calls _).mono ?_
  rintro e' w2 ⟨rfl, hb2⟩
  have hA2 := hA1.below hb2
  have hB2 := hB1.below hb2
  have hc2 := bn hc1 hb2
  clear hA1 hB1 hc1 hb2
  go_wp2_with fail
  with_reducible refine (HG.out _).mono ?_
  rintro e' w3 ⟨rfl, hb3⟩
  have hA3 := hA2.below hb3
  have hB3 := hB2.below hb3
  have hc3 := bn hc2 hb3
  clear hA2 hB2 hc2 hb3
  go_wp2_with fail
  with_reducible refine (HH.out _).mono ?_
  rintro e' w4 ⟨rfl, hb4⟩
  have hA4 := hA3.below hb4
  have hB4 := hB3.below hb4
  have hc4 := bn hc3 hb4
  clear hA3 hB3 hc3 hb4
  go_wp2_with fail
  refine (awake_calls _).mono ?_
  rintro e' w5 ⟨rfl, hb5⟩
  have hA5 := hA4.below hb5
  have hB5 := hB4.below hb5
  have hc5 := bn hc4 hb5
  clear hA4 hB4 hc4 hb5
  go_wp2
  go_ret
  exact ⟨rfl, hc5⟩
set_option maxRecDepth 100000 in
set_option maxHeartbeats 8000000 in
theorem Fields_good (a b : Fr) (ha : a.ok) (hb : b.ok) (w : World) :
    Calls Try.prog 6 #[a.val, b.val] w fun e w' => e = .returned (.bool true) ∧ Below w.heap.size w w' := by
  obtain ⟨hA1, hB1, hc1⟩ := Fr.box2 a b w
  have a0 := @Fr.at.c0 a w.heap.size
  have a1 := @Fr.at.c1 a w.heap.size
  have a2 := @Fr.at.c2 a w.heap.size
  have a3 := @Fr.at.c3 a w.heap.size
  have a4 := @Fr.at.c4 a w.heap.size
  have a5 := @Fr.at.c5 a w.heap.size
  have b0 := @Fr.at.c0 b (w.heap.size + 1)
  have b1 := @Fr.at.c1 b (w.heap.size + 1)
  have b2 := @Fr.at.c2 b (w.heap.size + 1)
  have b3 := @Fr.at.c3 b (w.heap.size + 1)
  have b4 := @Fr.at.c4 b (w.heap.size + 1)
  have b5 := @Fr.at.c5 b (w.heap.size + 1)
  have hG := fun w => RRight_calls w a
  have hH := fun w => RRight_calls w b
  rw [decide_eq_true ha] at hG
  rw [decide_eq_true hb] at hH
  obtain ⟨f, hf, ef⟩ := Fr.good ha
  obtain ⟨g, hg, eg⟩ := Fr.good hb
  have hP := fun w => Print_good w f hf
  have hQ := fun w => Print_good w g hg
  have hsg := printB_size g
  have hsf := printB_size f
  have hd : f.d.size ≤ 65000 := hf.d
  have hd' : g.d.size ≤ 65000 := hg.d
  have hR := fun w => Read_calls w (printB g) (by omega)
  rw [read_print g hg, ← eg] at hR
  have efd : a.d = f.d := by rw [ef]; rfl
  have egd : b.d = g.d := by rw [eg]; rfl
  rw [← efd] at hsf hd
  rw [← egd] at hsg hd'
  have heq : printB f = printB g ↔ a = b := ⟨fun h => by rw [ef, eg, print_inj hf hg h], fun h => by rw [ef, eg] at h; rw [fr_inj h]⟩
  rw [← ef] at hP
  rw [← eg] at hQ
  have hsa : wrap64 ((printB f).size - (a.d.size : Int)) = 19 := by unfold wrap64; omega
  have hsb : wrap64 ((printB g).size - (b.d.size : Int)) = 19 := by unfold wrap64; omega
  have hse := fun (x : Bool) (hx : decide (printB f = printB g) = x) => (str_eq (printB f) (printB g)).trans hx
  have Heq := Lib.hid heq
  clear hsf hsg hd hd' heq
  generalize printB f = pf at *
  generalize printB g = pg at *
  clear efd egd ef eg hf hg ha hb
  simp only [a.val_cells, b.val_cells] at *
  have r0 := fun g w => @Fr.at.c0 b g w
  have r1 := fun g w => @Fr.at.c1 b g w
  have r2 := fun g w => @Fr.at.c2 b g w
  have r3 := fun g w => @Fr.at.c3 b g w
  have r4 := fun g w => @Fr.at.c4 b g w
  have r5 := fun g w => @Fr.at.c5 b g w
  have R0 := Lib.hid r0; have R1 := Lib.hid r1; have R2 := Lib.hid r2; have R3 := Lib.hid r3; have R4 := Lib.hid r4; have R5 := Lib.hid r5
  clear r0 r1 r2 r3 r4 r5
  have HG := Lib.hid hG; clear hG
  have HH := Lib.hid hH; clear hH
  have HP := Lib.hid hP; clear hP
  have HQ := Lib.hid hQ; clear hQ
  have HR := Lib.hid hR; clear hR
  go_enter Try.func6, Try.ntmps6
  go_wp2_with fail
  generalize (w.alloc (.cells #[.int .i64 a.k, .int .i64 a.s, .int .i64 a.e, .int .i64 a.i, .int .i64 a.t, .string a.d] 23)).alloc (.cells #[.int .i64 b.k, .int .i64 b.s, .int .i64 b.e, .int .i64 b.i, .int .i64 b.t, .string b.d] 23) = w1 at *
  refine (awake_calls _).mono ?_
  rintro e' w2 ⟨rfl, hb2⟩
  have hA2 := hA1.below hb2
  have hB2 := hB1.below hb2
  have hc2 := bn hc1 hb2
  clear hA1 hB1 hc1 hb2
  go_wp2_with fail
  with_reducible refine (HG.out _).mono ?_
  rintro e' w3 ⟨rfl, hb3⟩
  have hA3 := hA2.below hb3
  have hB3 := hB2.below hb3
  have hc3 := bn hc2 hb3
  clear hA2 hB2 hc2 hb3
  go_wp2_with fail
  with_reducible refine (HH.out _).mono ?_
  rintro e' w4 ⟨rfl, hb4⟩
  have hA4 := hA3.below hb4
  have hB4 := hB3.below hb4
  have hc4 := bn hc3 hb4
  clear hA3 hB3 hc3 hb4
  go_wp2_with fail
  with_reducible refine (HP.out _).mono ?_
  rintro e' w5 ⟨rfl, hb5⟩
  have hA5 := hA4.below hb5
  have hB5 := hB4.below hb5
  have hc5 := bn hc4 hb5
  clear hA4 hB4 hc4 hb5
  go_wp2_with fail
  with_reducible refine (HQ.out _).mono ?_
  rintro e' w6 ⟨rfl, hb6⟩
  have hA6 := hA5.below hb6
  have hB6 := hB5.below hb6
  have hc6 := bn hc5 hb6
  clear hA5 hB5 hc5 hb6
  go_wp2_with fail
  with_reducible refine (HR.out _).mono ?_
  rintro e' w7 ⟨rfl, hb7⟩
  have hA7 := hA6.below hb7
  have hB7 := hB6.below hb7
  have hc7 := bn hc6 hb7
  clear hA6 hB6 hc6 hb7
  have hb8 := (Below.refl w7.heap.size w7).alloc (Nat.le_refl _) (.cells #[.int .i64 b.k, .int .i64 b.s, .int .i64 b.e, .int .i64 b.i, .int .i64 b.t, .string b.d] 23)
  have hJ8 : b.at w7.heap.size (w7.alloc (.cells #[.int .i64 b.k, .int .i64 b.s, .int .i64 b.e, .int .i64 b.i, .int .i64 b.t, .string b.d] 23)) := (Fr.box b w7).1
  have hA8 := hA7.below hb8
  have hB8 := hB7.below hb8
  have g0 := R0.out w7.heap.size; have g1 := R1.out w7.heap.size; have g2 := R2.out w7.heap.size; have g3 := R3.out w7.heap.size; have g4 := R4.out w7.heap.size; have g5 := R5.out w7.heap.size
  have hc8 := bn hc7 hb8
  by_cases hab : a = b
  · subst hab
    have hsq := hse true (decide_eq_true (Heq.out.2 rfl))
    clear hse
    go_wp2
    go_ret
    exact ⟨rfl, hc8⟩
  · have hsq := hse false (decide_eq_false (fun h => hab (Heq.out.1 h)))
    clear hse
    go_wp2
    all_goals go_ret
    all_goals first | exact ⟨rfl, hc8⟩ | (rename_i q1 q2 q3 q4 q5 q6; exact absurd (fr_ext q1 q2 q3 q4 q5 q6) hab)
theorem FrameFields_walk (a b : Fr) (w : World) :
    Calls Try.prog 6 #[a.val, b.val] w fun e w' => e = .returned (.bool true) ∧ Below w.heap.size w w' := by
  by_cases ha : a.ok
  · by_cases hb : b.ok
    · exact Fields_good a b ha hb w
    · exact FrameFields_badb a b ha hb w
  · exact FrameFields_bada a b ha w
end Go.Proofs.Ytbpamegfohcbmaa
