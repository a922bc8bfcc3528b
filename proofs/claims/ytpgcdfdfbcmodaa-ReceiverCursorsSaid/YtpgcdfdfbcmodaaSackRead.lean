/- The walks of package sack: Base, Full, Count, Copy. -/
import Derived.Test.YtpgcdfdfbcmodaaSackSet
import Derived.Lib.QuietBelow
namespace Go.Proofs.Ytpgcdfdfbcmodaa
open Go.RowKit
set_option linter.unusedVariables false
set_option linter.unusedSimpArgs false
set_option maxRecDepth 100000 in
set_option maxHeartbeats 2000000 in
theorem Base_calls (w : World) (g : Nat) (B : List Bool) (h : Mp B g w) :
   Calls Try.prog 46 #[.pointer (some ⟨g, 0, none⟩)] w fun e w' => e = .returned (.int .i64 (baseB B : Nat)) ∧ w = w' := by
  have hle := h.le
  have hbl := baseB_le B
  have hhas := fun w i h => Has_calls w g B i h
  have H := Lib.hid h; clear h
  have HH := Lib.hid hhas; clear hhas
  go_enter Try.func46, Try.ntmps46
  go_wp2
  go_loopw [3] (fun i wr => ∃ (j : Nat), j ≤ baseB B ∧ i = .int .i64 j ∧ wr = w) (fun i _ => baseB B - (intOf i).toNat)
  case atStart => exact ⟨0, by omega, rfl, rfl⟩
  case round =>
    obtain ⟨j, hj, rfl, rfl⟩ := hrel
    go_wp2_with fail
    with_reducible refine (HH.out _ _ H.out).mono ?_
    rintro e w1 ⟨rfl, rfl⟩
    rw [hasB_nat]
    by_cases hlt : j < baseB B
    · rw [baseB_below B j hlt]
      go_wp2
      exact ⟨⟨j + 1, by omega, rfl, trivial⟩, by simp only [intOf]; omega⟩
    · obtain rfl : j = baseB B := by omega
      rw [baseB_at]
      go_wp2
      go_ret
      exact ⟨rfl, rfl⟩
set_option maxRecDepth 100000 in
set_option maxHeartbeats 2000000 in
theorem Base_nil (w : World) :
   Calls Try.prog 46 #[.pointer none] w fun e w' => e = .returned (.int .i64 0) ∧ w = w' := by
  go_enter Try.func46, Try.ntmps46
  go_wp2
  go_loopw [3] (fun i wr => i = .int .i64 0 ∧ wr = w) (fun i _ => 0)
  case atStart => exact ⟨rfl, rfl⟩
  case round =>
    obtain ⟨rfl, rfl⟩ := hrel
    go_wp2_with fail
    refine (Has_nil _ _).mono ?_
    rintro e w1 ⟨rfl, rfl⟩
    go_wp2
    go_ret
    exact ⟨rfl, rfl⟩
set_option maxRecDepth 100000 in
set_option maxHeartbeats 2000000 in
theorem Full_calls (w : World) (g : Nat) (B : List Bool) (h : Mp B g w) :
   Calls Try.prog 51 #[.pointer (some ⟨g, 0, none⟩)] w fun e w' => e = .returned (.bool (decide (baseB B = B.length))) ∧ Below w.heap.size w w' := by
  have hbase := fun w h => Calls.below_of_same (Base_calls w g B h)
  have q0 := cell_regrown h.len
  have hq : ∀ d os, Mp B g (Go.Sort.grow (redrawn w d) os) := fun d os => h.below (below_regrown w d os)
  have H := Lib.hid hq; clear hq h
  have HB := Lib.hid hbase; clear hbase
  go_enter Try.func51, Try.ntmps51
  go_wp2_with fail
  refine wp_region_quiet_below (by kernel_rfl) (by kernel_rfl) ?_
  repeat (quiet_step ((with_reducible exact Calls.regrown_of (HB.out _ (H.out _ _)))))
  refine wpQuiet_nil ?_
  rintro w' ⟨p, rfl⟩
  have hb := below_regrown w p.d p.os
  generalize Go.Sort.grow (redrawn w p.d) p.os = w1 at hb ⊢
  go_wp2
  go_ret
  have e : (((baseB B : Nat) : Int) == ((B.length : Nat) : Int)) = decide (baseB B = B.length) := by
    by_cases h : baseB B = B.length
    · simp [h]
    · rw [decide_eq_false h]; simp; omega
  exact ⟨by show Ending.returned (.bool _) = _; rw [← e], hb⟩
set_option maxRecDepth 100000 in
set_option maxHeartbeats 2000000 in
theorem Full_nil (w : World) :
   Calls Try.prog 51 #[.pointer none] w fun e w' => e = .returned (.bool false) ∧ Below w.heap.size w w' := by
  go_enter Try.func51, Try.ntmps51
  go_wp2_with fail
  refine wp_region_quiet_below (by kernel_rfl) (by kernel_rfl) ?_
  repeat (quiet_step (fail))
  refine wpQuiet_nil ?_
  rintro w' ⟨p, rfl⟩
  have hb := below_regrown w p.d p.os
  generalize Go.Sort.grow (redrawn w p.d) p.os = w1 at hb ⊢
  go_wp2
  go_ret
  exact ⟨rfl, hb⟩
theorem index_arr (cs : Array Value) (v : Value) (j : Nat) (hj : j < 4) (hg : cs[j]? = some v) (w : World) :
    (Instr.index 95 (.agg cs) (.int .i64 j)).run Try.prog w = .ok v w := by
  have h1 : (0 : Int) ≤ j ∧ (j : Int) < (4 : Nat) := by omega
  have hs : (sizeOf 59).run Try.prog w = .ok 1 w := by kernel_rfl
  have _ha : (isAgg 59).run Try.prog w = .ok false w := by kernel_rfl
  simp [Instr.index, asIntOf, run_underlying Try.underlying95, h1, hs, part, hg, Sem.run_bind, Sem.run_pure]
  exact fun h => absurd hj (by omega)
theorem words_get (B : List Bool) (j : Nat) (hj : j < 4) : (#[.int .u64 (wd B 0 : Nat), .int .u64 (wd B 1 : Nat), .int .u64 (wd B 2 : Nat), .int .u64 (wd B 3 : Nat)] : Array Value)[j]? = some (.int .u64 (wd B j : Nat)) := by
  match j, hj with
  | 0, _ => rfl
  | 1, _ => rfl
  | 2, _ => rfl
  | 3, _ => rfl
def sumW (B : List Bool) : Nat → Nat
  | 0 => 0
  | j + 1 => sumW B j + pop 64 (wd B j)
theorem sumW_le (B : List Bool) : ∀ j, sumW B j ≤ 64 * j
  | 0 => Nat.le_refl _
  | j + 1 => by have := sumW_le B j; have := pop_le 64 (wd B j); simp only [sumW]; omega
set_option maxRecDepth 100000 in
set_option maxHeartbeats 2000000 in
theorem Count_calls (w : World) (g : Nat) (B : List Bool) (h : Mp B g w) :
   Calls Try.prog 28 #[.pointer (some ⟨g, 0, none⟩)] w fun e w' => e = .returned (.int .i64 (B.count true : Nat)) ∧ w = w' := by
  have hcw := count_words B h.le
  have c0 := h.word 0 (by omega)
  have c1 := h.word 1 (by omega)
  have c2 := h.word 2 (by omega)
  have c3 := h.word 3 (by omega)
  obtain ⟨sm, hs0, hst, hs4, hsl⟩ : ∃ sm : Nat → Nat, sm 0 = 0 ∧ (∀ j, sm (j + 1) = sm j + pop 64 (wd B j)) ∧ sm 4 = B.count true ∧ ∀ j, sm j ≤ 64 * j :=
    ⟨sumW B, rfl, fun _ => rfl, by rw [← hcw]; simp [sumW], sumW_le B⟩
  have Hs0 := Lib.hid hs0; clear hs0 hcw
  have Hs4 := Lib.hid hs4; clear hs4
  have Hst := Lib.hid hst; clear hst
  have Hsl := Lib.hid hsl; clear hsl
  clear h
  have hcs := words_get B
  have Hcs := Lib.hid hcs; clear hcs
  go_wp2
  generalize (#[.int .u64 (wd B 0 : Nat), .int .u64 (wd B 1 : Nat), .int .u64 (wd B 2 : Nat), .int .u64 (wd B 3 : Nat)] : Array Value) = cs at *
  clear c0 c1 c2 c3
  go_loopw [2, 11] (fun n i wr => ∃ (j : Nat), j ≤ 4 ∧ n = .int .i64 (sm j : Nat) ∧ i = .int .i64 j ∧ wr = w) (fun _ i _ => 4 - (intOf i).toNat)
  case atStart => exact ⟨0, by omega, by rw [Hs0.out]; rfl, rfl, rfl⟩
  case round =>
    obtain ⟨j, hj, rfl, rfl, rfl⟩ := hrel
    by_cases hlt : j < 4
    · have hcj := Hcs.out j hlt
      have hxl := wd_lt B j
      have hstj := Hst.out j
      have hz := Hsl.out (j + 1)
      have hpl := pop_le 64 (wd B j)
      clear Hst Hcs Hsl Hs4
      generalize wd B j = x at *
      have hix := fun w => index_arr cs _ j hlt hcj w
      clear hcj
      have hx : ((sm j : Nat) : Int) + ((pop 64 x : Nat) : Int) = ((sm (j + 1) : Nat) : Int) := by rw [hstj]; rfl
      clear hstj
      obtain ⟨s', hs'⟩ : ∃ s', sm (j + 1) = s' := ⟨_, rfl⟩
      rw [hs'] at hx hz
      have Hs' := Lib.hid hs'; clear hs'
      generalize sm j = s at *
      have hones := fun w => Ones_calls w x hxl
      have HO := Lib.hid hones; clear hones
      generalize pop 64 x = p at *
      go_wp2_with fail
      with_reducible refine (HO.out _).mono ?_
      rintro e w1 ⟨rfl, rfl⟩
      have hs256 : s' ≤ 256 := by omega
      go_wp2
      exact ⟨⟨j + 1, by omega, by rw [Hs'.out], rfl, trivial⟩, by simp only [intOf]; omega⟩
    · obtain rfl : j = 4 := by omega
      go_wp2
      go_ret
      exact ⟨by show Ending.returned (.int .i64 _) = _; rw [← Hs4.out], rfl⟩
end Go.Proofs.Ytpgcdfdfbcmodaa
