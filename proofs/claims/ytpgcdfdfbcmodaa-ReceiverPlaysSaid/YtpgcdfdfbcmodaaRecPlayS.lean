/- The walk of the law ReceiverPlays: what may not be played. (Printed by wip/print/recplays.py.) -/
import Derived.Test.YtpgcdfdfbcmodaaRecRef5
import Derived.Test.YtpgcdfdfbcmodaaOpenFrs
import Derived.Deep.RegionHeld
namespace Go.Proofs.Ytpgcdfdfbcmodaa
open Go.RowKit Go.Sort
set_option linter.unusedVariables false
set_option linter.unusedSimpArgs false
structure PlayR (n j : Nat) (X : Rv) : Prop where
  l : X.B.length = n
  c : X.cnt ≤ j
  d : ∀ e, X.D e ≤ j
theorem play_start (ses ep : Int) (n : Nat) : PlayR n 0 (Rv.start ses ep n) := ⟨by simp [Rv.start], Nat.le_refl _, fun _ => Nat.le_refl _⟩
theorem play_D (R : Rv) (f : Fr) (j : Nat) (hc : R.cnt ≤ j) (hd : ∀ e, R.D e ≤ j) : (R.take f).2.cnt ≤ j + 1 ∧ ∀ e, (R.take f).2.D e ≤ j + 1 := by
  unfold Rv.take
  split
  · refine ⟨Nat.succ_le_succ hc, fun e => ?_⟩
    show (if e = _ then R.D e + 1 else R.D e) ≤ _
    have := hd e
    split <;> omega
  · exact ⟨Nat.le_succ_of_le hc, fun e => Nat.le_succ_of_le (hd e)⟩
theorem PlayR.take {n j : Nat} {X : Rv} (h : PlayR n j X) (f : Fr) : PlayR n (j + 1) (X.take f).2 := by
  have hD := play_D X f j h.c h.d
  refine ⟨?_, hD.1, hD.2⟩
  have := h.l; unfold Rv.take; split <;> simpa [Rv.drop, Rv.put] using this
theorem mayR_true {s e n : Int} (h : mayR s e n = true) : 0 ≤ s ∧ s < 4294967296 ∧ 0 ≤ e ∧ e < 4294967296 ∧ 1 ≤ n ∧ n ≤ 256 := by
  unfold mayR at h
  simp only [Bool.and_eq_true, decide_eq_true_eq] at h
  omega
set_option maxRecDepth 100000 in
set_option maxHeartbeats 16000000 in
theorem ReceiverPlays_short (ses ep tot : Int) (n : Nat) (adx : Option Addr) (capx : Nat) (w : World) (hsh : 200 < n ∨ mayR ses ep tot = false) :
    Calls Try.prog 7 #[.int .i64 ses, .int .i64 ep, .int .i64 tot, .slice adx n capx] w fun e w' => e = .returned (.bool true) ∧ Below w.heap.size w w' := by
  by_cases h200 : 200 < n
  · have d1 : decide (200 < (n : Int)) = true := decide_eq_true (by omega)
    clear hsh
    go_enter Try.func7, Try.ntmps7
    go_wp2_with fail
    refine (awake_calls _).mono ?_
    rintro e w1 ⟨rfl, hb1⟩
    go_wp2_with fail
    refine (awake_calls _).mono ?_
    rintro e w2 ⟨rfl, hb2⟩
    go_wp2
    go_ret
    exact ⟨rfl, bn hb1 hb2⟩
  · have d1 : decide (200 < (n : Int)) = false := decide_eq_false (by omega)
    have hmay : mayR ses ep tot = false := by
      rcases hsh with h | h
      · omega
      · exact h
    have hm := fun w => QMay_calls w ses ep tot
    rw [hmay] at hm
    have hnb := fun w => RNew_bad w ses ep tot hmay
    have HM := Lib.hid hm; have HNB := Lib.hid hnb
    clear hsh hm hnb hmay
    go_enter Try.func7, Try.ntmps7
    go_wp2_with fail
    refine (awake_calls _).mono ?_
    rintro e w1 ⟨rfl, hb1⟩
    go_wp2_with fail
    refine (HNB.out _).mono ?_
    rintro e w3 ⟨rfl, hb3⟩
    have HB3 := Lib.hid (bn hb1 hb3)
    clear hb1 hb3
    go_wp2_with fail
    refine (HM.out _).mono ?_
    rintro e w4 ⟨rfl, rfl⟩
    go_wp2
    go_ret
    exact ⟨rfl, HB3.out⟩
end Go.Proofs.Ytpgcdfdfbcmodaa
