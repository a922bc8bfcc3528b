/- The walks of prefix.Bit, prefix.Common. (Printed by wip/print/pfxbit.py.) -/
import Derived.Test.YtmccnmccegbdjaaDoorPfxMore
namespace Go.Proofs.YtmccnmccegbdjaaDoor
open Go.RowKit Go.Sort
set_option linter.unusedVariables false
set_option linter.unusedSimpArgs false
def bitN (A : List Nat) (i : Nat) : Nat := A.getD (i / 8) 0 / 2 ^ (7 - i % 8) % 2
def Px.bit (p : Px) (i : Int) : Int := if p.right && (decide (0 ≤ i) && decide (i < p.n)) then bitN p.A i.toNat else -1
theorem and_one_256 : ∀ y : Fin 256, bits .and .i64 ((y.val : Nat) : Int) 1 = ((y.val % 2 : Nat) : Int) := by decide +kernel
theorem and_one (x v : Nat) (hx : x < 256) : bits .and .i64 (wrap64 ((x : Int) / 2 ^ (7 - v))) 1 = ((x / 2 ^ (7 - v) % 2 : Nat) : Int) := by
  have h1 : (x : Int) / 2 ^ (7 - v) = ((x / 2 ^ (7 - v) : Nat) : Int) := by simp
  have h2 : x / 2 ^ (7 - v) < 256 := Nat.lt_of_le_of_lt (Nat.div_le_self _ _) hx
  rw [h1]
  generalize x / 2 ^ (7 - v) = y at *
  rw [show wrap64 (y : Int) = y by unfold wrap64; omega]
  exact and_one_256 ⟨y, h2⟩
theorem bitN_lt (A : List Nat) (i : Nat) : bitN A i < 2 := Nat.mod_lt _ (by omega)
set_option maxRecDepth 100000 in
set_option maxHeartbeats 4000000 in
theorem Bit_calls (w : World) (p : Px) (hp : p.wf) (i : Int) (hi1 : -9223372036854775808 ≤ i) (hi2 : i ≤ 9223372036854775807) : Calls Tryd.prog 28 #[.agg p.row, .int .i64 i] w fun e w' => e = .returned (.int .i64 (p.bit i)) ∧ Below w.heap.size w w' := by
  have hb0 := (Below.refl w.heap.size w).alloc (Nat.le_refl _) (.cells p.row 30)
  have h0 := PxAt.new w p hp.len
  have HB0 := Lib.hid hb0; have H0 := Lib.hid h0; clear hb0 h0
  obtain ⟨rr, hrr⟩ : ∃ rr, rr = p.bit i := ⟨_, rfl⟩
  rw [← hrr]
  have HRR := Lib.hid hrr; clear hrr
  have hC : p.bit i = (if p.right && (decide (0 ≤ i) && decide (i < p.n)) then ((bitN p.A i.toNat : Nat) : Int) else -1) := rfl
  have hmn := @Px.right_n p
  go_enter Tryd.func28, Tryd.ntmps28
  go_wp2_with (with_reducible refine wpList_mark (o := ⟨some 5, _, _, _, _, _⟩) ?_)
  generalize w.alloc (.cells p.row 30) = w1 at *
  refine Marked.intro ?_
  refine wpList_run rfl (exec_load_whole rfl rfl H0.out) ?_
  go_wp2_with fail
  with_reducible refine (Right_calls _ p hp).mono ?_
  rintro e w2 ⟨rfl, hb⟩
  have HB2 := Lib.hid (bn HB0.out hb); have H2 := Lib.hid (H0.out.b hb); clear hb HB0 H0
  have c2 := H2.out.len
  cases e1 : p.right with
  | false =>
    rw [e1] at hC
    have HR := Lib.hid (HRR.out.trans (hC.trans (show (if false && (decide (0 ≤ i) && decide (i < p.n)) then ((bitN p.A i.toNat : Nat) : Int) else -1) = -1 from rfl)))
    clear hC hmn
    go_wp2
    go_ret
    exact ⟨by rw [HR.out]; rfl, HB2.out⟩
  | true =>
    obtain ⟨n, hn, hn2⟩ := hmn e1
    rw [e1] at hC
    have hw := widthN_le p.six
    clear hmn
    by_cases h1 : i < 0
    · have d1 : decide (i < 0) = true := decide_eq_true h1
      have HR := Lib.hid (HRR.out.trans (hC.trans (show (if true && (decide (0 ≤ i) && decide (i < p.n)) then ((bitN p.A i.toNat : Nat) : Int) else -1) = -1 by rw [decide_eq_false (by omega)]; rfl)))
      clear hC hn
      go_wp2
      go_ret
      exact ⟨by rw [HR.out]; rfl, HB2.out⟩
    · obtain ⟨j, rfl⟩ := Int.eq_ofNat_of_zero_le (show 0 ≤ i by omega)
      have d1 : decide ((j : Int) < 0) = false := decide_eq_false h1
      rw [hn] at c2 hC
      by_cases h2 : n ≤ j
      · have d2 : decide ((n : Int) ≤ (j : Int)) = true := decide_eq_true (by omega)
        have HR := Lib.hid (HRR.out.trans (hC.trans (show (if true && (decide (0 ≤ (j : Int)) && decide ((j : Int) < (n : Int))) then ((bitN p.A (j : Int).toNat : Nat) : Int) else -1) = -1 by rw [decide_eq_false (show ¬ (j : Int) < n by omega)]; simp)))
        clear hC hn
        go_wp2
        go_ret
        exact ⟨by rw [HR.out]; rfl, HB2.out⟩
      · have d2 : decide ((n : Int) ≤ (j : Int)) = false := decide_eq_false (by omega)
        have HR := Lib.hid (HRR.out.trans (hC.trans (show (if true && (decide (0 ≤ (j : Int)) && decide ((j : Int) < (n : Int))) then ((bitN p.A (j : Int).toNat : Nat) : Int) else -1) = bitN p.A j by rw [decide_eq_true (show (j : Int) < n by omega)]; simp)))
        have hc := H2.out.byte (j / 8) (by omega)
        have hx := hp.small (j / 8)
        have hbn : bitN p.A j = p.A.getD (j / 8) 0 / 2 ^ (7 - j % 8) % 2 := rfl
        rw [hbn] at HR
        have hq : IntKind.i64.wrap ((j : Int) / 8) = ((j / 8 : Nat) : Int) := by
          rw [show (j : Int) / 8 = ((j / 8 : Nat) : Int) by simp]; exact IntWalk.i64_in _ (by omega)
        have hr : Int.tmod (j : Int) 8 = ((j % 8 : Nat) : Int) := rfl
        have hq16 : j / 8 < 16 := by omega
        have hr8 : j % 8 < 8 := by omega
        clear hC hn d1 hbn
        generalize p.A.getD (j / 8) 0 = x at *
        generalize j / 8 = u at *
        generalize j % 8 = v at *
        have huI : (u : Int) < 16 := by omega
        have ha := and_one x v hx
        go_wp2
        go_ret
        exact ⟨by rw [HR.out]; first | (rw [← ha]; rfl) | rfl, HB2.out⟩
end Go.Proofs.YtmccnmccegbdjaaDoor
