/- The walk of the function value that ReceiverOrder takes by. -/
import Derived.Test.YtpgcdfdfbcmodaaRecLawC
namespace Go.Proofs.Ytpgcdfdfbcmodaa
open Go.RowKit
set_option linter.unusedVariables false
set_option linter.unusedSimpArgs false
set_option maxHeartbeats 8000000 in
set_option maxRecDepth 100000 in
theorem take_one (w : World) (R : Rv) (a : Ra) (b1 b2 b3 g o i n cap : Nat) (c : ByteArray) (h : RvAt R a w) (hcnt : R.cnt < 1000000) (hd : ∀ e, R.D e < 1000000)
    (q1 : w.cell? ⟨b1, 0, none⟩ = some (.pointer (some ⟨a.g, 0, none⟩))) (q2 : w.cell? ⟨b2, 0, none⟩ = some (.int .i64 n)) (q3 : w.cell? ⟨b3, 0, none⟩ = some (.slice (some ⟨g, o, none⟩) n cap))
    (hi : i < n) (q4 : w.cell? ⟨g, o + i, none⟩ = some (.string c)) :
    Calls Try.prog 30 #[.int .i64 i, .pointer (some ⟨b1, 0, none⟩), .pointer (some ⟨b2, 0, none⟩), .pointer (some ⟨b3, 0, none⟩)] w fun e w' => e = .returned (.tuple #[]) ∧ RvAt (R.take ⟨1, 1, 2, i, n, c⟩).2 a w' ∧ Chg a.all w w' := by
  have HT := Lib.hid (fun w' h => Take_calls w' R a ⟨1, 1, 2, i, n, c⟩ h hcnt hd)
  have k1 := cell_regrown q1
  have k2 := cell_regrown q2
  have k3 := cell_regrown q3
  have k4 := cell_regrown q4
  have H := Lib.hid h
  have hiI : (i : Int) < (n : Int) := by omega
  clear q1 q2 q3 q4 h hd
  go_enter Try.func30, Try.ntmps30
  go_wp2_with fail
  refine Lib.wp_region_below_tail 8 (by kernel_rfl) (by kernel_rfl) ?_
  simp only [List.take_succ_cons, List.take_zero, List.drop_succ_cons, List.drop_zero]
  repeat (quiet_step (fail))
  refine wpQuiet_nil ?_
  intro w2 hw'
  have hb2 : Below w.heap.size w w2 := by obtain ⟨p, rfl⟩ := hw'; exact below_regrown w _ _
  clear hw' k1 k2 k3 k4
  have H2 := Lib.hid (H.out.below hb2 (Nat.le_refl _))
  have HC := Lib.hid (Chg.of_below (K := a.all) hb2)
  clear hb2
  go_wp2_with fail
  refine (HT.out _ H2.out).mono ?_
  rintro e w3 ⟨rfl, hv, hc⟩
  have HV := Lib.hid hv; have HC3 := Lib.hid (HC.out.trans hc)
  clear hv hc
  go_wp2
  go_returns
  exact ⟨rfl, HV.out, HC3.out⟩
end Go.Proofs.Ytpgcdfdfbcmodaa
