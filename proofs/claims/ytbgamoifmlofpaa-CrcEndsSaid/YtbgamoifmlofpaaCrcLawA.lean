/- The walks of the crc's laws: each answers true. -/
import Derived.Test.YtbgamoifmlofpaaCrcPlain
import Derived.Lib.QuietBelow
import Derived.OpenShut
namespace Go.Proofs.Ytbgamoifmlofpaa
open Go.RowKit
set_option linter.unusedVariables false
theorem index_tab (T : TypeId) (k : IntKind) (j : Nat) (hj : j < 256) (hT : Try.prog.underlying T = some (.array 256 29)) (w : World) :
    (Instr.index T (.agg (tcells 256)) (.int k j)).run Try.prog w = .ok (.int .u32 (tab j : Nat)) w := by
  have h1 : (0 : Int) ≤ j ∧ (j : Int) < (256 : Nat) := by omega
  have hs : (sizeOf 29).run Try.prog w = .ok 1 w := by kernel_rfl
  have _ha : (isAgg 29).run Try.prog w = .ok false w := by kernel_rfl
  simp [Instr.index, asIntOf, run_underlying hT, h1, hs, part, tcells_get _ _ hj, tcell, hj, Sem.run_bind, Sem.run_pure]
set_option maxRecDepth 100000 in
set_option maxHeartbeats 2000000 in
theorem CrcSums_walk (a0 : ByteArray) (a1 : Int) (w0 : a0.size ≤ 140737488351232) (w1 : (Lit.int .u8 a1).wf = true) (w : World) :
    Calls Try.prog 3 #[.string a0, .int .u8 a1] w fun e w' => e = .returned (.bool true) ∧ Below w.heap.size w w' := by
  obtain ⟨b0, b1⟩ := bounds_u8 w1
  obtain ⟨b, rfl⟩ := Int.eq_ofNat_of_zero_le b0
  have hw64 : IntKind.i64.wrap (b : Int) = b := Go.IntWalk.i64_in _ (by omega)
  have hix := fun w => index_tab 31 .u8 b (by omega) Try.underlying31 w
  by_cases hbig : 3000 < a0.size
  · go_enter Try.func3, Try.ntmps3
    go_wp2_with fail
    refine (awake_calls _).mono ?_
    rintro e w1 ⟨rfl, hb1⟩
    go_wp2_with fail
    refine (awake_calls _).mono ?_
    rintro e w2 ⟨rfl, hb2⟩
    go_wp2
    go_ret
    exact ⟨rfl, bn hb1 hb2⟩
  · go_enter Try.func3, Try.ntmps3
    go_wp2_with fail
    refine (awake_calls _).mono ?_
    rintro e w1 ⟨rfl, hb1⟩
    go_wp2_with fail
    refine (Seal_calls _ a0 (by omega)).mono ?_
    rintro e w2 ⟨rfl, hb2⟩
    go_wp2_with fail
    refine (Open_calls _ (sealB a0) (by rw [sealB_size]; omega)).mono ?_
    rintro e w3 ⟨rfl, hb3⟩
    rw [open_seal]
    go_wp2_with fail
    refine (Open_calls _ a0 (by omega)).mono ?_
    rintro e w4 ⟨rfl, hb4⟩
    go_wp2_with fail
    refine (ROpen_calls _ a0 (by omega)).mono ?_
    rintro e w5 ⟨rfl, hb5⟩
    go_wp2
    refine wp_region_quiet_below (by kernel_rfl) (by kernel_rfl) ?_
    quiet_step (fail)
    quiet_step ((with_reducible exact Calls.regrown_of (Sum_calls _ _ (by unfold maxLen; omega))))
    quiet_step (fail)
    quiet_step ((with_reducible exact Calls.regrown_of (Calls.below_of_same (RSum_calls _ _ (by unfold maxLen; omega)))))
    quiet_step (fail)
    quiet_step (fail)
    quiet_step (fail)
    quiet_step ((with_reducible exact Calls.regrown_of (Seal_calls _ _ (by omega))))
    quiet_step (fail)
    quiet_step ((with_reducible exact Calls.regrown_of (RSeal_calls _ _ (by omega))))
    quiet_step (fail)
    quiet_step (fail)
    quiet_step (fail)
    repeat (quiet_step (fail))
    quiet_step ((with_reducible exact Calls.regrown_of (Table_calls _)))
    repeat (quiet_step (fail))
    quiet_step ((with_reducible exact Calls.regrown_of (Calls.below_of_same (Row_calls _ b (by omega)))))
    repeat (quiet_step (fail))
    refine wpQuiet_nil ?_
    rintro w' ⟨p, rfl⟩
    have hb6 := below_regrown w5 p.d p.os
    generalize Go.Sort.grow (redrawn w5 p.d) p.os = w6 at hb6 ⊢
    go_wp2
    go_ret
    exact ⟨rfl, bn (bn (bn (bn (bn hb1 hb2) hb3) hb4) hb5) hb6⟩
end Go.Proofs.Ytbgamoifmlofpaa
