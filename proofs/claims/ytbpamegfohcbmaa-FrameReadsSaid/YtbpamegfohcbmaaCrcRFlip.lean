/- The walk of the reference's Flip. -/
import Derived.Test.YtbpamegfohcbmaaCrcFlip
namespace Go.Proofs.Ytbpamegfohcbmaa
open Go.RowKit
set_option linter.unusedVariables false
theorem bit_rem (b k : Nat) : ((b : Int) / 2 ^ k).tmod 2 = (((b.testBit k).toNat : Nat) : Int) := by
  have e : (b : Int) / 2 ^ k = ((b / 2 ^ k : Nat) : Int) := by simp
  rw [e, Nat.toNat_testBit, Int.tmod_eq_emod_of_nonneg (Int.natCast_nonneg _)]; omega
end Go.Proofs.Ytbpamegfohcbmaa
