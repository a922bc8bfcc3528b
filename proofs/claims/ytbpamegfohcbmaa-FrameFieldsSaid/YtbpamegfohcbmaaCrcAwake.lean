/- awake of the crc's laws: it answers true. -/
import Derived.Test.YtbpamegfohcbmaaCrcRFlip
namespace Go.Proofs.Ytbpamegfohcbmaa
open Go.RowKit
set_option linter.unusedVariables false
def s9 : ByteArray := ⟨#[49, 50, 51, 52, 53, 54, 55, 56, 57]⟩
def s13 : ByteArray := ⟨#[49, 50, 51, 52, 53, 54, 55, 56, 57, 38, 57, 244, 203]⟩
theorem seal_s9 : sealB s9 = s13 := by kernel_rfl
theorem open_s13 : openB s13 = (s9, 0) := by
  unfold openB
  rw [if_neg (by decide), if_pos (by kernel_rfl)]; kernel_rfl
theorem open_flip : (openB ⟨(flipL s13.data.toList 7 5).toArray⟩).2 = 5 := by
  unfold openB
  rw [if_neg (by decide +kernel), if_neg (by decide +kernel)]
theorem open_abc : openB ⟨#[97, 98, 99]⟩ = (⟨#[]⟩, 3) := by kernel_rfl
theorem sum_s9 : sum s9.data.toList = 3421780262 := by kernel_rfl
theorem more_s9 : more (sum [49, 50, 51, 52, 53]) [54, 55, 56, 57] = 3421780262 := by kernel_rfl
theorem flip_0 : flipL [0] 1 1 = [2] := by kernel_rfl
theorem index_1 (w : World) : (Instr.index 54 (.agg (tcells 256)) (.int .i64 1)).run Try.prog w = .ok (.int .u32 1996959894) w := by kernel_rfl
end Go.Proofs.Ytbpamegfohcbmaa
