/- awake of the crc's laws: it answers true. -/
import Derived.Test.YtbgamoifmlofpaaCrcRFlip
namespace Go.Proofs.Ytbgamoifmlofpaa
open Go.RowKit
set_option linter.unusedVariables false
def s9 : ByteArray := ⟨#[49, 50, 51, 52, 53, 54, 55, 56, 57]⟩
def s13 : ByteArray := ⟨#[49, 50, 51, 52, 53, 54, 55, 56, 57, 38, 57, 244, 203]⟩
theorem seal_s9 : sealB s9 = s13 := by kernel_rfl
theorem open_s13 : openB s13 = (s9, 0) := by
  unfold openB
  rw [if_neg (by decide), if_pos (by kernel_rfl)]; kernel_rfl
theorem open_flip : (openB ⟨(flipL s13.data.toList 7 5).toArray⟩).2 = 5 := by
  unfold openB
  rw [if_neg (by decide +kernel), if_neg (by decide +kernel)]
theorem open_abc : openB ⟨#[97, 98, 99]⟩ = (⟨#[]⟩, 3) := by kernel_rfl
theorem sum_s9 : sum s9.data.toList = 3421780262 := by kernel_rfl
theorem more_s9 : more (sum [49, 50, 51, 52, 53]) [54, 55, 56, 57] = 3421780262 := by kernel_rfl
theorem flip_0 : flipL [0] 1 1 = [2] := by kernel_rfl
theorem index_1 (w : World) : (Instr.index 31 (.agg (tcells 256)) (.int .i64 1)).run Try.prog w = .ok (.int .u32 1996959894) w := by kernel_rfl
set_option maxRecDepth 100000 in
set_option maxHeartbeats 1000000 in
theorem awake_calls (w : World) :
   Calls Try.prog 11 #[] w fun e w' => e = .returned (.bool true) ∧ Below w.heap.size w w' := by
  go_enter Try.func11, Try.ntmps11
  go_wp2_with fail
  refine (Seal_calls _ s9 (by decide)).mono ?_
  rintro e w1 ⟨rfl, hb1⟩
  rw [seal_s9]
  go_wp2_with fail
  refine (Open_calls _ s13 (by decide)).mono ?_
  rintro e w2 ⟨rfl, hb2⟩
  rw [open_s13]
  go_wp2_with fail
  refine (Flip_calls _ s13 7 5 (by omega) (by decide) (by omega) (by omega)).mono ?_
  rintro e w3 ⟨rfl, hb3⟩
  generalize hF : (⟨(flipL s13.data.toList 7 5).toArray⟩ : ByteArray) = F
  have HF := Lib.hid hF; clear hF
  go_wp2_with fail
  refine (Open_calls _ F (by rw [← HF.out]; decide +kernel)).mono ?_
  rintro e w4 ⟨rfl, hb4⟩
  rw [show (openB F).2 = 5 from by rw [← HF.out]; exact open_flip]
  go_wp2_with fail
  refine (Open_calls _ ⟨#[97, 98, 99]⟩ (by decide)).mono ?_
  rintro e w5 ⟨rfl, hb5⟩
  rw [open_abc]
  go_wp2_with fail
  refine (Sum_calls _ s9 (by decide)).mono ?_
  rintro e w6 ⟨rfl, hb6⟩
  rw [sum_s9]
  have q1 : s13.toList = [49, 50, 51, 52, 53, 54, 55, 56, 57, 38, 57, 244, 203] := by rw [ByteArray.toList_eq]; rfl
  have q2 : s9.toList = [49, 50, 51, 52, 53, 54, 55, 56, 57] := by rw [ByteArray.toList_eq]; rfl
  go_wp2_with fail
  refine (Table_calls _).mono ?_
  rintro e w7 ⟨rfl, hb7⟩
  have ix := index_1
  go_wp2_with fail
  refine (Sum_calls _ ⟨#[49, 50, 51, 52, 53]⟩ (by decide)).mono ?_
  rintro e w8 ⟨rfl, hb8⟩
  go_wp2_with fail
  refine (More_calls _ (sum [49, 50, 51, 52, 53]) ⟨#[54, 55, 56, 57]⟩ (sum_lt _) (by decide)).mono ?_
  rintro e w9 ⟨rfl, hb9⟩
  rw [more_s9]
  go_wp2_with fail
  refine (Flip_calls _ ⟨#[0]⟩ 1 1 (by omega) (by decide) (by omega) (by omega)).mono ?_
  rintro e w10 ⟨rfl, hb10⟩
  rw [show flipL (⟨#[0]⟩ : ByteArray).data.toList 1 1 = [2] from flip_0]
  go_wp2
  go_ret
  exact ⟨rfl, bn (bn (bn (bn (bn (bn (bn (bn (bn hb1 hb2) hb3) hb4) hb5) hb6) hb7) hb8) hb9) hb10⟩
end Go.Proofs.Ytbgamoifmlofpaa
