/- The walks of package link: Len, mod, Hurt, New. -/
import Derived.Test.YthnddkcicpoboaaCrcFlip
import Derived.Lib.QuietBelow
import Derived.Deep.RegionHeld3
import Derived.Deep.AppendLies
import Derived.Handy
namespace Go.Proofs.Ythnddkcicpoboaa
open Go.RowKit
set_option linter.unusedVariables false
set_option linter.unusedSimpArgs false
set_option maxHeartbeats 400000 in
theorem Len_calls (w : World) (l : Nat) (a1 a2 : Option Addr) (n m c1 c2 : Nat) (t : TypeId) (hl : w.heap[l]? = some (.cells #[.slice a1 n c1, .slice a2 m c2] t (0, 0))) (hn : n ≤ 1000000000) (hm : m ≤ 1000000000) :
   Calls Try.prog 11 #[.pointer (some ⟨l, 0, none⟩)] w fun e w' => e = .returned (.int .i64 (((n + m : Nat) : Int))) ∧ ∃ d, w' = w.drewN d := by
  have k1 : w.cell? ⟨l, 0, none⟩ = some (.slice a1 n c1) := by rw [cell_of_row w l 0 _ _ _ hl]; rfl
  have k2 : w.cell? ⟨l, 1, none⟩ = some (.slice a2 m c2) := by rw [cell_of_row w l 1 _ _ _ hl]; rfl
  clear hl
  have hs : IntKind.i64.wrap ((n : Int) + m) = (n : Int) + m := IntWalk.i64_in _ (by omega)
  go_enter Try.func11, Try.ntmps11
  go_wp2
  go_quiet (fail)
  go_wp2
  go_ret
  exact ⟨by simp, _, rfl⟩
theorem Len_nil (w : World) :
   Calls Try.prog 11 #[.pointer none] w fun e w' => e = .returned (.int .i64 0) ∧ w = w' := by
  go_enter Try.func11, Try.ntmps11
  go_wp2
  go_ret
  exact ⟨rfl, rfl⟩
theorem Arrive_nil (w : World) :
   Calls Try.prog 9 #[.pointer none] w fun e w' => e = .returned (.tuple #[.string ⟨#[]⟩, .bool false]) ∧ w = w' := by
  go_enter Try.func9, Try.ntmps9
  go_wp2_with fail
  refine (Len_nil _).mono ?_
  rintro e w1 ⟨rfl, rfl⟩
  go_wp2
  go_ret2
  exact ⟨rfl, rfl⟩
theorem All_nil (w : World) :
   Calls Try.prog 12 #[.pointer none] w fun e w' => e = .returned (.slice none 0 0) ∧ w = w' := by
  go_enter Try.func12, Try.ntmps12
  go_wp2_with fail
  refine wp_loop_rounds 1 ?_
  go_wp2_with (first | (with_reducible refine rounds_go ?_) | (refine (Len_nil _).mono ?_; rintro e w1 ⟨rfl, rfl⟩))
  go_ret
  exact ⟨rfl, rfl⟩
theorem New_calls (w : World) :
   Calls Try.prog 13 #[] w fun e w' => e = .returned (.pointer (some ⟨w.heap.size, 0, none⟩)) ∧ w' = w.alloc (.cells #[.slice none 0 0, .slice none 0 0] 41) := by
  go_enter Try.func13, Try.ntmps13
  go_wp2
  go_ret
  exact ⟨rfl, rfl⟩
theorem Send_nil (w : World) (s : ByteArray) (k n b : Int) :
   Calls Try.prog 8 #[.pointer none, .string s, .agg #[.int .i64 k, .int .i64 n, .int .u32 b]] w fun e w' => e = .returned (.tuple #[]) ∧ Below w.heap.size w w' := by
  go_enter Try.func8, Try.ntmps8
  go_wp2
  go_returns
  exact ⟨rfl, (Below.refl _ _).alloc (Nat.le_refl _) _⟩
/-- Hurt where nothing is hurt. -/
theorem Hurt_no (w : World) (s : ByteArray) (k n b : Int) (h4 : (k == 4) = false) (h5 : (k == 5) = false) :
   Calls Try.prog 15 #[.string s, .agg #[.int .i64 k, .int .i64 n, .int .u32 b]] w fun e w' => e = .returned (.string s) ∧ Below w.heap.size w w' := by
  by_cases he : s.toList.isEmpty = true
  · go_enter Try.func15, Try.ntmps15
    go_wp2
    go_ret
    exact ⟨rfl, (Below.refl _ _).alloc (Nat.le_refl _) _⟩
  · have he2 : s.toList.isEmpty = false := by simpa using he
    clear he
    go_enter Try.func15, Try.ntmps15
    go_wp2
    go_ret
    exact ⟨rfl, (Below.refl _ _).alloc (Nat.le_refl _) _⟩
end Go.Proofs.Ythnddkcicpoboaa
