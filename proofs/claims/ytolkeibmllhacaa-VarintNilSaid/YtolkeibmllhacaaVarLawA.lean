/- The walk of the law VarintNil: it answers true. -/
import Derived.Test.YtolkeibmllhacaaVarAwake
namespace Go.Proofs.Ytolkeibmllhacaa
open Go.RowKit
set_option linter.unusedVariables false
set_option linter.unusedSimpArgs false
set_option maxRecDepth 100000 in
set_option maxHeartbeats 8000000 in
theorem VarintNil_walk (k n : Int) (u : Nat) (s : ByteArray) (h0 : -9223372036854775808 ≤ n) (h1 : n < 9223372036854775808) (hu : u < 18446744073709551616) (hs : s.size ≤ 9223372036854775807) (w : World) :
    Calls Try.prog 5 #[.agg #[.int .i64 k, .int .i64 n, .int .u64 u, .string s]] w fun e w' => e = .returned (.bool true) ∧ Below w.heap.size w w' := by
  have hb := (Below.refl w.heap.size w).alloc (Nat.le_refl _) (.cells #[.int .i64 k, .int .i64 n, .int .u64 u, .string s] 32)
  have hA := heap_alloc_new w (.cells #[.int .i64 k, .int .i64 n, .int .u64 u, .string s] 32)
  generalize hW : w.alloc (.cells #[.int .i64 k, .int .i64 n, .int .u64 u, .string s] 32) = w0 at *
  have c1 : w0.cell? ⟨w.heap.size, 1, none⟩ = some (.int .i64 n) := by rw [cell_of_row _ _ _ _ _ _ hA]; rfl
  have c2 : w0.cell? ⟨w.heap.size, 2, none⟩ = some (.int .u64 u) := by rw [cell_of_row _ _ _ _ _ _ hA]; rfl
  have c3 : w0.cell? ⟨w.heap.size, 3, none⟩ = some (.string s) := by rw [cell_of_row _ _ _ _ _ _ hA]; rfl
  have hlt : w.heap.size < w0.heap.size := (Array.getElem?_eq_some_iff.1 hA).1
  have HA := Lib.hid hA; clear hA
  go_enter Try.func5, Try.ntmps5
  go_wp2_with fail
  clear hW
  refine (WByte_nil _ _).mono ?_
  rintro e w' ⟨rfl, rfl⟩
  go_wp2_with fail
  refine (WUint_nil _ u hu).mono ?_
  rintro e w' ⟨rfl, rfl⟩
  go_wp2_with fail
  refine (WInt_nil _ n h0 h1).mono ?_
  rintro e w' ⟨rfl, rfl⟩
  go_wp2_with fail
  refine (WText_nil _ s hs).mono ?_
  rintro e w' ⟨rfl, rfl⟩
  go_wp2_with fail
  refine (WRaw_nil _ s).mono ?_
  rintro e w' ⟨rfl, rfl⟩
  go_wp2_with fail
  refine (awake_calls _).mono ?_
  rintro e w1 ⟨rfl, hb1⟩
  have d1 := (hb1.cell (p := ⟨w.heap.size, 1, none⟩) hlt).trans c1
  have hc1 := bn hb hb1
  clear c1 c2 c3 hb hb1 HA hlt
  go_wp2_with fail
  refine (WString_nil _).mono ?_
  rintro e w' ⟨rfl, rfl⟩
  go_wp2_with fail
  refine (Byte_nil _).mono ?_
  rintro e w' ⟨rfl, rfl⟩
  go_wp2_with fail
  refine (Uint_nil _).mono ?_
  rintro e w' ⟨rfl, rfl⟩
  go_wp2_with fail
  refine (Int_nil _).mono ?_
  rintro e w' ⟨rfl, rfl⟩
  go_wp2_with fail
  refine (Text_nil _ n).mono ?_
  rintro e w' ⟨rfl, rfl⟩
  go_wp2_with fail
  refine (Raw_nil _ n).mono ?_
  rintro e w' ⟨rfl, rfl⟩
  go_wp2_with fail
  refine (Left_nil _).mono ?_
  rintro e w' ⟨rfl, rfl⟩
  go_wp2_with fail
  refine (Err_nil _).mono ?_
  rintro e w' ⟨rfl, rfl⟩
  go_wp2_with fail
  refine (Done_nil _).mono ?_
  rintro e w' ⟨rfl, rfl⟩
  go_wp2
  go_ret
  exact ⟨rfl, hc1⟩
end Go.Proofs.Ytolkeibmllhacaa
