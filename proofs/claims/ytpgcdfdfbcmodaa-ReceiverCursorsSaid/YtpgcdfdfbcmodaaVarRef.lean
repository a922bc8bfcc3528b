/- The walks of the reference's Number, Int and Text. -/
import Derived.Test.YtpgcdfdfbcmodaaVarInt
import Derived.Deep.RegionLaw
namespace Go.Proofs.Ytpgcdfdfbcmodaa
open Go.RowKit
set_option linter.unusedVariables false
set_option linter.unusedSimpArgs false
theorem one_byte (W : World) (g : Nat) (x : UInt8) (h : W.cell? ⟨g, 0, none⟩ = some (.int .u8 (x.toNat : Int))) :
    (convert 62 9 (.slice (some ⟨g, 0, none⟩) 1 1)).run Try.prog W = .ok (.string (bstr [x])) W :=
  run_convert_bytes_back (P := Try.prog) W 62 9 5 ⟨g, 0, none⟩ 1 [x] Try.underlying62 Try.underlying5 Try.underlying9 (fun j hj => by
    obtain rfl : j = 0 := by simp at hj; omega
    exact h)
theorem bstr_append (a b : List UInt8) : bstr a ++ bstr b = bstr (a ++ b) := by
  apply ByteArray.ext; simp [bstr]
set_option maxHeartbeats 2000000 in
theorem Number_small (n : Nat) (h : n < 128) (w : World) :
    Calls Try.prog 55 #[.int .u64 n] w fun e w' => e = .returned (.string (bstr (numL n))) ∧ Below w.heap.size w w' := by
  have hb := (Below.refl w.heap.size w).alloc (Nat.le_refl _) (.cells #[.int .u8 (n : Int)] 5)
  have hlt : (n : Int) < 128 := by omega
  have hc := one_byte (w.alloc (.cells #[.int .u8 (n : Int)] 5)) w.heap.size (UInt8.ofNat n) (by rw [World.cell?_alloc_new]; simp [UInt8.toNat_ofNat']; omega)
  rw [numL_small n h]
  have HB := Lib.hid hb; clear hb
  go_enter Try.func55, Try.ntmps55
  go_wp2
  go_ret
  exact ⟨rfl, HB.out⟩
theorem cell_new {w w1 : World} {x : Value} {t : TypeId} (h : Below (w.alloc (.cells #[x] t)).drew.heap.size (w.alloc (.cells #[x] t)).drew w1) : w1.cell? ⟨w.heap.size, 0, none⟩ = some x := by
  rw [h.cell (p := ⟨w.heap.size, 0, none⟩) (by show w.heap.size < (w.alloc (.cells #[x] t)).heap.size; simp)]
  show (w.alloc (.cells #[x] t)).cell? _ = _
  rw [World.cell?_alloc_new]; rfl
set_option maxHeartbeats 4000000 in
theorem Number_calls (n : Nat) (hn : n < 18446744073709551616) (w : World) :
    Calls Try.prog 55 #[.int .u64 n] w fun e w' => e = .returned (.string (bstr (numL n))) ∧ Below w.heap.size w w' := by
  induction n using Nat.strongRecOn generalizing w with
  | _ n ih =>
    by_cases h : n < 128
    · exact Number_small n h w
    have hih := fun w => ih (n / 128) (by omega) (by omega) w
    have HIH := Lib.hid hih; clear hih ih
    have hge : ¬ (n : Int) < 128 := by omega
    have hx : ((UInt8.ofNat (n % 128 + 128)).toNat : Int) = IntKind.u8.wrap (IntKind.u8.wrap ((n : Int).tmod 128) + 128) := by
      rw [Int.tmod_eq_emod_of_nonneg (by omega), IntKind.wrap_u8, IntKind.wrap_u8, UInt8.toNat_ofNat']; omega
    have hwr : IntKind.u64.wrap ((n : Int) / 128) = ((n / 128 : Nat) : Int) := by rw [IntKind.wrap_u64]; omega
    have h10 := numL_64 (n / 128) (by omega)
    have hsz : ¬ 9223372036854775807 < (bstr [UInt8.ofNat (n % 128 + 128)]).size + (bstr (numL (n / 128))).size := by rw [bstr_size, bstr_size]; simp; omega
    have hcv : ∀ (W : World) (g : Nat), W.cell? ⟨g, 0, none⟩ = some (.int .u8 (IntKind.u8.wrap (IntKind.u8.wrap ((n : Int).tmod 128) + 128))) →
        (convert 62 9 (.slice (some ⟨g, 0, none⟩) 1 1)).run Try.prog W = .ok (.string (bstr [UInt8.ofNat (n % 128 + 128)])) W := fun W g hc => one_byte W g _ (by rw [hx]; exact hc)
    have happ : bstr (numL n) = bstr [UInt8.ofNat (n % 128 + 128)] ++ bstr (numL (n / 128)) := by rw [numL_big n h, bstr_append]; rfl
    have Happ := Lib.hid happ; clear happ
    have Hwr := Lib.hid hwr; clear hwr
    rw [Happ.out]
    clear h10 hx Happ
    generalize bstr [UInt8.ofNat (n % 128 + 128)] = S1 at *
    generalize bstr (numL (n / 128)) = S2 at *
    have hb0 := (Below.refl w.heap.size w).drew
    have hb00 := ((Below.refl w.heap.size w).alloc (Nat.le_refl _) (.cells #[.int .u8 (IntKind.u8.wrap (IntKind.u8.wrap ((n : Int).tmod 128) + 128))] 5)).drew
    have HB0 := Lib.hid hb0; clear hb0
    have HB00 := Lib.hid hb00; clear hb00
    go_enter Try.func55, Try.ntmps55
    go_wp2
    go_region_law (go_simp; go_at_call 55; rw [Hwr.out]; refine (HIH.out _).mono ?_; rintro e w1 ⟨rfl, hb1⟩; (first | (have kc := cell_new hb1) | skip))
    · go_wp2
      go_ret
      exact ⟨rfl, bn HB00.out hb1⟩
    · go_wp2
      go_ret
      exact ⟨rfl, bn HB00.out hb1⟩
    · go_wp2
      go_ret
      exact ⟨rfl, (bn HB0.out hb1).alloc (bn HB0.out hb1).size _⟩
set_option maxHeartbeats 2000000 in
theorem RText_calls (s : ByteArray) (h : s.size ≤ 9223372036854775000) (w : World) :
    Calls Try.prog 56 #[.string s] w fun e w' => e = .returned (.string (bstr (numL s.size ++ s.data.toList))) ∧ Below w.heap.size w w' := by
  have hc := fun w => Number_calls s.size (by omega) w
  have HC := Lib.hid hc; clear hc
  have h10 := numL_64 s.size (by omega)
  have hsz : ¬ 9223372036854775807 < (bstr (numL s.size)).size + s.size := by rw [bstr_size]; omega
  rw [← bstr_append, bstr_data]
  clear h10
  generalize bstr (numL s.size) = S at *
  go_enter Try.func56, Try.ntmps56
  go_wp2_with fail
  refine (HC.out _).mono ?_
  rintro e w1 ⟨rfl, hb⟩
  go_wp2
  go_ret
  exact ⟨rfl, hb⟩
end Go.Proofs.Ytpgcdfdfbcmodaa
