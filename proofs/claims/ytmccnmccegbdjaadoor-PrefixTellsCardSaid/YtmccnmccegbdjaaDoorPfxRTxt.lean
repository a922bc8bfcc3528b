/- The reference's digits and Text. -/
import Derived.Test.YtmccnmccegbdjaaDoorPfxRCon
import Derived.Test.YtmccnmccegbdjaaDoorPfxBackP
namespace Go.Proofs.YtmccnmccegbdjaaDoor
open Go.RowKit Go.Sort
set_option linter.unusedVariables false
set_option linter.unusedSimpArgs false
theorem bstr_cat (a b : List UInt8) : bstr a ++ bstr b = bstr (a ++ b) := by
  apply ByteArray.ext; simp [bstr]
theorem one_byte (W : World) (g : Nat) (x : UInt8) (h : W.cell? ⟨g, 0, none⟩ = some (.int .u8 (x.toNat : Int))) :
    (convert 56 9 (.slice (some ⟨g, 0, none⟩) 1 1)).run Tryd.prog W = .ok (.string (bstr [x])) W :=
  run_convert_bytes_back (P := Tryd.prog) W 56 9 5 ⟨g, 0, none⟩ 1 [x] Tryd.underlying56 Tryd.underlying5 Tryd.underlying9 (fun j hj => by
    obtain rfl : j = 0 := by simp at hj; omega
    exact h)
set_option maxHeartbeats 2000000 in
theorem digits_small (n : Nat) (h : n < 10) (w : World) :
    Calls Tryd.prog 41 #[.int .i64 n] w fun e w' => e = .returned (.string (decB n)) ∧ Below w.heap.size w w' := by
  have hb := (Below.refl w.heap.size w).alloc (Nat.le_refl _) (.cells #[.int .u8 (48 + (n : Int))] 5)
  have hlt : (n : Int) < 10 := by omega
  have hc := one_byte (w.alloc (.cells #[.int .u8 (48 + (n : Int))] 5)) w.heap.size (UInt8.ofNat (48 + n)) (by rw [World.cell?_alloc_new]; simp [UInt8.toNat_ofNat']; omega)
  have hd : decB n = bstr [UInt8.ofNat (48 + n)] := by unfold decB; rw [Go.Lib.decDigits, dif_pos h]; rfl
  rw [hd]
  have HB := Lib.hid hb; clear hb hd
  generalize UInt8.ofNat (48 + n) = x at *
  go_enter Tryd.func41, Tryd.ntmps41
  go_wp2
  go_ret
  exact ⟨rfl, HB.out⟩
set_option maxHeartbeats 4000000 in
theorem digits_calls (n : Nat) (hn : n < 1000000) (w : World) :
    Calls Tryd.prog 41 #[.int .i64 n] w fun e w' => e = .returned (.string (decB n)) ∧ Below w.heap.size w w' := by
  induction n using Nat.strongRecOn generalizing w with
  | _ n ih =>
    by_cases h : n < 10
    · exact digits_small n h w
    have hih := fun w => ih (n / 10) (by omega) (by omega) w
    have hsm := fun w => digits_small (n % 10) (by omega) w
    have s1 := decB_size (n / 10)
    have s2 := decB_size (n % 10)
    have hsz : ¬ 9223372036854775807 < (decB (n / 10)).size + (decB (n % 10)).size := by omega
    have happ : decB n = decB (n / 10) ++ decB (n % 10) := by
      have e1 : Go.Lib.decDigits n = Go.Lib.decDigits (n / 10) ++ [UInt8.ofNat (48 + n % 10)] := by rw [Go.Lib.decDigits, dif_neg h]
      have e2 : Go.Lib.decDigits (n % 10) = [UInt8.ofNat (48 + n % 10)] := by rw [Go.Lib.decDigits, dif_pos (by omega)]
      show bstr (Go.Lib.decDigits n) = bstr _ ++ bstr _
      rw [bstr_cat, e1, e2]
    have HAPP := Lib.hid happ
    have hge : ¬ (n : Int) < 10 := by omega
    have hq : IntKind.i64.wrap ((n : Int) / 10) = ((n / 10 : Nat) : Int) := by
      rw [show (n : Int) / 10 = ((n / 10 : Nat) : Int) by simp]; exact IntWalk.i64_in _ (by omega)
    have hr : Int.tmod (n : Int) 10 = ((n % 10 : Nat) : Int) := rfl
    have hr2 : n % 10 < 10 := by omega
    have hq2 : n / 10 < 1000000 := by omega
    have HIH := Lib.hid hih; have HSM := Lib.hid hsm
    clear hih hsm ih happ s1 s2
    generalize decB n = D at *
    generalize decB (n / 10) = D1 at *
    generalize decB (n % 10) = D2 at *
    generalize n / 10 = u at *
    generalize n % 10 = v at *
    go_enter Tryd.func41, Tryd.ntmps41
    go_wp2_with fail
    refine (HIH.out _).mono ?_
    rintro e w1 ⟨rfl, hb1⟩
    go_wp2_with fail
    refine (HSM.out _).mono ?_
    rintro e w2 ⟨rfl, hb2⟩
    go_wp2
    go_ret
    exact ⟨by rw [HAPP.out]; rfl, bn hb1 hb2⟩
def r4 (A : List Nat) : Nat → List UInt8
  | 0 => []
  | i + 1 => (if i = 0 then [] else r4 A i ++ [46]) ++ Go.Lib.decDigits (A.getD i 0)
theorem r4_four (A : List Nat) : r4 A 4 = Go.Lib.join (parts4 A) [46] := by
  show (((_ ++ _) ++ _) ++ _) ++ _ = _
  simp [r4, parts4, Go.Lib.join, List.range_succ, List.intercalate, List.intersperse]
def r8 (A : List Nat) : Nat → List UInt8
  | 0 => []
  | i + 1 => (r8 A i ++ (if 0 < i ∧ i % 2 = 0 then [58] else [])) ++ [hexd (A.getD i 0 / 16), hexd (A.getD i 0 % 16)]
theorem r8_all (A : List Nat) : r8 A 16 = Go.Lib.join (parts8 A) [58] := by
  kernel_rfl
theorem r8_len (A : List Nat) : ∀ i, (r8 A i).length ≤ 3 * i
  | 0 => Nat.le_refl _
  | i + 1 => by
    have := r8_len A i
    rw [r8]
    split <;> simp <;> omega
theorem text_bstr {p : Px} (h : p.right = true) : p.text = bstr ((if p.six then Go.Lib.join (parts8 p.A) [58] else Go.Lib.join (parts4 p.A) [46]) ++ ([47] ++ Go.Lib.decDigits p.n.toNat)) := by
  have := text_list h
  rw [show p.text = bstr p.text.data.toList from rfl, this]
  rfl
end Go.Proofs.YtmccnmccegbdjaaDoor
