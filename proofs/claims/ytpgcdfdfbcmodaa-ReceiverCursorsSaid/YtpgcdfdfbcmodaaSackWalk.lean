/- The walks of package sack: how many bits, Len, Has. -/
import Derived.Test.YtpgcdfdfbcmodaaSackPlain
import Derived.Handy
namespace Go.Proofs.Ytpgcdfdfbcmodaa
open Go.RowKit
set_option linter.unusedVariables false
set_option linter.unusedSimpArgs false
def mapRow (B : List Bool) : Array Value := #[.int .i64 (B.length : Nat), .int .u64 (wd B 0 : Nat), .int .u64 (wd B 1 : Nat), .int .u64 (wd B 2 : Nat), .int .u64 (wd B 3 : Nat)]
/-- A map lies there. -/
structure Mp (B : List Bool) (g : Nat) (w : World) : Prop where
  row : w.heap[g]? = some (.cells (mapRow B) 97 (0, 0))
  one : 1 ≤ B.length
  le : B.length ≤ 256
theorem Mp.lt {B : List Bool} {g : Nat} {w : World} (h : Mp B g w) : g < w.heap.size := (Array.getElem?_eq_some_iff.1 h.row).1
theorem Mp.below {B : List Bool} {g : Nat} {w w' : World} (h : Mp B g w) (hb : Below w.heap.size w w') : Mp B g w' := ⟨(hb.block g h.lt).trans h.row, h.one, h.le⟩
theorem Mp.len {B : List Bool} {g : Nat} {w : World} (h : Mp B g w) : w.cell? ⟨g, 0, none⟩ = some (.int .i64 (B.length : Nat)) := by rw [cell_of_row _ _ 0 _ _ _ h.row]; rfl
theorem Mp.word {B : List Bool} {g : Nat} {w : World} (h : Mp B g w) (q : Nat) (hq : q < 4) : w.cell? ⟨g, 1 + q, none⟩ = some (.int .u64 (wd B q : Nat)) := by
  rw [cell_of_row _ _ _ _ _ _ h.row]
  match q, hq with
  | 0, _ => rfl
  | 1, _ => rfl
  | 2, _ => rfl
  | 3, _ => rfl
theorem wrap_mod (f : Nat) : wrap64 (f : Int) % 128 = ((f % 128 : Nat) : Int) := by
  unfold wrap64
  rw [Int.sub_emod, Int.emod_emod_of_dvd _ (show (128 : Int) ∣ 18446744073709551616 from ⟨144115188075855872, by decide⟩), Int.add_emod, show (9223372036854775808 : Int) % 128 = 0 from by decide, Int.add_zero, Int.sub_zero, Int.emod_emod_of_dvd _ (Int.dvd_refl 128), Int.emod_emod_of_dvd _ (Int.dvd_refl 128)]
  rfl
theorem and_u64 (x m : Nat) (hx : x < 18446744073709551616) (hm : m < 18446744073709551616) : bits .and .u64 (x : Int) (m : Int) = ((x &&& m : Nat) : Int) := by
  rw [u64_and _ _ (by omega) (by omega) (by omega) (by omega)]; simp
set_option maxRecDepth 100000 in
set_option maxHeartbeats 2000000 in
theorem Ones_calls (w : World) (x : Nat) (hx : x < 18446744073709551616) :
   Calls Try.prog 57 #[.int .u64 x] w fun e w' => e = .returned (.int .i64 (pop 64 x : Nat)) ∧ w = w' := by
  have H := ones x
  obtain ⟨a1, ha1⟩ : ∃ a1 : Nat, x / 2 &&& 6148914691236517205 = a1 := ⟨_, rfl⟩
  obtain ⟨a2, ha2⟩ : ∃ a2 : Nat, x &&& 6148914691236517205 = a2 := ⟨_, rfl⟩
  obtain ⟨a, ha⟩ : ∃ a : Nat, a = a1 + a2 := ⟨_, rfl⟩
  obtain ⟨b1, hb1⟩ : ∃ b1 : Nat, a / 4 &&& 3689348814741910323 = b1 := ⟨_, rfl⟩
  obtain ⟨b2, hb2⟩ : ∃ b2 : Nat, a &&& 3689348814741910323 = b2 := ⟨_, rfl⟩
  obtain ⟨b, hb⟩ : ∃ b : Nat, b = b1 + b2 := ⟨_, rfl⟩
  obtain ⟨c, hc⟩ : ∃ c : Nat, c = (b / 16 + b) &&& 1085102592571150095 := ⟨_, rfl⟩
  obtain ⟨d, hd⟩ : ∃ d : Nat, d = c + c / 256 := ⟨_, rfl⟩
  obtain ⟨e, he⟩ : ∃ e : Nat, e = d + d / 65536 := ⟨_, rfl⟩
  obtain ⟨f, hf⟩ : ∃ f : Nat, f = e + e / 4294967296 := ⟨_, rfl⟩
  obtain ⟨h1, h2, h3, h4, h5, h6, h7⟩ := H a b c d e f (by rw [ha1, ha2, ha]) (by rw [hb1, hb2, hb]) hc hd he hf
  clear H
  have hcl : c ≤ b / 16 + b := by rw [hc]; exact Nat.and_le_left
  have e1 : bits .and .u64 ((x : Int) / 2) 6148914691236517205 = (a1 : Int) :=
    (and_u64 (x / 2) 6148914691236517205 (by omega) (by omega)).trans (by rw [ha1])
  have e2 : bits .and .u64 (x : Int) 6148914691236517205 = (a2 : Int) :=
    (and_u64 (x) 6148914691236517205 (by omega) (by omega)).trans (by rw [ha2])
  have e3 : bits .and .u64 ((a : Int) / 4) 3689348814741910323 = (b1 : Int) :=
    (and_u64 (a / 4) 3689348814741910323 (by omega) (by omega)).trans (by rw [hb1])
  have e4 : bits .and .u64 (a : Int) 3689348814741910323 = (b2 : Int) :=
    (and_u64 (a) 3689348814741910323 (by omega) (by omega)).trans (by rw [hb2])
  have e5 : bits .and .u64 ((b : Int) / 16 + b) 1085102592571150095 = (c : Int) :=
    (and_u64 (b / 16 + b) 1085102592571150095 (by omega) (by omega)).trans (by rw [← hc])
  have sa : ((a1 : Int) + a2) = (a : Int) := by omega
  have sb : ((b1 : Int) + b2) = (b : Int) := by omega
  have sd : ((c : Int) + (c : Int) / 256) = (d : Int) := by omega
  have se : ((d : Int) + (d : Int) / 65536) = (e : Int) := by omega
  have sf : ((e : Int) + (e : Int) / 4294967296) = (f : Int) := by omega
  have hcb : c < 18446744073709551616 := by omega
  clear ha1 ha2 ha hb1 hb2 hb hc hd he hf hcl
  have H7 := Lib.hid h7; clear h7
  go_enter Try.func57, Try.ntmps57
  go_wp2
  go_ret
  have hfin : bits .and .i64 (wrap64 (f : Int)) 127 = ((pop 64 x : Nat) : Int) := by
    rw [i64_and127, wrap_mod, H7.out]
  exact ⟨by show Ending.returned (.int .i64 _) = _; rw [hfin], rfl⟩
set_option maxRecDepth 100000 in
set_option maxHeartbeats 2000000 in
theorem Len_calls (w : World) (g : Nat) (B : List Bool) (h : Mp B g w) :
   Calls Try.prog 61 #[.pointer (some ⟨g, 0, none⟩)] w fun e w' => e = .returned (.int .i64 (B.length : Nat)) ∧ w = w' := by
  have hl := h.len
  go_enter Try.func61, Try.ntmps61
  go_wp2
  go_ret
  exact ⟨rfl, rfl⟩
set_option maxRecDepth 100000 in
set_option maxHeartbeats 2000000 in
theorem Len_nil (w : World) :
   Calls Try.prog 61 #[.pointer none] w fun e w' => e = .returned (.int .i64 0) ∧ w = w' := by
  go_enter Try.func61, Try.ntmps61
  go_wp2
  go_ret
  exact ⟨rfl, rfl⟩
set_option maxRecDepth 100000 in
set_option maxHeartbeats 2000000 in
theorem Has_in (w : World) (g : Nat) (B : List Bool) (i : Nat) (h : Mp B g w) (hi : i < B.length) :
   Calls Try.prog 43 #[.pointer (some ⟨g, 0, none⟩), .int .i64 i] w fun e w' => e = .returned (.bool (B.getD i false)) ∧ w = w' := by
  have hle := h.le
  have hc := h.word (i / 64) (by omega)
  have hw := wd_has B i
  have hxl := wd_lt B (i / 64)
  have hlen := fun w h => Len_calls w g B h
  have H := Lib.hid h; clear h
  have HL := Lib.hid hlen; clear hlen
  generalize wd B (i / 64) = x at *
  go_enter Try.func43, Try.ntmps43
  go_wp2_with fail
  with_reducible refine (HL.out _ H.out).mono ?_
  rintro e w1 ⟨rfl, rfl⟩
  go_wp2
  go_ret
  have hx : (bits .and .u64 ((x : Int) / 2 ^ (i % 64)) 1 == 1) = B.getD i false := by
    have h1 := and_u64 (x / 2 ^ (i % 64)) 1 (Nat.lt_of_le_of_lt (Nat.div_le_self _ _) hxl) (by omega)
    have h2 : x / 2 ^ (i % 64) &&& 1 = x / 2 ^ (i % 64) % 2 := Nat.and_one_is_mod _
    rw [h2, hw] at h1
    have h3 : ((x / 2 ^ (i % 64) : Nat) : Int) = (x : Int) / 2 ^ (i % 64) := by simp
    rw [h3] at h1
    rw [show ((1 : Nat) : Int) = 1 from rfl] at h1
    rw [h1]
    cases B.getD i false <;> rfl
  exact ⟨by show Ending.returned (.bool _) = _; rw [hx], rfl⟩
end Go.Proofs.Ytpgcdfdfbcmodaa
