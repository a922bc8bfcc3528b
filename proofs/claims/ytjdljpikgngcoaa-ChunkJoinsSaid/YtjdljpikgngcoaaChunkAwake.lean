/- awake of the chunks' laws: it answers true. -/
import Derived.Test.YtjdljpikgngcoaaChunkJoin
namespace Go.Proofs.Ytjdljpikgngcoaa
open Go.RowKit
set_option linter.unusedVariables false
set_option linter.unusedSimpArgs false
theorem Texts.mono {B : Nat} {w w' : World} {v : Value} {xs : List ByteArray} (h : Texts B w v xs) (hb : Below w.heap.size w w') : Texts B w' v xs := by
  obtain ⟨g, cap, rfl, h1, h2, h3, h4⟩ := h
  exact ⟨g, cap, rfl, h1, Nat.lt_of_lt_of_le h2 hb.size, h3, fun j x hx => by rw [hb.cell h2]; exact h4 j x hx⟩
theorem zeros_cell (w : World) (n : Nat) (t : TypeId) (l : List UInt8) (hl : l = List.replicate n 0) : ∀ j (hj : j < l.length), (w.alloc (.cells (List.replicate n (.int .u8 0)).toArray t)).cell? ((⟨w.heap.size, 0, none⟩ : Addr).add j) = some (.int .u8 (l[j].toNat : Int)) := by
  intro j hj
  subst hl
  simp at hj
  rw [Addr.add_lit, Nat.zero_add, World.cell?_alloc_new]
  simp [hj]
theorem kc1 : szI 65535 = 1000 := by decide +kernel
theorem kc2 : szE 65535 = 0 := by decide +kernel
theorem kc3 : cntI 100 64 = 3 := by decide +kernel
theorem kc4 : cntI (-1) 64 = -1 := by decide +kernel
theorem kc5 : cntN 100 45 = 3 := by decide +kernel
theorem kc6 : cntI ((11521 : Nat) : Int) 64 = -1 := by decide +kernel
theorem kc7 : szI 64 = ((45 : Nat) : Int) := by decide +kernel
theorem kc8 : szE 64 = 0 := by decide +kernel
theorem kc9 : szE 63 = 1 := by decide +kernel
theorem kc10 : cntN (⟨#[]⟩ : ByteArray).size 45 = 1 := by decide +kernel
theorem kc11 : (⟨#[]⟩ : ByteArray).size ≤ 256 * 45 := by decide +kernel
set_option maxRecDepth 100000 in
set_option maxHeartbeats 1000000 in
theorem awake_calls (w : World) :
   Calls Try.prog 8 #[] w fun e w' => e = .returned (.bool true) ∧ Below w.heap.size w w' := by
  obtain ⟨l1, hl1⟩ : ∃ l, l = List.replicate 100 (0 : UInt8) := ⟨_, rfl⟩
  obtain ⟨l2, hl2⟩ : ∃ l, l = List.replicate 11521 (0 : UInt8) := ⟨_, rfl⟩
  have n1 : l1.length = 100 := by rw [hl1, List.length_replicate]
  have n2 : l2.length = 11521 := by rw [hl2, List.length_replicate]
  have m1 : (⟨l1.toArray⟩ : ByteArray).size = 100 := n1
  have m2 : (⟨l2.toArray⟩ : ByteArray).size = 11521 := n2
  have H1 := Lib.hid hl1; clear hl1
  have H2 := Lib.hid hl2; clear hl2
  go_enter Try.func8, Try.ntmps8
  go_wp2_with (with_reducible refine wpList_mark (o := ⟨some 12, _, _, _, _, _⟩) ?_)
  refine Marked.intro ?_
  refine wpList_run rfl (exec_make _ 39 5 (.const (.int .i64 100)) (.const (.int .i64 100)) (by rfl) _ 100 .i64 .i64 (by rfl) (by rfl) Try.underlying39 (.int .u8 0) rfl 1 (by kernel_rfl) (by omega) (by omega)) ?_
  have hb0 := (Below.refl w.heap.size w).alloc (Nat.le_refl _) (.cells (List.replicate 100 (.int .u8 0)).toArray 5)
  have Z1 := Lib.hid (zeros_cell w 100 5 l1 H1.out)
  generalize w.alloc (.cells (List.replicate 100 (.int .u8 0)).toArray 5) = w0 at hb0 Z1 ⊢
  go_wp2_with (with_reducible refine wpList_mark (o := ⟨some 13, _, _, _, _, _⟩) ?_)
  refine Marked.intro ?_
  refine wpList_run rfl (exec_bytes_back _ 39 9 5 (.tmp 12) (by rfl) _ ⟨w.heap.size, 0, none⟩ 100 100 (by rfl) l1 n1.symm Try.underlying39 Try.underlying5 Try.underlying9 Z1.out) ?_
  go_wp2_with fail
  refine (Cut_ok _ ⟨l1.toArray⟩ 64 45 (by omega) (by omega) kc7 (by omega) kc8 (by omega) (by omega)).mono ?_
  rintro e w1 ⟨v1, rfl, hb1, T1⟩
  have T1c : ∃ g cap x, v1 = .slice (some ⟨g, 0, none⟩) 3 cap ∧ 3 ≤ cap ∧ x.size = 10 ∧ g < w1.heap.size ∧ w1.cell? ⟨g, 2, none⟩ = some (.string x) := by
    rw [m1, kc5] at T1
    obtain ⟨g, cap, rfl, a1, a2, a3, a4⟩ := T1
    rw [chs_length] at *
    exact ⟨g, cap, _, rfl, a3, by rw [ByteArray.size_extract, m1]; rfl, a2, a4 2 _ (chs_get _ _ _ 2 (by omega))⟩
  clear T1
  obtain ⟨g, cap, x, rfl, hcap, hx, hg, hc⟩ := T1c
  go_wp2_with fail
  refine (Cut_ok _ ⟨#[]⟩ 64 45 (by omega) (by omega) kc7 (by omega) kc8 kc11 (by omega)).mono ?_
  rintro e w2 ⟨v2, rfl, hb2, T2⟩
  have T2c : ∃ g cap, v2 = .slice (some ⟨g, 0, none⟩) 1 cap := by
    rw [kc10] at T2
    obtain ⟨g, cap, rfl, -⟩ := T2
    exact ⟨g, cap, rfl⟩
  clear T2
  obtain ⟨g2, cap2, rfl⟩ := T2c
  go_wp2_with fail
  with_reducible refine (Cut_arg _ ⟨#[]⟩ 63 (by omega) (by omega) kc9).mono ?_
  rintro e w3 ⟨rfl, rfl⟩
  go_wp2_with (with_reducible refine wpList_mark (o := ⟨some 26, _, _, _, _, _⟩) ?_)
  refine Marked.intro ?_
  refine wpList_run rfl (exec_make _ 39 5 (.const (.int .i64 11521)) (.const (.int .i64 11521)) (by rfl) _ 11521 .i64 .i64 (by rfl) (by rfl) Try.underlying39 (.int .u8 0) rfl 1 (by kernel_rfl) (by omega) (by omega)) ?_
  have hb3 := (Below.refl w2.heap.size w2).alloc (Nat.le_refl _) (.cells (List.replicate 11521 (.int .u8 0)).toArray 5)
  have Z2 := Lib.hid (zeros_cell w2 11521 5 l2 H2.out)
  generalize w2.alloc (.cells (List.replicate 11521 (.int .u8 0)).toArray 5) = w3 at hb3 Z2 ⊢
  go_wp2_with (with_reducible refine wpList_mark (o := ⟨some 27, _, _, _, _, _⟩) ?_)
  refine Marked.intro ?_
  refine wpList_run rfl (exec_bytes_back _ 39 9 5 (.tmp 26) (by rfl) _ ⟨w2.heap.size, 0, none⟩ 11521 11521 (by rfl) l2 n2.symm Try.underlying39 Try.underlying5 Try.underlying9 Z2.out) ?_
  go_wp2_with fail
  with_reducible refine (Cut_big _ ⟨l2.toArray⟩ 64 (by omega) (by omega) (by omega) kc8 (by rw [m2]; exact kc6)).mono ?_
  rintro e w4 ⟨rfl, rfl⟩
  go_wp2_with fail
  with_reducible refine (Size_calls _ 65535 (by omega) (by omega)).mono ?_
  rintro e w4 ⟨rfl, rfl⟩
  rw [kc1, kc2]
  have hc2 : w3.cell? ⟨g, 2, none⟩ = some (.string x) := by
    rw [hb3.cell (show g < _ by have := hb2.size; omega), hb2.cell hg]; exact hc
  go_wp2_with fail
  with_reducible refine (Count_calls _ 100 64 (by omega) (by omega) (by omega) (by omega)).mono ?_
  rintro e w4 ⟨rfl, rfl⟩
  rw [kc3]
  go_wp2_with fail
  with_reducible refine (Count_calls _ (-1) 64 (by omega) (by omega) (by omega) (by omega)).mono ?_
  rintro e w4 ⟨rfl, rfl⟩
  rw [kc4]
  go_wp2_with fail
  have TT : Texts 0 (w3.alloc (.cells #[.string ⟨#[97]⟩, .string ⟨#[98]⟩] 9)) (.slice (some ⟨w3.heap.size, 0, none⟩) 2 2) [⟨#[97]⟩, ⟨#[98]⟩] := by
    refine ⟨w3.heap.size, 2, rfl, Nat.zero_le _, by simp, Nat.le_refl _, ?_⟩
    intro j x hx
    rw [World.cell?_alloc_new]
    match j, hx with
    | 0, hx => obtain rfl := Option.some.inj hx; rfl
    | 1, hx => obtain rfl := Option.some.inj hx; rfl
  refine (Join_calls _ _ 0 _ TT (by decide) (by decide)).mono ?_
  rintro e w5 ⟨rfl, hb5⟩
  have hb4 := (Below.refl w3.heap.size w3).alloc (Nat.le_refl _) (.cells #[.string ⟨#[97]⟩, .string ⟨#[98]⟩] 9)
  have hab : (⟨([(⟨#[97]⟩ : ByteArray), ⟨#[98]⟩].map (·.data.toList)).flatten.toArray⟩ : ByteArray) = ⟨#[97, 98]⟩ := by rfl
  rw [hab]
  go_wp2
  go_ret
  exact ⟨rfl, bn (bn (bn (bn (bn hb0 hb1) hb2) hb3) hb4) hb5⟩
end Go.Proofs.Ytjdljpikgngcoaa
