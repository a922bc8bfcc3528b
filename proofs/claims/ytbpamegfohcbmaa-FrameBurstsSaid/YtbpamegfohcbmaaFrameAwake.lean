/- Frames' cells, and the walk of the law's awake. -/
import Derived.Test.YtbpamegfohcbmaaFrameRRead
import Derived.Test.YtbpamegfohcbmaaFramePlain
namespace Go.Proofs.Ytbpamegfohcbmaa
open Go.RowKit
set_option linter.unusedVariables false
set_option linter.unusedSimpArgs false
theorem Fr.val_cells (f : Fr) : f.val = .agg #[.int .i64 f.k, .int .i64 f.s, .int .i64 f.e, .int .i64 f.i, .int .i64 f.t, .string f.d] := rfl
theorem zero_val : Fr.zero.val = .agg #[.int .i64 0, .int .i64 0, .int .i64 0, .int .i64 0, .int .i64 0, .string ⟨#[]⟩] := rfl
/-- A frame lies there. -/
def Fr.at (f : Fr) (g : Nat) (w : World) : Prop := w.heap[g]? = some (.cells #[.int .i64 f.k, .int .i64 f.s, .int .i64 f.e, .int .i64 f.i, .int .i64 f.t, .string f.d] 23 (0, 0))
theorem Fr.at.lt {f : Fr} {g : Nat} {w : World} (h : f.at g w) : g < w.heap.size := (Array.getElem?_eq_some_iff.1 h).1
theorem Fr.at.below {f : Fr} {g : Nat} {w w' : World} (h : f.at g w) (hb : Below w.heap.size w w') : f.at g w' := (hb.block g h.lt).trans h
theorem Fr.at.c0 {f : Fr} {g : Nat} {w : World} (h : f.at g w) : w.cell? ⟨g, 0, none⟩ = some (.int .i64 f.k) := by rw [cell_of_row _ _ 0 _ _ _ h]; rfl
theorem Fr.at.c1 {f : Fr} {g : Nat} {w : World} (h : f.at g w) : w.cell? ⟨g, 1, none⟩ = some (.int .i64 f.s) := by rw [cell_of_row _ _ 1 _ _ _ h]; rfl
theorem Fr.at.c2 {f : Fr} {g : Nat} {w : World} (h : f.at g w) : w.cell? ⟨g, 2, none⟩ = some (.int .i64 f.e) := by rw [cell_of_row _ _ 2 _ _ _ h]; rfl
theorem Fr.at.c3 {f : Fr} {g : Nat} {w : World} (h : f.at g w) : w.cell? ⟨g, 3, none⟩ = some (.int .i64 f.i) := by rw [cell_of_row _ _ 3 _ _ _ h]; rfl
theorem Fr.at.c4 {f : Fr} {g : Nat} {w : World} (h : f.at g w) : w.cell? ⟨g, 4, none⟩ = some (.int .i64 f.t) := by rw [cell_of_row _ _ 4 _ _ _ h]; rfl
theorem Fr.at.c5 {f : Fr} {g : Nat} {w : World} (h : f.at g w) : w.cell? ⟨g, 5, none⟩ = some (.string f.d) := by rw [cell_of_row _ _ 5 _ _ _ h]; rfl
theorem Fr.box (a : Fr) (w : World) : a.at w.heap.size (w.alloc (.cells #[.int .i64 a.k, .int .i64 a.s, .int .i64 a.e, .int .i64 a.i, .int .i64 a.t, .string a.d] 23)) ∧ Below w.heap.size w (w.alloc (.cells #[.int .i64 a.k, .int .i64 a.s, .int .i64 a.e, .int .i64 a.i, .int .i64 a.t, .string a.d] 23)) :=
  ⟨heap_alloc_new w _, (Below.refl w.heap.size w).alloc (Nat.le_refl _) _⟩
theorem Fr.box2 (a b : Fr) (w : World) : a.at w.heap.size ((w.alloc (.cells #[.int .i64 a.k, .int .i64 a.s, .int .i64 a.e, .int .i64 a.i, .int .i64 a.t, .string a.d] 23)).alloc (.cells #[.int .i64 b.k, .int .i64 b.s, .int .i64 b.e, .int .i64 b.i, .int .i64 b.t, .string b.d] 23)) ∧ b.at (w.heap.size + 1) ((w.alloc (.cells #[.int .i64 a.k, .int .i64 a.s, .int .i64 a.e, .int .i64 a.i, .int .i64 a.t, .string a.d] 23)).alloc (.cells #[.int .i64 b.k, .int .i64 b.s, .int .i64 b.e, .int .i64 b.i, .int .i64 b.t, .string b.d] 23)) ∧ Below w.heap.size w ((w.alloc (.cells #[.int .i64 a.k, .int .i64 a.s, .int .i64 a.e, .int .i64 a.i, .int .i64 a.t, .string a.d] 23)).alloc (.cells #[.int .i64 b.k, .int .i64 b.s, .int .i64 b.e, .int .i64 b.i, .int .i64 b.t, .string b.d] 23)) := by
  have h1 := (a.box w).1
  have h2 := (b.box (w.alloc (.cells #[.int .i64 a.k, .int .i64 a.s, .int .i64 a.e, .int .i64 a.i, .int .i64 a.t, .string a.d] 23))).1
  have hs : (w.alloc (.cells #[.int .i64 a.k, .int .i64 a.s, .int .i64 a.e, .int .i64 a.i, .int .i64 a.t, .string a.d] 23)).heap.size = w.heap.size + 1 := by simp
  rw [hs] at h2
  exact ⟨(Below.heap_alloc _ _ _ (by simp)).trans h1, h2, (a.box w).2.alloc (by simp) _⟩
def f0 : Fn := ⟨1, 7, 8, 2, 3, ⟨#[97, 98, 99]⟩⟩
theorem f0_good : f0.good := ⟨.inl rfl, by decide, by decide, by decide, by decide, by decide⟩
set_option maxRecDepth 100000 in
theorem f0_cut : (readB ((printB f0).extract 1 22)).2 = 4 := by decide +kernel
set_option maxRecDepth 100000 in
theorem f0_flip : (readB ⟨(flipL (printB f0).data.toList 20 1).toArray⟩).2 = 5 := by decide +kernel
set_option maxRecDepth 100000 in
theorem f0_empty : (readB ⟨#[]⟩).2 = 3 := by decide +kernel
theorem read_refused (s : ByteArray) (c : Nat) (h : (readB s).2 = c) (h0 : c ≠ 0) : readB s = (Fr.zero, c) := by
  have : (readB s).2 ≠ 0 → (readB s).1 = Fr.zero := by
    unfold readB
    split
    · intro _; rfl
    · split
      · intro _; rfl
      · split
        · intro _; rfl
        · split
          · intro h; exact absurd rfl h
          · intro _; rfl
  exact Prod.ext (this (by rw [h]; exact h0)) h
theorem f0_val : f0.fr.val = .agg #[.int .i64 1, .int .i64 7, .int .i64 8, .int .i64 2, .int .i64 3, .string ⟨#[97, 98, 99]⟩] := rfl
theorem f0_cells {g : Nat} {w : World} (h : f0.fr.at g w) : w.cell? ⟨g, 0, none⟩ = some (.int .i64 1) ∧ w.cell? ⟨g, 1, none⟩ = some (.int .i64 7) ∧ w.cell? ⟨g, 2, none⟩ = some (.int .i64 8) ∧ w.cell? ⟨g, 3, none⟩ = some (.int .i64 2) ∧ w.cell? ⟨g, 4, none⟩ = some (.int .i64 3) ∧ w.cell? ⟨g, 5, none⟩ = some (.string ⟨#[97, 98, 99]⟩) := ⟨h.c0, h.c1, h.c2, h.c3, h.c4, h.c5⟩
set_option maxRecDepth 100000 in
set_option maxHeartbeats 8000000 in
theorem awake_calls (w : World) :
    Calls Try.prog 8 #[] w fun e w' => e = .returned (.bool true) ∧ Below w.heap.size w w' := by
  have hF1 : f0.fr.at w.heap.size (w.alloc (.cells #[.int .i64 1, .int .i64 7, .int .i64 8, .int .i64 2, .int .i64 3, .string ⟨#[97, 98, 99]⟩] 23)) := (Fr.box f0.fr w).1
  have hc1 : Below w.heap.size w (w.alloc (.cells #[.int .i64 1, .int .i64 7, .int .i64 8, .int .i64 2, .int .i64 3, .string ⟨#[97, 98, 99]⟩] 23)) := (Fr.box f0.fr w).2
  have hP := fun w => Print_good w f0 f0_good
  have hps : (printB f0).size = 22 := printB_size f0
  have hR := fun w => Read_calls w (printB f0) (by omega)
  rw [read_print f0 f0_good] at hR
  have hC := fun w => Read_calls w ((printB f0).extract 1 22) (by rw [ByteArray.size_extract]; omega)
  rw [read_refused _ _ f0_cut (by decide)] at hC
  have hX := fun w => Flip_calls w (printB f0) 20 1 (by omega) (by omega) (by omega) (by omega)
  have hY := fun w => Read_calls w ⟨(flipL (printB f0).data.toList 20 1).toArray⟩ (by
    show (flipL (printB f0).data.toList 20 1).length ≤ _
    rw [flipL_length]
    show (printB f0).size ≤ _
    omega)
  rw [read_refused _ _ f0_flip (by decide)] at hY
  have hE := fun w => Read_calls w ⟨#[]⟩ (by decide)
  rw [read_refused _ _ f0_empty (by decide)] at hE
  have hB := fun w => Print_bad w Fr.zero (by decide)
  have hG := fun w => Right_calls w f0.fr
  rw [decide_eq_true f0_good.ok] at hG
  simp only [zero_val, f0_val] at hP hR hC hY hE hB hG
  generalize printB f0 = pf at *
  generalize (⟨(flipL pf.data.toList 20 1).toArray⟩ : ByteArray) = pq at *
  have q := @f0_cells
  have HP := Lib.hid hP; clear hP
  have HR := Lib.hid hR; clear hR
  have HC := Lib.hid hC; clear hC
  have HX := Lib.hid hX; clear hX
  have HY := Lib.hid hY; clear hY
  have HE := Lib.hid hE; clear hE
  have HB := Lib.hid hB; clear hB
  have HG := Lib.hid hG; clear hG
  go_enter Try.func8, Try.ntmps8
  go_wp2_with fail
  generalize w.alloc (.cells #[.int .i64 1, .int .i64 7, .int .i64 8, .int .i64 2, .int .i64 3, .string ⟨#[97, 98, 99]⟩] 23) = w1 at *
  with_reducible refine (HP.out _).mono ?_
  rintro e' w2 ⟨rfl, hb2⟩
  have hF2 := hF1.below hb2
  have hc2 := bn hc1 hb2
  clear hF1 hc1 hb2
  go_wp2_with fail
  with_reducible refine (HR.out _).mono ?_
  rintro e' w3 ⟨rfl, hb3⟩
  have hF3 := hF2.below hb3
  have hc3 := bn hc2 hb3
  clear hF2 hc2 hb3
  have hb4 := (Below.refl w3.heap.size w3).alloc (Nat.le_refl _) (.cells #[.int .i64 1, .int .i64 7, .int .i64 8, .int .i64 2, .int .i64 3, .string ⟨#[97, 98, 99]⟩] 23)
  have hF4 := hF3.below hb4
  have hG4 : f0.fr.at w3.heap.size (w3.alloc (.cells #[.int .i64 1, .int .i64 7, .int .i64 8, .int .i64 2, .int .i64 3, .string ⟨#[97, 98, 99]⟩] 23)) := (Fr.box f0.fr w3).1
  have hc4 := bn hc3 hb4
  clear hF3 hc3 hb4
  go_wp2_with fail
  generalize w3.alloc (.cells #[.int .i64 1, .int .i64 7, .int .i64 8, .int .i64 2, .int .i64 3, .string ⟨#[97, 98, 99]⟩] 23) = w4 at *
  with_reducible refine (HC.out _).mono ?_
  rintro e' w5 ⟨rfl, hb5⟩
  have hF5 := hF4.below hb5
  have hG5 := hG4.below hb5
  have hc5 := bn hc4 hb5
  clear hF4 hG4 hc4 hb5
  have hb6 := (Below.refl w5.heap.size w5).alloc (Nat.le_refl _) (.cells #[.int .i64 0, .int .i64 0, .int .i64 0, .int .i64 0, .int .i64 0, .string ⟨#[]⟩] 23)
  have hF6 := hF5.below hb6
  have hG6 := hG5.below hb6
  have hc6 := bn hc5 hb6
  clear hF5 hG5 hc5 hb6
  go_wp2_with fail
  generalize w5.alloc (.cells #[.int .i64 0, .int .i64 0, .int .i64 0, .int .i64 0, .int .i64 0, .string ⟨#[]⟩] 23) = w6 at *
  refine (HX.out _).mono ?_
  rintro e' w7 ⟨rfl, hb7⟩
  have hF7 := hF6.below hb7
  have hG7 := hG6.below hb7
  have hc7 := bn hc6 hb7
  clear hF6 hG6 hc6 hb7
  go_wp2_with fail
  with_reducible refine (HY.out _).mono ?_
  rintro e' w8 ⟨rfl, hb8⟩
  have hF8 := hF7.below hb8
  have hG8 := hG7.below hb8
  have hc8 := bn hc7 hb8
  clear hF7 hG7 hc7 hb8
  have hb9 := (Below.refl w8.heap.size w8).alloc (Nat.le_refl _) (.cells #[.int .i64 0, .int .i64 0, .int .i64 0, .int .i64 0, .int .i64 0, .string ⟨#[]⟩] 23)
  have hF9 := hF8.below hb9
  have hG9 := hG8.below hb9
  have hc9 := bn hc8 hb9
  clear hF8 hG8 hc8 hb9
  go_wp2_with fail
  generalize w8.alloc (.cells #[.int .i64 0, .int .i64 0, .int .i64 0, .int .i64 0, .int .i64 0, .string ⟨#[]⟩] 23) = w9 at *
  with_reducible refine (HE.out _).mono ?_
  rintro e' w10 ⟨rfl, hb10⟩
  have hF10 := hF9.below hb10
  have hG10 := hG9.below hb10
  have hc10 := bn hc9 hb10
  clear hF9 hG9 hc9 hb10
  have hb11 := (Below.refl w10.heap.size w10).alloc (Nat.le_refl _) (.cells #[.int .i64 0, .int .i64 0, .int .i64 0, .int .i64 0, .int .i64 0, .string ⟨#[]⟩] 23)
  have hF11 := hF10.below hb11
  have hG11 := hG10.below hb11
  have hc11 := bn hc10 hb11
  clear hF10 hG10 hc10 hb11
  go_wp2_with fail
  generalize w10.alloc (.cells #[.int .i64 0, .int .i64 0, .int .i64 0, .int .i64 0, .int .i64 0, .string ⟨#[]⟩] 23) = w11 at *
  with_reducible refine (HB.out _).mono ?_
  rintro e' w12 ⟨rfl, hb12⟩
  have hF12 := hF11.below hb12
  have hG12 := hG11.below hb12
  have hc12 := bn hc11 hb12
  clear hF11 hG11 hc11 hb12
  go_wp2_with fail
  with_reducible refine (HG.out _).mono ?_
  rintro e' w13 ⟨rfl, hb13⟩
  have hF13 := hF12.below hb13
  have hG13 := hG12.below hb13
  have hc13 := bn hc12 hb13
  clear hF12 hG12 hc12 hb13
  go_wp2
  go_ret
  exact ⟨rfl, hc13⟩
end Go.Proofs.Ytbpamegfohcbmaa
