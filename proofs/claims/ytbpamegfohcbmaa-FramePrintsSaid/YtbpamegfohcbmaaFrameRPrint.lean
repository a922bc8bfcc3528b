/- The walk of the reference's Print. -/
import Derived.Test.YtbpamegfohcbmaaFrameRef
import Derived.Lib.QuietBelow
namespace Go.Proofs.Ytbpamegfohcbmaa
open Go.RowKit
set_option linter.unusedVariables false
set_option linter.unusedSimpArgs false
/-- A frame that may be. -/
structure Fn where
  k : Nat
  s : Nat
  e : Nat
  i : Nat
  t : Nat
  d : ByteArray
def Fn.fr (f : Fn) : Fr := ⟨f.k, f.s, f.e, f.i, f.t, f.d⟩
structure Fn.good (f : Fn) : Prop where
  k : f.k = 1 ∨ f.k = 2
  s : f.s < 4294967296
  e : f.e < 4294967296
  i : f.i < 65536
  t : f.t < 65536
  d : f.d.size ≤ 65000
theorem Fr.good {f : Fr} (h : f.ok) : ∃ g : Fn, g.good ∧ f = g.fr := by
  obtain ⟨k, s, e, i, t, d⟩ := f
  obtain ⟨hk, s0, s1, e0, e1, i0, i1, t0, t1, hd⟩ := h
  simp only at *
  obtain ⟨k', rfl⟩ := Int.eq_ofNat_of_zero_le (show 0 ≤ k by omega)
  obtain ⟨s', rfl⟩ := Int.eq_ofNat_of_zero_le s0
  obtain ⟨e', rfl⟩ := Int.eq_ofNat_of_zero_le e0
  obtain ⟨i', rfl⟩ := Int.eq_ofNat_of_zero_le i0
  obtain ⟨t', rfl⟩ := Int.eq_ofNat_of_zero_le t0
  exact ⟨⟨k', s', e', i', t', d⟩, ⟨show k' = 1 ∨ k' = 2 by omega, show s' < 4294967296 by omega, show e' < 4294967296 by omega, show i' < 65536 by omega, show t' < 65536 by omega, hd⟩, rfl⟩
theorem Fn.good.ok {f : Fn} (h : f.good) : f.fr.ok := by
  obtain ⟨k, s, e, i, t, d⟩ := f
  obtain ⟨h1, h2, h3, h4, h5, h6⟩ := h
  simp only at *
  exact ⟨by show ((k : Int) = 1 ∨ (k : Int) = 2); omega, by show (0 : Int) ≤ s; omega, by show (s : Int) < _; omega, by show (0 : Int) ≤ e; omega, by show (e : Int) < _; omega, by show (0 : Int) ≤ i; omega, by show (i : Int) < _; omega, by show (0 : Int) ≤ t; omega, by show (t : Int) < _; omega, h6⟩
/-- A frame's first bytes. -/
def headL (f : Fn) : List UInt8 := be f.k 1 ++ be f.s 4 ++ be f.e 4 ++ be f.i 2 ++ be f.t 2 ++ be f.d.size 2
theorem headL_length (f : Fn) : (headL f).length = 15 := by simp [headL, be_length]
def bodyB (f : Fn) : ByteArray := ⟨(headL f ++ f.d.data.toList).toArray⟩
theorem bodyB_size (f : Fn) : (bodyB f).size = 15 + f.d.size := by
  show (headL f ++ f.d.data.toList).length = _
  rw [List.length_append, headL_length]; rfl
/-- A frame's bytes. -/
def printB (f : Fn) : ByteArray := sealB (bodyB f)
theorem mk_append (a b : List UInt8) : (⟨a.toArray⟩ : ByteArray) ++ ⟨b.toArray⟩ = ⟨(a ++ b).toArray⟩ := by
  apply ByteArray.ext; rw [ByteArray.data_append]; simp
theorem body_eq (f : Fn) : (⟨(be f.k 1).toArray⟩ : ByteArray) ++ ⟨(be f.s 4).toArray⟩ ++ ⟨(be f.e 4).toArray⟩ ++ ⟨(be f.i 2).toArray⟩ ++ ⟨(be f.t 2).toArray⟩ ++ ⟨(be f.d.size 2).toArray⟩ ++ f.d = bodyB f := by
  rw [mk_append, mk_append, mk_append, mk_append, mk_append]
  exact mk_append _ f.d.data.toList
set_option maxRecDepth 100000 in
set_option maxHeartbeats 4000000 in
theorem RPrint_calls (w : World) (f : Fn) (hf : f.good) :
   Calls Try.prog 13 #[f.fr.val] w fun e w' => e = .returned (.string (printB f)) ∧ Below w.heap.size w w' := by
  have hbody := body_eq f
  have hbs := bodyB_size f
  have c1 : ∀ w, Calls Try.prog 22 #[.int .i64 ((f.k : Nat) : Int), .int .i64 1] w fun e w' => e = .returned (.string ⟨(be f.k 1).toArray⟩) ∧ Below w.heap.size w w' := fun w => RNumber_calls w f.k 1 (by omega) (by omega) (by have := hf.k; omega)
  have c2 : ∀ w, Calls Try.prog 22 #[.int .i64 ((f.s : Nat) : Int), .int .i64 4] w fun e w' => e = .returned (.string ⟨(be f.s 4).toArray⟩) ∧ Below w.heap.size w w' := fun w => RNumber_calls w f.s 4 (by omega) (by omega) hf.s
  have c3 : ∀ w, Calls Try.prog 22 #[.int .i64 ((f.e : Nat) : Int), .int .i64 4] w fun e w' => e = .returned (.string ⟨(be f.e 4).toArray⟩) ∧ Below w.heap.size w w' := fun w => RNumber_calls w f.e 4 (by omega) (by omega) hf.e
  have c4 : ∀ w, Calls Try.prog 22 #[.int .i64 ((f.i : Nat) : Int), .int .i64 2] w fun e w' => e = .returned (.string ⟨(be f.i 2).toArray⟩) ∧ Below w.heap.size w w' := fun w => RNumber_calls w f.i 2 (by omega) (by omega) (by have := hf.i; omega)
  have c5 : ∀ w, Calls Try.prog 22 #[.int .i64 ((f.t : Nat) : Int), .int .i64 2] w fun e w' => e = .returned (.string ⟨(be f.t 2).toArray⟩) ∧ Below w.heap.size w w' := fun w => RNumber_calls w f.t 2 (by omega) (by omega) (by have := hf.t; omega)
  have c6 : ∀ w, Calls Try.prog 22 #[.int .i64 ((f.d.size : Nat) : Int), .int .i64 2] w fun e w' => e = .returned (.string ⟨(be f.d.size 2).toArray⟩) ∧ Below w.heap.size w w' := fun w => RNumber_calls w f.d.size 2 (by omega) (by omega) (by have := hf.d; omega)
  have c7 := fun w => RSeal_calls w (bodyB f) (by have := hf.d; omega)
  have hd := hf.d
  unfold printB
  generalize bodyB f = body at *
  clear hf
  obtain ⟨k, s, e, i, t, d⟩ := f
  simp only at *
  have z1 : (⟨(be k 1).toArray⟩ : ByteArray).size = 1 := be_length k 1
  have z2 : (⟨(be s 4).toArray⟩ : ByteArray).size = 4 := be_length s 4
  have z3 : (⟨(be e 4).toArray⟩ : ByteArray).size = 4 := be_length e 4
  have z4 : (⟨(be i 2).toArray⟩ : ByteArray).size = 2 := be_length i 2
  have z5 : (⟨(be t 2).toArray⟩ : ByteArray).size = 2 := be_length t 2
  have z6 : (⟨(be d.size 2).toArray⟩ : ByteArray).size = 2 := be_length d.size 2
  generalize (⟨(be k 1).toArray⟩ : ByteArray) = b1 at *
  generalize (⟨(be s 4).toArray⟩ : ByteArray) = b2 at *
  generalize (⟨(be e 4).toArray⟩ : ByteArray) = b3 at *
  generalize (⟨(be i 2).toArray⟩ : ByteArray) = b4 at *
  generalize (⟨(be t 2).toArray⟩ : ByteArray) = b5 at *
  generalize (⟨(be d.size 2).toArray⟩ : ByteArray) = b6 at *
  have Hbody := Lib.hid hbody; clear hbody
  have hlim : ¬ 9223372036854775807 < 15 + d.size := by omega
  have C1 := Lib.hid c1; clear c1
  have C2 := Lib.hid c2; clear c2
  have C3 := Lib.hid c3; clear c3
  have C4 := Lib.hid c4; clear c4
  have C5 := Lib.hid c5; clear c5
  have C6 := Lib.hid c6; clear c6
  have C7 := Lib.hid c7; clear c7
  show Calls Try.prog 13 #[.agg #[.int .i64 k, .int .i64 s, .int .i64 e, .int .i64 i, .int .i64 t, .string d]] w _
  have hbA := (Below.refl w.heap.size w).alloc (Nat.le_refl _) (.cells #[.int .i64 k, .int .i64 s, .int .i64 e, .int .i64 i, .int .i64 t, .string d] 23)
  have hA := heap_alloc_new w (.cells #[.int .i64 k, .int .i64 s, .int .i64 e, .int .i64 i, .int .i64 t, .string d] 23)
  go_enter Try.func13, Try.ntmps13
  go_wp2_with fail
  generalize w.alloc (.cells #[.int .i64 k, .int .i64 s, .int .i64 e, .int .i64 i, .int .i64 t, .string d] 23) = wA at *
  have q0 := cell_regrown (w := wA) (a := ⟨w.heap.size, 0, none⟩) (v := .int .i64 k) (by rw [cell_of_row _ _ 0 _ _ _ hA]; rfl)
  have q1 := cell_regrown (w := wA) (a := ⟨w.heap.size, 1, none⟩) (v := .int .i64 s) (by rw [cell_of_row _ _ 1 _ _ _ hA]; rfl)
  have q2 := cell_regrown (w := wA) (a := ⟨w.heap.size, 2, none⟩) (v := .int .i64 e) (by rw [cell_of_row _ _ 2 _ _ _ hA]; rfl)
  have q3 := cell_regrown (w := wA) (a := ⟨w.heap.size, 3, none⟩) (v := .int .i64 i) (by rw [cell_of_row _ _ 3 _ _ _ hA]; rfl)
  have q4 := cell_regrown (w := wA) (a := ⟨w.heap.size, 4, none⟩) (v := .int .i64 t) (by rw [cell_of_row _ _ 4 _ _ _ hA]; rfl)
  have q5 := cell_regrown (w := wA) (a := ⟨w.heap.size, 5, none⟩) (v := .string d) (by rw [cell_of_row _ _ 5 _ _ _ hA]; rfl)
  refine wp_region_quiet_below (by kernel_rfl) (by kernel_rfl) ?_
  repeat (quiet_step (first | (with_reducible exact Calls.regrown_of (C1.out _)) | (with_reducible exact Calls.regrown_of (C2.out _)) | (with_reducible exact Calls.regrown_of (C3.out _)) | (with_reducible exact Calls.regrown_of (C4.out _)) | (with_reducible exact Calls.regrown_of (C5.out _)) | (with_reducible exact Calls.regrown_of (C6.out _)) | (rw [Hbody.out]; with_reducible exact Calls.regrown_of (C7.out _))))
  refine wpQuiet_nil ?_
  rintro w' ⟨p, rfl⟩
  have hb := below_regrown wA p.d p.os
  generalize Go.Sort.grow (redrawn wA p.d) p.os = w6 at hb ⊢
  go_wp2
  go_ret
  exact ⟨rfl, bn hbA hb⟩
end Go.Proofs.Ytbpamegfohcbmaa
