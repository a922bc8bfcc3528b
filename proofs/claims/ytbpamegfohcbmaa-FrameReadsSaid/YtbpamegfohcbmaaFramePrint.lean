/- The walk of frame.Print. -/
import Derived.Test.YtbpamegfohcbmaaFrameRPrint
import Derived.StillTailTactics
namespace Go.Proofs.Ytbpamegfohcbmaa
open Go.RowKit
set_option linter.unusedVariables false
set_option linter.unusedSimpArgs false
theorem layL_at (A B : List UInt8) (o m n : Nat) (h : A.length = o) : layL (A ++ B) o m n = (A ++ be n m) ++ B.drop m := by
  subst h
  unfold layL
  rw [List.take_left, List.drop_append, List.drop_of_length_le (by omega), List.nil_append, show A.length + m - A.length = m by omega]
theorem lay_all (l : List UInt8) (h : l.length = 15) (k s e i t n : Nat) :
    layL (layL (layL (layL (layL (layL l 0 1 k) 1 4 s) 5 4 e) 9 2 i) 11 2 t) 13 2 n = be k 1 ++ be s 4 ++ be e 4 ++ be i 2 ++ be t 2 ++ be n 2 := by
  have h0 := layL_at [] l 0 1 k rfl
  rw [List.nil_append, List.nil_append] at h0
  rw [h0, layL_at _ _ 1 4 s (by simp [be_length]), layL_at _ _ 5 4 e (by simp [be_length]), layL_at _ _ 9 2 i (by simp [be_length]), layL_at _ _ 11 2 t (by simp [be_length]), layL_at _ _ 13 2 n (by simp [be_length])]
  simp only [List.drop_drop]
  rw [List.drop_of_length_le (by omega), List.append_nil]
theorem val_fr (f : Fn) : f.fr.val = .agg #[.int .i64 f.k, .int .i64 f.s, .int .i64 f.e, .int .i64 f.i, .int .i64 f.t, .string f.d] := rfl
set_option maxRecDepth 100000 in
set_option maxHeartbeats 4000000 in
theorem Print_bad (w : World) (f : Fr) (hf : ¬ f.ok) :
   Calls Try.prog 9 #[f.val] w fun e w' => e = .returned (.tuple #[.string ⟨#[]⟩, .int .i64 1]) ∧ Below w.heap.size w w' := by
  have hR := fun w => Right_calls w f
  rw [decide_eq_false hf] at hR
  have HR := Lib.hid hR; clear hR hf
  obtain ⟨k, s, e, i, t, d⟩ := f
  unfold Fr.val at *
  have hbA := (Below.refl w.heap.size w).alloc (Nat.le_refl _) (.cells #[.int .i64 k, .int .i64 s, .int .i64 e, .int .i64 i, .int .i64 t, .string d] 23)
  go_enter Try.func9, Try.ntmps9
  go_wp2_with fail
  with_reducible refine (HR.out _).mono ?_
  rintro e w1 ⟨rfl, hb1⟩
  go_wp2
  go_ret2
  exact ⟨rfl, bn hbA hb1⟩
set_option maxRecDepth 100000 in
set_option maxHeartbeats 4000000 in
theorem Print_good (w : World) (f : Fn) (hf : f.good) :
   Calls Try.prog 9 #[f.fr.val] w fun e w' => e = .returned (.tuple #[.string (printB f), .int .i64 0]) ∧ Below w.heap.size w w' := by
  have hR := fun w => Right_calls w f.fr
  rw [decide_eq_true hf.ok] at hR
  have HR := Lib.hid hR; clear hR
  have hbs := bodyB_size f
  have c7 := fun w => Seal_calls w (bodyB f) (by have := hf.d; omega)
  have C7 := Lib.hid c7; clear c7
  rw [val_fr] at *
  have hd := hf.d
  obtain ⟨k, s, e, i, t, d⟩ := f
  obtain ⟨gk, gs, ge, gi, gt, gd⟩ := hf
  simp only at *
  have hbA := (Below.refl w.heap.size w).alloc (Nat.le_refl _) (.cells #[.int .i64 k, .int .i64 s, .int .i64 e, .int .i64 i, .int .i64 t, .string d] 23)
  have hA := heap_alloc_new w (.cells #[.int .i64 k, .int .i64 s, .int .i64 e, .int .i64 i, .int .i64 t, .string d] 23)
  go_enter Try.func9, Try.ntmps9
  go_wp2_with fail
  with_reducible refine (HR.out _).mono ?_
  rintro e' w1 ⟨rfl, hb1⟩
  have hbB := bn hbA hb1
  have hA1 := (hb1.block w.heap.size (by simp)).trans hA
  clear hA hbA hb1
  have hFG : w.heap.size ≠ w1.heap.size := by
    have := (Array.getElem?_eq_some_iff.1 hA1).1; omega
  have hFl := (Array.getElem?_eq_some_iff.1 hA1).1
  go_wp2_with fail
  have hb2 := hbB.alloc hbB.size (.cells (rowOf (List.replicate 15 0) 0) 40)
  have hG : (w1.alloc (.cells (rowOf (List.replicate 15 0) 0) 40)).heap[w1.heap.size]? = some (.cells (rowOf (List.replicate 15 0) 0) 40 (0, 0)) := heap_alloc_new w1 _
  have hF := (Below.heap_alloc w1 (.cells (rowOf (List.replicate 15 0) 0) 40) w.heap.size hFl).trans hA1
  rw [show (#[.int .u8 0, .int .u8 0, .int .u8 0, .int .u8 0, .int .u8 0, .int .u8 0, .int .u8 0, .int .u8 0, .int .u8 0, .int .u8 0, .int .u8 0, .int .u8 0, .int .u8 0, .int .u8 0, .int .u8 0] : Array Value) = rowOf (List.replicate 15 0) 0 from rfl]
  have hl0 : (List.replicate 15 (0 : UInt8)).length = 15 := List.length_replicate
  have Hl0 := Lib.hid hl0
  generalize List.replicate 15 (0 : UInt8) = l0 at *
  generalize w1.alloc (.cells (rowOf l0 0) 40) = w2 at *
  generalize w1.heap.size = G at *
  have hGw : w.heap.size ≤ G := Nat.le_of_lt hFl
  have HG2 := Lib.hid hG; clear hG
  have HF2 := Lib.hid hF; clear hF hA1
  have q : w2.cell? ⟨w.heap.size, 0, none⟩ = some (.int .i64 k) := by rw [cell_of_row _ _ 0 _ _ _ HF2.out]; rfl
  go_still_tail 3, (by kernel_rfl)
  clear q
  change wpList _ _ _ _ _ w2.drew
  have hbd : Below w.heap.size w w2.drew := hb2.drew
  have HGd : Hid (w2.drew.heap[G]? = some (.cells (rowOf l0 0) 40 (0, 0))) := HG2
  have HFd : Hid (w2.drew.heap[w.heap.size]? = some (.cells (#[Value.int .i64 k, Value.int .i64 s, Value.int .i64 e, Value.int .i64 i, Value.int .i64 t, Value.string d] : Array Value) 23 (0, 0))) := HF2
  clear hb2 HG2 HF2
  generalize w2.drew = v2 at *
  go_wp2_with fail
  refine (lay_calls v2 G 0 1 15 (k) 0 l0 _ HGd.out (by omega) (by omega) (by omega)).mono ?_
  rintro e' w3 ⟨rfl, hbl, hsz, hfr, hG⟩
  have hb3 := hbd.trans (hbl _ hGw)
  have HF3 := Lib.hid ((hfr _ hFG).trans HFd.out)
  have hl1 := layL_length l0 0 1 (k) (by omega)
  rw [hl0] at hl1
  generalize hL1 : layL l0 0 1 (k) = l1 at *
  have HL1 := Lib.hid hL1; clear hL1
  have HG3 := Lib.hid hG
  clear hbl hsz hfr hG hbd HGd HFd hl0
  go_wp2_with fail
  have q : w3.cell? ⟨w.heap.size, 1, none⟩ = some (.int .i64 s) := by rw [cell_of_row _ _ 1 _ _ _ HF3.out]; rfl
  go_still_tail 3, (by kernel_rfl)
  clear q
  change wpList _ _ _ _ _ w3.drew
  have hbd : Below w.heap.size w w3.drew := hb3.drew
  have HGd : Hid (w3.drew.heap[G]? = some (.cells (rowOf l1 0) 40 (0, 0))) := HG3
  have HFd : Hid (w3.drew.heap[w.heap.size]? = some (.cells (#[Value.int .i64 k, Value.int .i64 s, Value.int .i64 e, Value.int .i64 i, Value.int .i64 t, Value.string d] : Array Value) 23 (0, 0))) := HF3
  clear hb3 HG3 HF3
  generalize w3.drew = v3 at *
  go_wp2_with fail
  refine (lay_calls v3 G 1 4 14 (s) 0 l1 _ HGd.out (by omega) (by omega) (by omega)).mono ?_
  rintro e' w4 ⟨rfl, hbl, hsz, hfr, hG⟩
  have hb4 := hbd.trans (hbl _ hGw)
  have HF4 := Lib.hid ((hfr _ hFG).trans HFd.out)
  have hl2 := layL_length l1 1 4 (s) (by omega)
  rw [hl1] at hl2
  generalize hL2 : layL l1 1 4 (s) = l2 at *
  have HL2 := Lib.hid hL2; clear hL2
  have HG4 := Lib.hid hG
  clear hbl hsz hfr hG hbd HGd HFd hl1
  go_wp2_with fail
  have q : w4.cell? ⟨w.heap.size, 2, none⟩ = some (.int .i64 e) := by rw [cell_of_row _ _ 2 _ _ _ HF4.out]; rfl
  go_still_tail 3, (by kernel_rfl)
  clear q
  change wpList _ _ _ _ _ w4.drew
  have hbd : Below w.heap.size w w4.drew := hb4.drew
  have HGd : Hid (w4.drew.heap[G]? = some (.cells (rowOf l2 0) 40 (0, 0))) := HG4
  have HFd : Hid (w4.drew.heap[w.heap.size]? = some (.cells (#[Value.int .i64 k, Value.int .i64 s, Value.int .i64 e, Value.int .i64 i, Value.int .i64 t, Value.string d] : Array Value) 23 (0, 0))) := HF4
  clear hb4 HG4 HF4
  generalize w4.drew = v4 at *
  go_wp2_with fail
  refine (lay_calls v4 G 5 4 10 (e) 0 l2 _ HGd.out (by omega) (by omega) (by omega)).mono ?_
  rintro e' w5 ⟨rfl, hbl, hsz, hfr, hG⟩
  have hb5 := hbd.trans (hbl _ hGw)
  have HF5 := Lib.hid ((hfr _ hFG).trans HFd.out)
  have hl3 := layL_length l2 5 4 (e) (by omega)
  rw [hl2] at hl3
  generalize hL3 : layL l2 5 4 (e) = l3 at *
  have HL3 := Lib.hid hL3; clear hL3
  have HG5 := Lib.hid hG
  clear hbl hsz hfr hG hbd HGd HFd hl2
  go_wp2_with fail
  have q : w5.cell? ⟨w.heap.size, 3, none⟩ = some (.int .i64 i) := by rw [cell_of_row _ _ 3 _ _ _ HF5.out]; rfl
  go_still_tail 3, (by kernel_rfl)
  clear q
  change wpList _ _ _ _ _ w5.drew
  have hbd : Below w.heap.size w w5.drew := hb5.drew
  have HGd : Hid (w5.drew.heap[G]? = some (.cells (rowOf l3 0) 40 (0, 0))) := HG5
  have HFd : Hid (w5.drew.heap[w.heap.size]? = some (.cells (#[Value.int .i64 k, Value.int .i64 s, Value.int .i64 e, Value.int .i64 i, Value.int .i64 t, Value.string d] : Array Value) 23 (0, 0))) := HF5
  clear hb5 HG5 HF5
  generalize w5.drew = v5 at *
  go_wp2_with fail
  refine (lay_calls v5 G 9 2 6 (i) 0 l3 _ HGd.out (by omega) (by omega) (by omega)).mono ?_
  rintro e' w6 ⟨rfl, hbl, hsz, hfr, hG⟩
  have hb6 := hbd.trans (hbl _ hGw)
  have HF6 := Lib.hid ((hfr _ hFG).trans HFd.out)
  have hl4 := layL_length l3 9 2 (i) (by omega)
  rw [hl3] at hl4
  generalize hL4 : layL l3 9 2 (i) = l4 at *
  have HL4 := Lib.hid hL4; clear hL4
  have HG6 := Lib.hid hG
  clear hbl hsz hfr hG hbd HGd HFd hl3
  go_wp2_with fail
  have q : w6.cell? ⟨w.heap.size, 4, none⟩ = some (.int .i64 t) := by rw [cell_of_row _ _ 4 _ _ _ HF6.out]; rfl
  go_still_tail 3, (by kernel_rfl)
  clear q
  change wpList _ _ _ _ _ w6.drew
  have hbd : Below w.heap.size w w6.drew := hb6.drew
  have HGd : Hid (w6.drew.heap[G]? = some (.cells (rowOf l4 0) 40 (0, 0))) := HG6
  have HFd : Hid (w6.drew.heap[w.heap.size]? = some (.cells (#[Value.int .i64 k, Value.int .i64 s, Value.int .i64 e, Value.int .i64 i, Value.int .i64 t, Value.string d] : Array Value) 23 (0, 0))) := HF6
  clear hb6 HG6 HF6
  generalize w6.drew = v6 at *
  go_wp2_with fail
  refine (lay_calls v6 G 11 2 4 (t) 0 l4 _ HGd.out (by omega) (by omega) (by omega)).mono ?_
  rintro e' w7 ⟨rfl, hbl, hsz, hfr, hG⟩
  have hb7 := hbd.trans (hbl _ hGw)
  have HF7 := Lib.hid ((hfr _ hFG).trans HFd.out)
  have hl5 := layL_length l4 11 2 (t) (by omega)
  rw [hl4] at hl5
  generalize hL5 : layL l4 11 2 (t) = l5 at *
  have HL5 := Lib.hid hL5; clear hL5
  have HG7 := Lib.hid hG
  clear hbl hsz hfr hG hbd HGd HFd hl4
  go_wp2_with fail
  have q : w7.cell? ⟨w.heap.size, 5, none⟩ = some (.string d) := by rw [cell_of_row _ _ 5 _ _ _ HF7.out]; rfl
  go_still_tail 4, (by kernel_rfl)
  clear q
  change wpList _ _ _ _ _ w7.drew
  have hbd : Below w.heap.size w w7.drew := hb7.drew
  have HGd : Hid (w7.drew.heap[G]? = some (.cells (rowOf l5 0) 40 (0, 0))) := HG7
  have HFd : Hid (w7.drew.heap[w.heap.size]? = some (.cells (#[Value.int .i64 k, Value.int .i64 s, Value.int .i64 e, Value.int .i64 i, Value.int .i64 t, Value.string d] : Array Value) 23 (0, 0))) := HF7
  clear hb7 HG7 HF7
  generalize w7.drew = v7 at *
  go_wp2_with fail
  refine (lay_calls v7 G 13 2 2 (d.size) 0 l5 _ HGd.out (by omega) (by omega) (by omega)).mono ?_
  rintro e' w8 ⟨rfl, hbl, hsz, hfr, hG⟩
  have hb8 := hbd.trans (hbl _ hGw)
  have HF8 := Lib.hid ((hfr _ hFG).trans HFd.out)
  have hl6 := layL_length l5 13 2 (d.size) (by omega)
  rw [hl5] at hl6
  generalize hL6 : layL l5 13 2 (d.size) = l6 at *
  have HL6 := Lib.hid hL6; clear hL6
  have HG8 := Lib.hid hG
  clear hbl hsz hfr hG hbd HGd HFd hl5
  go_wp2_with fail
  have hcv : ∀ d os, (convert 42 9 (.slice (some ⟨G, 0, none⟩) 15 15)).run Try.prog (Go.Sort.grow (redrawn w8 d) os) = .ok (.string ⟨l6.toArray⟩) (Go.Sort.grow (redrawn w8 d) os) := fun d os => by
    have := run_convert_bytes_back (P := Try.prog) (Go.Sort.grow (redrawn w8 d) os) 42 9 5 ⟨G, 0, none⟩ 15 l6 Try.underlying42 Try.underlying5 Try.underlying9 (fun j hj => by
      rw [Addr.add_lit, Nat.zero_add]
      exact cell_regrown (by rw [cell_of_row _ _ _ _ _ _ HG8.out, rowOf_get _ _ _ hj]) d os)
    rwa [hl6] at this
  have q := cell_regrown (w := w8) (a := ⟨w.heap.size, 5, none⟩) (v := .string d) (by rw [cell_of_row _ _ 5 _ _ _ HF8.out]; rfl)
  have hz : (⟨l6.toArray⟩ : ByteArray).size = 15 := hl6
  have hlim : ¬ 9223372036854775807 < 15 + d.size := by omega
  have hbody : (⟨l6.toArray⟩ : ByteArray) ++ d = bodyB ⟨k, s, e, i, t, d⟩ := by
    rw [← HL6.out, ← HL5.out, ← HL4.out, ← HL3.out, ← HL2.out, ← HL1.out, lay_all l0 Hl0.out]
    exact mk_append _ d.data.toList
  have Hbody := Lib.hid hbody; clear hbody
  generalize (⟨l6.toArray⟩ : ByteArray) = hb6 at *
  refine wp_region_quiet_below (by kernel_rfl) (by kernel_rfl) ?_
  repeat (quiet_step ((rw [Hbody.out]; with_reducible exact Calls.regrown_of (C7.out _))))
  refine wpQuiet_nil ?_
  rintro w' ⟨p, rfl⟩
  have hb := below_regrown w8 p.d p.os
  generalize Go.Sort.grow (redrawn w8 p.d) p.os = w9 at hb ⊢
  go_wp2
  go_ret2
  exact ⟨rfl, bn hb8 hb⟩
end Go.Proofs.Ytbpamegfohcbmaa
