/- The walks of varint.Reader: fail, Raw, Byte, Left, Err, Done, and of NewReader. -/
import Derived.Test.YtpgcdfdfbcmodaaVarText
namespace Go.Proofs.Ytpgcdfdfbcmodaa
open Go.RowKit
set_option linter.unusedVariables false
set_option linter.unusedSimpArgs false
def bstr (l : List UInt8) : ByteArray := ⟨l.toArray⟩
theorem bstr_size (l : List UInt8) : (bstr l).size = l.length := by show l.toArray.size = _; simp
theorem bstr_data (s : ByteArray) : bstr s.data.toList = s := rfl
theorem bstr_take (l : List UInt8) (n : Nat) : (bstr l).extract 0 n = bstr (l.take n) := by
  apply ByteArray.ext; rw [ByteArray.data_extract]; simp [bstr]
theorem bstr_drop (l : List UInt8) (n : Nat) : (bstr l).extract n l.length = bstr (l.drop n) := by
  apply ByteArray.ext; rw [ByteArray.data_extract]
  apply Array.ext'
  simp [bstr, List.extract]
  exact List.take_of_length_le (by rw [List.length_drop]; exact Nat.le_refl _)
/-- A reader lies there: what is left, and what was wrong. -/
def Rd (g : Nat) (l : List UInt8) (e : Nat) (w : World) : Prop := w.heap[g]? = some (.cells #[.string (bstr l), .int .i64 e] 99 (0, 0))
theorem Rd.lt {g e : Nat} {l : List UInt8} {w : World} (h : Rd g l e w) : g < w.heap.size := (Array.getElem?_eq_some_iff.1 h).1
theorem Rd.below {g e : Nat} {l : List UInt8} {w w' : World} (h : Rd g l e w) (hb : Below w.heap.size w w') : Rd g l e w' := (hb.block g h.lt).trans h
theorem Rd.c0 {g e : Nat} {l : List UInt8} {w : World} (h : Rd g l e w) : w.cell? ⟨g, 0, none⟩ = some (.string (bstr l)) := by rw [cell_of_row _ _ 0 _ _ _ h]; rfl
theorem Rd.c1 {g e : Nat} {l : List UInt8} {w : World} (h : Rd g l e w) : w.cell? ⟨g, 1, none⟩ = some (.int .i64 e) := by rw [cell_of_row _ _ 1 _ _ _ h]; rfl
theorem Rd.f {g e : Nat} {l : List UInt8} {w : World} (h : Rd g l e w) (j : Nat) : w.frozen? ⟨g, j, none⟩ = false := by simp [World.frozen?, show w.heap[g]? = _ from h]
theorem v_setCell (w : World) (g i : Nat) (cs : Array Value) (t : TypeId) (fr : Nat × Nat) (v : Value) (hg : w.heap[g]? = some (.cells cs t fr)) :
    (w.setCell ⟨g, i, none⟩ v).heap[g]? = some (.cells (cs.setIfInBounds i v) t fr) := by
  simp only [World.setCell, Array.getElem?_modify, if_true, hg]
  rfl
/-- Nothing has turned but one block. -/
structure UpV (g : Nat) (w w' : World) : Prop where
  os : w'.os = w.os
  tape : w'.tape = w.tape
  output : w'.output = w.output
  size : w'.heap.size = w.heap.size
  other : ∀ k, k ≠ g → w'.heap[k]? = w.heap[k]?
theorem UpV.refl (g : Nat) (w : World) : UpV g w w := ⟨rfl, rfl, rfl, rfl, fun _ _ => rfl⟩
theorem UpV.trans {g : Nat} {a b c : World} (h : UpV g a b) (k : UpV g b c) : UpV g a c := ⟨k.os.trans h.os, k.tape.trans h.tape, k.output.trans h.output, k.size.trans h.size, fun i hi => (k.other i hi).trans (h.other i hi)⟩
theorem UpV.below {g B : Nat} {w w' : World} (h : UpV g w w') (hB : B ≤ g) : Below B w w' := ⟨h.os, h.tape, h.output, Nat.le_of_eq h.size.symm, fun k hk => h.other k (by omega)⟩
theorem UpV.set (w : World) (g i : Nat) (v : Value) : UpV g w (w.setCell ⟨g, i, none⟩ v) := ⟨rfl, rfl, rfl, by simp [World.setCell], fun k hk => Below.heap_setCell w _ _ k hk⟩
set_option maxHeartbeats 1000000 in
set_option maxRecDepth 100000 in
theorem RdNew_calls (w : World) (s : ByteArray) :
    Calls Try.prog 32 #[.string s] w fun e w' => e = .returned (.pointer (some ⟨w.heap.size, 0, none⟩)) ∧ Rd w.heap.size s.data.toList 0 w' ∧ Below w.heap.size w w' ∧ w'.heap.size = w.heap.size + 1 := by
  have hb := (Below.refl w.heap.size w).alloc (Nat.le_refl _) (.cells #[.string s, .int .i64 0] 99)
  have hr : Rd w.heap.size s.data.toList 0 (w.alloc (.cells #[.string s, .int .i64 0] 99)) := heap_alloc_new w _
  have hs : (w.alloc (.cells #[.string s, .int .i64 0] 99)).heap.size = w.heap.size + 1 := by simp
  have HR := Lib.hid hr; clear hr
  have HB := Lib.hid hb; clear hb
  have HS := Lib.hid hs; clear hs
  go_enter Try.func32, Try.ntmps32
  go_wp2
  go_ret
  exact ⟨rfl, HR.out, HB.out, HS.out⟩
set_option maxHeartbeats 1000000 in
set_option maxRecDepth 100000 in
theorem fail_calls (w : World) (g c : Nat) (l : List UInt8) (h : Rd g l 0 w) :
    Calls Try.prog 59 #[.pointer (some ⟨g, 0, none⟩), .int .i64 c] w fun e w' => e = .returned (.tuple #[]) ∧ Rd g l c w' ∧ UpV g w w' := by
  have c1 := h.c1
  have f1 := h.f 1
  have hs := v_setCell w g 1 _ _ _ (.int .i64 c) h
  have HS := Lib.hid hs; clear hs h
  go_enter Try.func59, Try.ntmps59
  go_wp2
  go_returns
  exact ⟨rfl, HS.out, UpV.set w g 1 _⟩
/-- What taking so many bytes gives, leaves, and finds wrong. -/
def rawR (l : List UInt8) (e : Nat) (n : Int) : List UInt8 × List UInt8 × Nat :=
  if e ≠ 0 then ([], l, e) else if n < 0 then ([], l, 1) else if (l.length : Int) < n then ([], l, 3) else (l.take n.toNat, l.drop n.toNat, 0)
set_option maxHeartbeats 2000000 in
set_option maxRecDepth 100000 in
theorem Raw_calls (w : World) (g e : Nat) (l : List UInt8) (n : Int) (h : Rd g l e w) (he : e < 1000) :
    Calls Try.prog 60 #[.pointer (some ⟨g, 0, none⟩), .int .i64 n] w fun x w' => x = .returned (.string (bstr (rawR l e n).1)) ∧ Rd g (rawR l e n).2.1 (rawR l e n).2.2 w' ∧ UpV g w w' := by
  have c0 := h.c0
  have c1 := h.c1
  have hsz := bstr_size l
  by_cases h0 : e = 0
  · subst h0
    have hf := fun c => fail_calls w g c l h
    have HF := Lib.hid hf; clear hf
    by_cases h1 : n < 0
    · have hR : rawR l 0 n = ([], l, 1) := by unfold rawR; rw [if_neg (by decide), if_pos h1]
      rw [hR]
      clear hR h
      have hf1 := HF.out 1
      go_enter Try.func60, Try.ntmps60
      go_wp2_with fail
      refine hf1.mono ?_
      rintro x w1 ⟨rfl, h1, h2⟩
      go_wp2
      go_ret
      exact ⟨rfl, h1, h2⟩
    · by_cases h2 : (l.length : Int) < n
      · have hR : rawR l 0 n = ([], l, 3) := by unfold rawR; rw [if_neg (by decide), if_neg h1, if_pos h2]
        rw [hR]
        clear hR h
        have hf1 := HF.out 3
        go_enter Try.func60, Try.ntmps60
        go_wp2_with fail
        refine hf1.mono ?_
        rintro x w1 ⟨rfl, h1, h2⟩
        go_wp2
        go_ret
        exact ⟨rfl, h1, h2⟩
      · obtain ⟨m, rfl⟩ := Int.eq_ofNat_of_zero_le (show 0 ≤ n by omega)
        have hR : rawR l 0 (m : Int) = (l.take m, l.drop m, 0) := by unfold rawR; rw [if_neg (by decide), if_neg h1, if_neg h2]; rfl
        rw [hR]
        clear hR
        have hm : m ≤ l.length := by omega
        have ht := bstr_take l m
        have hd := bstr_drop l m
        have hs := v_setCell w g 0 _ _ _ (.string (bstr (l.drop m))) h
        have f0 := h.f 0
        have HS := Lib.hid hs; clear hs h HF
        generalize bstr (l.take m) = bt at *
        obtain ⟨bd, hbd⟩ : ∃ bd, bstr (l.drop m) = bd := ⟨_, rfl⟩
        rw [hbd] at HS hd
        have HBd := Lib.hid hbd; clear hbd
        generalize bstr l = bl at *
        have hle : (m : Int) ≤ (l.length : Int) := by omega
        go_enter Try.func60, Try.ntmps60
        go_wp2
        go_ret
        exact ⟨rfl, by unfold Rd; rw [HBd.out]; exact HS.out, UpV.set w g 0 _⟩
  · have hR : rawR l e n = ([], l, e) := by unfold rawR; rw [if_pos h0]
    rw [hR]
    clear hR
    have H := Lib.hid h; clear h
    have hne : ((e : Int) != 0) = true := by simp; omega
    go_enter Try.func60, Try.ntmps60
    go_wp2
    go_ret
    exact ⟨rfl, H.out, UpV.refl _ _⟩
theorem rawR_lt (l : List UInt8) (e : Nat) (n : Int) (he : e < 1000) : (rawR l e n).2.2 < 1000 := by
  unfold rawR; split
  · exact he
  · split
    · show (1 : Nat) < 1000; omega
    · split
      · show (3 : Nat) < 1000; omega
      · show (0 : Nat) < 1000; omega
/-- The next byte, or 0. -/
def byteR (l : List UInt8) (e : Nat) : Nat × List UInt8 × Nat := if e ≠ 0 then (0, l, e) else match l with
  | [] => (0, [], 3)
  | c :: r => (c.toNat, r, 0)
set_option maxHeartbeats 2000000 in
set_option maxRecDepth 100000 in
theorem Byte_calls (w : World) (g e : Nat) (l : List UInt8) (h : Rd g l e w) (he : e < 1000) :
    Calls Try.prog 58 #[.pointer (some ⟨g, 0, none⟩)] w fun x w' => x = .returned (.int .u8 ((byteR l e).1 : Nat)) ∧ Rd g (byteR l e).2.1 (byteR l e).2.2 w' ∧ UpV g w w' := by
  have hr := Raw_calls w g e l 1 h he
  by_cases h0 : e = 0
  · subst h0
    cases l with
    | nil =>
      have hR : rawR [] 0 1 = ([], [], 3) := by decide
      rw [hR] at hr
      have hB : byteR [] 0 = (0, [], 3) := by decide
      rw [hB]
      have HR := Lib.hid hr; clear hr hR hB h
      have hz : (bstr []).toList.isEmpty = true := by rw [ByteArray.toList_eq]; rfl
      generalize bstr [] = bs at *
      go_enter Try.func58, Try.ntmps58
      go_wp2_with fail
      refine HR.out.mono ?_
      rintro x w1 ⟨rfl, h1, h2⟩
      go_wp2
      go_ret
      exact ⟨rfl, h1, h2⟩
    | cons c r =>
      have hR : rawR (c :: r) 0 1 = ([c], r, 0) := by
        unfold rawR; rw [if_neg (by decide), if_neg (by decide), if_neg (by simp; omega)]; rfl
      rw [hR] at hr
      have hB : byteR (c :: r) 0 = (c.toNat, r, 0) := rfl
      rw [hB]
      have HR := Lib.hid hr; clear hr hR hB h
      have hz : (bstr [c]).toList.isEmpty = false := by rw [ByteArray.toList_eq]; rfl
      have h1 : (bstr [c]).size = 1 := rfl
      have h1i : ((bstr [c]).size : Int) = 1 := rfl
      have hlt : 0 < (bstr [c]).size := by rw [h1]; omega
      have hg : (bstr [c])[0] = c := rfl
      have hgi : (((bstr [c])[0].toNat : Nat) : Int) = (c.toNat : Int) := rfl
      go_enter Try.func58, Try.ntmps58
      go_wp2_with fail
      refine HR.out.mono ?_
      rintro x w1 ⟨rfl, h1, h2⟩
      go_wp2
      go_ret
      exact ⟨rfl, h1, h2⟩
  · have hR : rawR l e 1 = ([], l, e) := by unfold rawR; rw [if_pos h0]
    rw [hR] at hr
    have hB : byteR l e = (0, l, e) := by unfold byteR; rw [if_pos h0]
    rw [hB]
    have HR := Lib.hid hr; clear hr hR hB h
    have hz : (bstr []).toList.isEmpty = true := by rw [ByteArray.toList_eq]; rfl
    generalize bstr [] = bs at *
    go_enter Try.func58, Try.ntmps58
    go_wp2_with fail
    refine HR.out.mono ?_
    rintro x w1 ⟨rfl, h1, h2⟩
    go_wp2
    go_ret
    exact ⟨rfl, h1, h2⟩
set_option maxHeartbeats 2000000 in
set_option maxRecDepth 100000 in
theorem RdErr_calls (w : World) (g e : Nat) (l : List UInt8) (h : Rd g l e w) :
    Calls Try.prog 34 #[.pointer (some ⟨g, 0, none⟩)] w fun x w' => x = .returned (.int .i64 e) ∧ w = w' := by
  have c1 := h.c1
  clear h
  go_enter Try.func34, Try.ntmps34
  go_wp2
  go_ret
  exact ⟨rfl, rfl⟩
/-- Whether all is taken. -/
def doneR (l : List UInt8) (e : Nat) : Nat := if e ≠ 0 then e else if l = [] then 0 else 4
set_option maxHeartbeats 2000000 in
set_option maxRecDepth 100000 in
theorem RdDone_calls (w : World) (g e : Nat) (l : List UInt8) (h : Rd g l e w) :
    Calls Try.prog 36 #[.pointer (some ⟨g, 0, none⟩)] w fun x w' => x = .returned (.int .i64 (doneR l e : Nat)) ∧ w = w' := by
  have c0 := h.c0
  have herr := RdErr_calls w g e l h
  have HE := Lib.hid herr; clear herr h
  by_cases h0 : e = 0
  · subst h0
    by_cases hl : l = []
    · subst hl
      have hR : doneR [] 0 = 0 := by decide
      rw [hR]
      have hz : (bstr []).toList.isEmpty = true := by rw [ByteArray.toList_eq]; rfl
      generalize bstr [] = bs at *
      go_enter Try.func36, Try.ntmps36
      go_wp2_with fail
      refine HE.out.mono ?_
      rintro x w1 ⟨rfl, rfl⟩
      go_wp2
      go_ret
      exact ⟨rfl, rfl⟩
    · have hR : doneR l 0 = 4 := by unfold doneR; rw [if_neg (by decide), if_neg hl]
      rw [hR]
      have hz : (bstr l).toList.isEmpty = false := by
        rw [ByteArray.toList_eq, List.isEmpty_eq_false_iff]; exact hl
      generalize bstr l = bs at *
      go_enter Try.func36, Try.ntmps36
      go_wp2_with fail
      refine HE.out.mono ?_
      rintro x w1 ⟨rfl, rfl⟩
      go_wp2
      go_ret
      exact ⟨rfl, rfl⟩
  · have hR : doneR l e = e := by unfold doneR; rw [if_pos h0]
    rw [hR]
    have hne : ((e : Int) != 0) = true := by simp; omega
    go_enter Try.func36, Try.ntmps36
    go_wp2_with fail
    refine HE.out.mono ?_
    rintro x w1 ⟨rfl, rfl⟩
    go_wp2
    go_ret
    exact ⟨rfl, rfl⟩
end Go.Proofs.Ytpgcdfdfbcmodaa
