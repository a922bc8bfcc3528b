/- The walks of the reference's Reader: fail, Raw, Byte. -/
import Derived.Test.YtpgcdfdfbcmodaaRecRef5
namespace Go.Proofs.Ytpgcdfdfbcmodaa
open Go.RowKit Go.Sort
set_option linter.unusedVariables false
set_option linter.unusedSimpArgs false
/-- A reader lies there: what is left, and what was wrong. -/
def RRd (g : Nat) (l : List UInt8) (e : Nat) (w : World) : Prop := w.heap[g]? = some (.cells #[.string (bstr l), .int .i64 e] 78 (0, 0))
theorem RRd.lt {g e : Nat} {l : List UInt8} {w : World} (h : RRd g l e w) : g < w.heap.size := (Array.getElem?_eq_some_iff.1 h).1
theorem RRd.below {g e : Nat} {l : List UInt8} {w w' : World} (h : RRd g l e w) (hb : Below w.heap.size w w') : RRd g l e w' := (hb.block g h.lt).trans h
theorem RRd.c0 {g e : Nat} {l : List UInt8} {w : World} (h : RRd g l e w) : w.cell? ⟨g, 0, none⟩ = some (.string (bstr l)) := by rw [cell_of_row _ _ 0 _ _ _ h]; rfl
theorem RRd.c1 {g e : Nat} {l : List UInt8} {w : World} (h : RRd g l e w) : w.cell? ⟨g, 1, none⟩ = some (.int .i64 e) := by rw [cell_of_row _ _ 1 _ _ _ h]; rfl
theorem RRd.f {g e : Nat} {l : List UInt8} {w : World} (h : RRd g l e w) (j : Nat) : w.frozen? ⟨g, j, none⟩ = false := by simp [World.frozen?, show w.heap[g]? = _ from h]
set_option maxHeartbeats 1000000 in
set_option maxRecDepth 100000 in
theorem Rfail_calls (w : World) (g c : Nat) (l : List UInt8) (h : RRd g l 0 w) :
    Calls Try.prog 63 #[.pointer (some ⟨g, 0, none⟩), .int .i64 c] w fun e w' => e = .returned (.tuple #[]) ∧ RRd g l c w' ∧ UpV g w w' := by
  have c1 := h.c1
  have f1 := h.f 1
  have hs := v_setCell w g 1 _ _ _ (.int .i64 c) h
  have HS := Lib.hid hs; clear hs h
  go_enter Try.func63, Try.ntmps63
  go_wp2
  go_returns
  exact ⟨rfl, HS.out, UpV.set w g 1 _⟩
set_option maxHeartbeats 2000000 in
set_option maxRecDepth 100000 in
theorem RRaw_calls (w : World) (g e : Nat) (l : List UInt8) (n : Int) (h : RRd g l e w) (he : e < 1000) :
    Calls Try.prog 64 #[.pointer (some ⟨g, 0, none⟩), .int .i64 n] w fun x w' => x = .returned (.string (bstr (rawR l e n).1)) ∧ RRd g (rawR l e n).2.1 (rawR l e n).2.2 w' ∧ UpV g w w' := by
  have c0 := h.c0
  have c1 := h.c1
  have hsz := bstr_size l
  by_cases h0 : e = 0
  · subst h0
    have hf := fun c => Rfail_calls w g c l h
    have HF := Lib.hid hf; clear hf
    by_cases h1 : n < 0
    · have hR : rawR l 0 n = ([], l, 1) := by unfold rawR; rw [if_neg (by decide), if_pos h1]
      rw [hR]
      clear hR h
      have hf1 := HF.out 1
      go_enter Try.func64, Try.ntmps64
      go_wp2_with fail
      refine hf1.mono ?_
      rintro x w1 ⟨rfl, h1, h2⟩
      go_wp2
      go_ret
      exact ⟨rfl, h1, h2⟩
    · by_cases h2 : (l.length : Int) < n
      · have hR : rawR l 0 n = ([], l, 3) := by unfold rawR; rw [if_neg (by decide), if_neg h1, if_pos h2]
        rw [hR]
        clear hR h
        have hf1 := HF.out 3
        go_enter Try.func64, Try.ntmps64
        go_wp2_with fail
        refine hf1.mono ?_
        rintro x w1 ⟨rfl, h1, h2⟩
        go_wp2
        go_ret
        exact ⟨rfl, h1, h2⟩
      · obtain ⟨m, rfl⟩ := Int.eq_ofNat_of_zero_le (show 0 ≤ n by omega)
        have hR : rawR l 0 (m : Int) = (l.take m, l.drop m, 0) := by unfold rawR; rw [if_neg (by decide), if_neg h1, if_neg h2]; rfl
        rw [hR]
        clear hR
        have hm : m ≤ l.length := by omega
        have ht := bstr_take l m
        have hd := bstr_drop l m
        have hs := v_setCell w g 0 _ _ _ (.string (bstr (l.drop m))) h
        have f0 := h.f 0
        have HS := Lib.hid hs; clear hs h HF
        generalize bstr (l.take m) = bt at *
        obtain ⟨bd, hbd⟩ : ∃ bd, bstr (l.drop m) = bd := ⟨_, rfl⟩
        rw [hbd] at HS hd
        have HBd := Lib.hid hbd; clear hbd
        generalize bstr l = bl at *
        have hle : (m : Int) ≤ (l.length : Int) := by omega
        go_enter Try.func64, Try.ntmps64
        go_wp2
        go_ret
        exact ⟨rfl, by unfold RRd; rw [HBd.out]; exact HS.out, UpV.set w g 0 _⟩
  · have hR : rawR l e n = ([], l, e) := by unfold rawR; rw [if_pos h0]
    rw [hR]
    clear hR
    have H := Lib.hid h; clear h
    have hne : ((e : Int) != 0) = true := by simp; omega
    go_enter Try.func64, Try.ntmps64
    go_wp2
    go_ret
    exact ⟨rfl, H.out, UpV.refl _ _⟩
set_option maxHeartbeats 2000000 in
set_option maxRecDepth 100000 in
theorem RByte_calls (w : World) (g e : Nat) (l : List UInt8) (h : RRd g l e w) (he : e < 1000) :
    Calls Try.prog 62 #[.pointer (some ⟨g, 0, none⟩)] w fun x w' => x = .returned (.int .u8 ((byteR l e).1 : Nat)) ∧ RRd g (byteR l e).2.1 (byteR l e).2.2 w' ∧ UpV g w w' := by
  have hr := RRaw_calls w g e l 1 h he
  by_cases h0 : e = 0
  · subst h0
    cases l with
    | nil =>
      have hR : rawR [] 0 1 = ([], [], 3) := by decide
      rw [hR] at hr
      have hB : byteR [] 0 = (0, [], 3) := by decide
      rw [hB]
      have HR := Lib.hid hr; clear hr hR hB h
      have hz : (bstr []).toList.isEmpty = true := by rw [ByteArray.toList_eq]; rfl
      generalize bstr [] = bs at *
      go_enter Try.func62, Try.ntmps62
      go_wp2_with fail
      refine HR.out.mono ?_
      rintro x w1 ⟨rfl, h1, h2⟩
      go_wp2
      go_ret
      exact ⟨rfl, h1, h2⟩
    | cons c r =>
      have hR : rawR (c :: r) 0 1 = ([c], r, 0) := by
        unfold rawR; rw [if_neg (by decide), if_neg (by decide), if_neg (by simp; omega)]; rfl
      rw [hR] at hr
      have hB : byteR (c :: r) 0 = (c.toNat, r, 0) := rfl
      rw [hB]
      have HR := Lib.hid hr; clear hr hR hB h
      have hz : (bstr [c]).toList.isEmpty = false := by rw [ByteArray.toList_eq]; rfl
      have h1 : (bstr [c]).size = 1 := rfl
      have h1i : ((bstr [c]).size : Int) = 1 := rfl
      have hlt : 0 < (bstr [c]).size := by rw [h1]; omega
      have hg : (bstr [c])[0] = c := rfl
      have hgi : (((bstr [c])[0].toNat : Nat) : Int) = (c.toNat : Int) := rfl
      go_enter Try.func62, Try.ntmps62
      go_wp2_with fail
      refine HR.out.mono ?_
      rintro x w1 ⟨rfl, h1, h2⟩
      go_wp2
      go_ret
      exact ⟨rfl, h1, h2⟩
  · have hR : rawR l e 1 = ([], l, e) := by unfold rawR; rw [if_pos h0]
    rw [hR] at hr
    have hB : byteR l e = (0, l, e) := by unfold byteR; rw [if_pos h0]
    rw [hB]
    have HR := Lib.hid hr; clear hr hR hB h
    have hz : (bstr []).toList.isEmpty = true := by rw [ByteArray.toList_eq]; rfl
    generalize bstr [] = bs at *
    go_enter Try.func62, Try.ntmps62
    go_wp2_with fail
    refine HR.out.mono ?_
    rintro x w1 ⟨rfl, h1, h2⟩
    go_wp2
    go_ret
    exact ⟨rfl, h1, h2⟩
theorem RRd.row_other {g k e : Nat} {l : List UInt8} {w : World} (h : RRd g l e w) (hk : g ≠ k) (cs : Array Value) : RRd g l e (w.setRow k cs) := (setRow_other w k g cs hk).trans h
theorem RRd.cell_other {g k j e : Nat} {l : List UInt8} {w : World} (h : RRd g l e w) (hk : g ≠ k) (v : Value) : RRd g l e (w.setCell ⟨k, j, none⟩ v) := (Below.heap_setCell w _ _ g hk).trans h
end Go.Proofs.Ytpgcdfdfbcmodaa
