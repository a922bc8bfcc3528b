/- The writer's methods once more: besides, no block of another type turns but the writer's own. -/
import Derived.Test.YtolkeibmllhacaaVarWriter
namespace Go.Proofs.Ytolkeibmllhacaa
open Go.RowKit
set_option linter.unusedVariables false
set_option linter.unusedSimpArgs false
/-- Blocks of another type than bytes stay, but one. -/
def Typ (b : Nat) (w w' : World) : Prop := ∀ k cs t fr, k ≠ b → t ≠ 5 → w.heap[k]? = some (.cells cs t fr) → w'.heap[k]? = some (.cells cs t fr)
theorem Typ.refl (b : Nat) (w : World) : Typ b w w := fun _ _ _ _ _ _ h => h
theorem Typ.trans {b : Nat} {x y z : World} (h : Typ b x y) (k : Typ b y z) : Typ b x z := fun i cs t fr h1 h2 h3 => k i cs t fr h1 h2 (h i cs t fr h1 h2 h3)
structure Bk (B b : Nat) (w w' : World) : Prop where
  below : Below B w w'
  typ : Typ b w w'
theorem Bk.refl (B b : Nat) (w : World) : Bk B b w w := ⟨Below.refl B w, Typ.refl b w⟩
theorem Bk.trans {B b : Nat} {x y z : World} (h : Bk B b x y) (k : Bk B b y z) : Bk B b x z := ⟨h.below.trans k.below, h.typ.trans k.typ⟩
theorem Bk.size {B b : Nat} {x y : World} (h : Bk B b x y) : x.heap.size ≤ y.heap.size := h.below.size
theorem typ_set (b i : Nat) (w : World) (v : Value) : Typ b w (w.setCell ⟨b, i, none⟩ v) := fun k cs t fr h1 _ h3 => (Below.heap_setCell w _ _ k h1).trans h3
theorem typ_grown {b : Nat} {B : Nat} {v : Value} {n : Nat} {xs : List Value} {w w' : World} (hown : w.ownsRow B 5 1 v n xs) (hg : w.grownBy w' v.ownBlock) : Typ b w w' := fun k cs t fr h1 h2 h3 => by
  have hk : k < w.heap.size := (Array.getElem?_eq_some_iff.1 h3).1
  refine (hg.block k hk fun e => ?_).trans h3
  rcases hown.2 with ⟨rfl, _⟩ | ⟨g, cap, cur, rfl, _, hq, _⟩
  · simp [Value.ownBlock] at e
  · obtain rfl : k = g := by simpa [Value.ownBlock] using e
    rw [hq] at h3
    simp only [Option.some.injEq, Obj.cells.injEq] at h3
    exact h2 h3.2.1.symm
theorem typ_alloc (b : Nat) (w : World) (o : Obj) : Typ b w (w.alloc o) := fun k cs t fr h1 h2 h3 => (Below.heap_alloc w _ k (Array.getElem?_eq_some_iff.1 h3).1).trans h3
theorem Check_keep (B b : Nat) (bs : List Value) (w : World) (h : Lib.IsBuilder 29 5 B b bs w) :
    Calls Try.prog 32 #[.pointer (some ⟨b, 0, none⟩)] w fun e w' => e = .returned (.tuple #[]) ∧ Lib.BuilderAt 29 5 B b (.pointer (some ⟨b, 0, none⟩)) bs w' ∧ Bk B b w w' := by
  rcases h with h | h
  · refine (Check_fresh b w h.cell0 h.shape h.frozen0).mono ?_
    rintro e w' ⟨rfl, rfl⟩
    exact ⟨rfl, h.used _, ⟨(Below.refl B w).setCell (p := ⟨b, 0, none⟩) h.1 _, typ_set b 0 w _⟩⟩
  · refine (Check_used b w h.cell0).mono ?_
    rintro e w' ⟨rfl, rfl⟩
    exact ⟨rfl, h, Bk.refl B b _⟩
set_option maxHeartbeats 2000000 in
set_option maxRecDepth 100000 in
theorem BByte_keep (B b : Nat) (bs : List Value) (c : Int) (w : World) (h : Lib.IsBuilder 29 5 B b bs w) (hlen : bs.length + 1 ≤ 140737488355328) (hBw : B ≤ w.heap.size) :
    Calls Try.prog 28 #[.pointer (some ⟨b, 0, none⟩), .int .u8 c] w fun e w' => e = .returned .nilIface ∧ Lib.BuilderAt 29 5 B b (.pointer (some ⟨b, 0, none⟩)) (bs ++ [.int .u8 c]) w' ∧ Bk B b w w' := by
  go_enter Try.func28, Try.ntmps28
  go_wp2_with fail
  refine (Check_keep B b bs _ h).mono ?_
  rintro e w1 ⟨rfl, h1, hb1⟩
  obtain ⟨hB, v, hbk, hown, hne⟩ := h1
  have c0 : w1.cell? ⟨b, 0, none⟩ = some (.pointer (some ⟨b, 0, none⟩)) := by rw [Lib.cell_of_heap hbk]; rfl
  have c1 : w1.cell? ⟨b, 1, none⟩ = some v := by rw [Lib.cell_of_heap hbk]; rfl
  go_wp2_with (with_reducible refine wpList_mark (o := ⟨some 14, _, _, _, _, _⟩) ?_)
  refine Marked.intro ?_
  obtain ⟨i0, hi, hz0, hz1, hz2⟩ := info_parts info_u8
  refine wpList_append_own _ rfl _ _ 25 rfl B 5 i0 (.int .u8 0) 1 1 Try.underlying25 hi hz0 hz1 hz2 rfl (by decide) _ _ _ (by rfl) (hown.alloc _) ⟨w1.heap.size, 0, none⟩ 1 1 [.int .u8 c] (by rfl) rfl ?c1 ?c2 ?c3 ?c4 ?c5 ?_
  case c1 =>
    intro j u hj
    match j, hj with
    | 0, hj => simp at hj; subst hj; simp [Addr.add]
  case c2 => intro u hu; simp at hu; subst hu; rfl
  case c3 => unfold maxLen; omega
  case c4 => omega
  case c5 => have := hb1.size; simp; omega
  intro v' w2 hown' hgrow _
  have hlt : b < w1.heap.size := by
    rcases Nat.lt_or_ge b w1.heap.size with h' | h'
    · exact h'
    · simp [Array.getElem?_eq_none h'] at hbk
  have hb2 : w2.heap[b]? = some (.cells #[.pointer (some ⟨b, 0, none⟩), v] 29 (0, 0)) := by
    rw [hgrow.block b (by simp; omega) (fun e => hne e.symm), Below.heap_alloc w1 _ b hlt]
    exact hbk
  have d0 : w2.cell? ⟨b, 0, none⟩ = some (.pointer (some ⟨b, 0, none⟩)) := by rw [Lib.cell_of_heap hb2]; rfl
  have d1 : w2.cell? ⟨b, 1, none⟩ = some v := by rw [Lib.cell_of_heap hb2]; rfl
  have f1 : w2.frozen? ⟨b, 1, none⟩ = false := Lib.frozen_of_heap hb2 1
  obtain ⟨g, cap, rfl⟩ : ∃ g cap, v' = .slice (some ⟨g, 0, none⟩) (bs.length + 1) cap := by
    rcases hown'.2 with ⟨_, h0⟩ | ⟨g, cap, cur, hv, _⟩
    · omega
    · exact ⟨g, cap, hv⟩
  go_wp2
  go_ret
  refine ⟨rfl, ?_, ?_⟩
  · exact Lib.BuilderAt.put (T := 29) (e := 5) hB hb2 (bs' := bs ++ [.int .u8 c]) (by simpa using hown') (by decide)
  · exact ⟨((hb1.below.alloc (by have := hb1.size; omega) _).grown hgrow (by have := hb1.size; simp; omega) (fun k hk => (hown.lt k hk).1)).setCell (p := ⟨b, 1, none⟩) hB _, ((hb1.typ.trans (typ_alloc b w1 _)).trans (typ_grown (hown.alloc _) hgrow)).trans (typ_set b 1 _ _)⟩
set_option maxHeartbeats 2000000 in
set_option maxRecDepth 100000 in
theorem BString_keep (B b : Nat) (bs : List Value) (s : ByteArray) (w : World) (h : Lib.IsBuilder 29 5 B b bs w) (hlen : bs.length + s.size ≤ 140737488355328) (hBw : B ≤ w.heap.size) :
    Calls Try.prog 29 #[.pointer (some ⟨b, 0, none⟩), .string s] w fun e w' => e = .returned (.tuple #[.int .i64 s.size, .nilIface]) ∧ Lib.BuilderAt 29 5 B b (.pointer (some ⟨b, 0, none⟩)) (bs ++ Lib.strCells s) w' ∧ Bk B b w w' := by
  obtain ⟨i0, hi, hz0, hz1, hz2⟩ := info_parts info_u8
  go_enter Try.func29, Try.ntmps29
  go_wp2_with fail
  refine (Check_keep B b bs _ h).mono ?_
  rintro e w1 ⟨rfl, h1, hb1⟩
  obtain ⟨hB, v, hbk, hown, hne⟩ := h1
  have c0 : w1.cell? ⟨b, 0, none⟩ = some (.pointer (some ⟨b, 0, none⟩)) := by rw [Lib.cell_of_heap hbk]; rfl
  have c1 : w1.cell? ⟨b, 1, none⟩ = some v := by rw [Lib.cell_of_heap hbk]; rfl
  go_wp2_with (with_reducible refine wpList_mark (o := ⟨some 14, _, _, _, _, _⟩) ?_)
  refine Marked.intro ?_
  refine Lib.wpList_append_own_string _ rfl _ _ 25 9 rfl B 5 i0 Try.underlying25 Try.underlying9 hi hz0 hz1 hz2 _ _ _ (by rfl) hown s (by rfl) ?c3 ?c4 ?c5 ?_
  case c3 => unfold maxLen; omega
  case c4 => omega
  case c5 => have := hb1.size; omega
  intro v' w2 hown' hgrow _
  have hlt : b < w1.heap.size := by
    rcases Nat.lt_or_ge b w1.heap.size with h' | h'
    · exact h'
    · simp [Array.getElem?_eq_none h'] at hbk
  have hb2 : w2.heap[b]? = some (.cells #[.pointer (some ⟨b, 0, none⟩), v] 29 (0, 0)) := by
    rw [hgrow.block b hlt (fun e => hne e.symm)]
    exact hbk
  have d0 : w2.cell? ⟨b, 0, none⟩ = some (.pointer (some ⟨b, 0, none⟩)) := by rw [Lib.cell_of_heap hb2]; rfl
  have d1 : w2.cell? ⟨b, 1, none⟩ = some v := by rw [Lib.cell_of_heap hb2]; rfl
  have f1 : w2.frozen? ⟨b, 1, none⟩ = false := Lib.frozen_of_heap hb2 1
  obtain ⟨ao, n', cap, rfl⟩ : ∃ ao n' cap, v' = .slice ao n' cap := by
    rcases hown'.2 with ⟨hv, _⟩ | ⟨g, cap, cur, hv, _⟩
    · exact ⟨_, _, _, hv⟩
    · exact ⟨_, _, _, hv⟩
  go_wp2
  go_ret2
  refine ⟨rfl, ?_, ?_⟩
  · exact Lib.BuilderAt.put (T := 29) (e := 5) hB hb2 (bs' := bs ++ Lib.strCells s) (by simpa [Lib.strCells_length] using hown') (by decide)
  · exact ⟨(hb1.below.grown hgrow (by have := hb1.size; omega) (fun k hk => (hown.lt k hk).1)).setCell (p := ⟨b, 1, none⟩) hB _, (hb1.typ.trans (typ_grown hown hgrow)).trans (typ_set b 1 _ _)⟩
set_option maxHeartbeats 2000000 in
set_option maxRecDepth 100000 in
theorem WByte_keep (B b : Nat) (l : List UInt8) (c : UInt8) (w : World) (h : WrAt B b l w) (hl : l.length + 1 ≤ 140737488355328) :
    Calls Try.prog 10 #[.pointer (some ⟨b, 0, none⟩), .int .u8 (c.toNat : Int)] w fun e w' => e = .returned (.tuple #[]) ∧ WrAt B b (l ++ [c]) w' ∧ Bk B b w w' := by
  have hb := fun w h k => BByte_keep B b (Lib.byteCells l) (c.toNat : Int) w h (by rw [Lib.byteCells_length]; exact hl) k
  rw [byteCells_snoc] at hb
  have HB := Lib.hid hb; clear hb
  obtain ⟨h1, h2⟩ := h
  have H1 := Lib.hid h1; clear h1
  go_enter Try.func10, Try.ntmps10
  go_wp2_with fail
  refine (HB.out _ H1.out h2).mono ?_
  rintro e w1 ⟨rfl, hw, hbl⟩
  go_wp2
  go_returns
  exact ⟨rfl, ⟨Or.inr hw, Nat.le_trans h2 hbl.size⟩, hbl⟩
set_option maxHeartbeats 2000000 in
set_option maxRecDepth 100000 in
theorem WRaw_keep (B b : Nat) (l : List UInt8) (s : ByteArray) (w : World) (h : WrAt B b l w) (hl : l.length + s.size ≤ 140737488355328) :
    Calls Try.prog 17 #[.pointer (some ⟨b, 0, none⟩), .string s] w fun e w' => e = .returned (.tuple #[]) ∧ WrAt B b (l ++ s.data.toList) w' ∧ Bk B b w w' := by
  have hb := fun w h k => BString_keep B b (Lib.byteCells l) s w h (by rw [Lib.byteCells_length]; exact hl) k
  have e : Lib.byteCells l ++ Lib.strCells s = Lib.byteCells (l ++ s.data.toList) := by simp [Lib.byteCells, Lib.strCells]
  rw [e] at hb
  have HB := Lib.hid hb; clear hb
  obtain ⟨h1, h2⟩ := h
  have H1 := Lib.hid h1; clear h1
  go_enter Try.func17, Try.ntmps17
  go_wp2_with fail
  refine (HB.out _ H1.out h2).mono ?_
  rintro e w1 ⟨rfl, hw, hbl⟩
  go_wp2
  go_returns
  exact ⟨rfl, ⟨Or.inr hw, Nat.le_trans h2 hbl.size⟩, hbl⟩
set_option maxHeartbeats 2000000 in
set_option maxRecDepth 100000 in
theorem WUint_keep (B b : Nat) (l : List UInt8) (n : Nat) (w : World) (h : WrAt B b l w) (hn : n < 18446744073709551616) (hl : l.length + 10 ≤ 140737488355328) :
    Calls Try.prog 11 #[.pointer (some ⟨b, 0, none⟩), .int .u64 n] w fun e w' => e = .returned (.tuple #[]) ∧ WrAt B b (l ++ numL n) w' ∧ Bk B b w w' := by
  have h10 := numL_64 n hn
  have H10 := Lib.hid h10; clear h10
  have H := Lib.hid h; clear h
  go_enter Try.func11, Try.ntmps11
  go_wp2
  go_loopw [1] (fun x wr => ∃ (m : Nat) (d : List UInt8), m ≤ n ∧ x = .int .u64 m ∧ Hid (d ++ numL m = l ++ numL n) ∧ WrAt B b d wr ∧ Bk B b w wr) (fun x _ => (intOf x).toNat)
  case atStart => exact ⟨n, l, Nat.le_refl _, rfl, Lib.hid rfl, H.out, Bk.refl _ _ _⟩
  case round =>
    obtain ⟨m, d, hm, rfl, hd, hw, hb⟩ := hrel
    have hlen : d.length + (numL m).length = l.length + (numL n).length := by
      have := congrArg List.length hd.out
      rwa [List.length_append, List.length_append] at this
    by_cases h128 : m < 128
    · have hs := numL_small m h128
      rw [hs] at hlen
      have hd2 := hd.out
      rw [hs] at hd2
      have Hd2 := Lib.hid hd2; clear hd2 hs
      have hdl : d.length + 1 ≤ 140737488355328 := by have := H10.out; simp at hlen; omega
      have hc : (m : Int) = ((UInt8.ofNat m).toNat : Int) := by rw [UInt8.toNat_ofNat']; omega
      have hge : ¬ (128 : Int) ≤ (m : Int) := by omega
      have hby := WByte_keep B b d (UInt8.ofNat m) wr hw hdl
      rw [← hc] at hby
      have Hby := Lib.hid hby; clear hby hlen hc
      go_wp2_with fail
      refine Hby.out.mono ?_
      rintro e w1 ⟨rfl, hw1, hb1⟩
      go_wp2
      go_returns
      exact ⟨rfl, by rw [← Hd2.out]; exact hw1, hb.trans hb1⟩
    · have hs := numL_big m h128
      rw [hs] at hlen
      have hd2 := hd.out
      rw [hs] at hd2
      have Hd2 := Lib.hid hd2; clear hd2 hs
      have hdl : d.length + 1 ≤ 140737488355328 := by have := H10.out; simp at hlen; omega
      have hge : (128 : Int) ≤ (m : Int) := by omega
      have hby := WByte_keep B b d (UInt8.ofNat (m % 128 + 128)) wr hw hdl
      have Hby := Lib.hid hby; clear hby hlen
      have hdv : ((m : Int) / 128) = ((m / 128 : Nat) : Int) := by simp
      have Hdv := Lib.hid hdv; clear hdv
      go_wp2_with fail
      rw [or_128]
      refine Hby.out.mono ?_
      rintro e w1 ⟨rfl, hw1, hb1⟩
      go_wp2
      exact ⟨⟨m / 128, _, by omega, by rw [Hdv.out], by rw [← Hd2.out]; exact Lib.hid (by simp), hw1, hb.trans hb1⟩, by simp only [intOf]; omega⟩
set_option maxHeartbeats 2000000 in
set_option maxRecDepth 100000 in
theorem WText_keep (B b : Nat) (l : List UInt8) (s : ByteArray) (w : World) (h : WrAt B b l w) (hl : l.length + 10 + s.size ≤ 140737488355328) :
    Calls Try.prog 15 #[.pointer (some ⟨b, 0, none⟩), .string s] w fun e w' => e = .returned (.tuple #[]) ∧ WrAt B b (l ++ (numL s.size ++ s.data.toList)) w' ∧ Bk B b w w' := by
  have h10 := numL_64 s.size (by omega)
  have hu := WUint_keep B b l s.size w h (by omega) (by omega)
  have hr := fun w1 (h1 : WrAt B b (l ++ numL s.size) w1) => WRaw_keep B b (l ++ numL s.size) s w1 h1 (by rw [List.length_append]; omega)
  rw [List.append_assoc] at hr
  have HU := Lib.hid hu; clear hu
  have HR := Lib.hid hr; clear hr h10
  go_enter Try.func15, Try.ntmps15
  go_wp2_with fail
  refine HU.out.mono ?_
  rintro e w1 ⟨rfl, hw1, hb1⟩
  go_wp2_with fail
  refine (HR.out _ hw1).mono ?_
  rintro e w2 ⟨rfl, hw2, hb2⟩
  go_wp2
  go_returns
  exact ⟨rfl, hw2, hb1.trans hb2⟩
set_option maxHeartbeats 2000000 in
set_option maxRecDepth 100000 in
theorem WInt_keep (B b : Nat) (l : List UInt8) (n : Int) (w : World) (h : WrAt B b l w) (h0 : -9223372036854775808 ≤ n) (h1 : n < 9223372036854775808) (hl : l.length + 10 ≤ 140737488355328) :
    Calls Try.prog 13 #[.pointer (some ⟨b, 0, none⟩), .int .i64 n] w fun e w' => e = .returned (.tuple #[]) ∧ WrAt B b (l ++ numL (zig n)) w' ∧ Bk B b w w' := by
  have hu := WUint_keep B b l (zig n) w h (zig_lt n h0 h1) hl
  have HU := Lib.hid hu; clear hu
  go_enter Try.func13, Try.ntmps13
  go_wp2_with fail
  rw [zig_bits n h0 h1]
  refine HU.out.mono ?_
  rintro e w1 ⟨rfl, hw1, hb1⟩
  go_wp2
  go_returns
  exact ⟨rfl, hw1, hb1⟩
end Go.Proofs.Ytolkeibmllhacaa
