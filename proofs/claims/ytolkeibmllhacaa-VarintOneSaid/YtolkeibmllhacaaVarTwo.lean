/- Writers beside others: what writing a number turns is the writer's own block and its own row alone. -/
import Derived.Test.YtolkeibmllhacaaVarAwake
namespace Go.Proofs.Ytolkeibmllhacaa
open Go.RowKit
set_option linter.unusedVariables false
set_option linter.unusedSimpArgs false
/-- Below R nothing has turned but the block b. -/
structure Near (R b : Nat) (w w' : World) : Prop where
  os : w'.os = w.os
  tape : w'.tape = w.tape
  output : w'.output = w.output
  size : w.heap.size ≤ w'.heap.size
  block : ∀ k, k < R → k ≠ b → w'.heap[k]? = w.heap[k]?
theorem Near.refl (R b : Nat) (w : World) : Near R b w w := ⟨rfl, rfl, rfl, Nat.le_refl _, fun _ _ _ => rfl⟩
theorem Near.trans {R b : Nat} {x y z : World} (h : Near R b x y) (k : Near R b y z) : Near R b x z := ⟨k.os.trans h.os, k.tape.trans h.tape, k.output.trans h.output, Nat.le_trans h.size k.size, fun i h1 h2 => (k.block i h1 h2).trans (h.block i h1 h2)⟩
theorem Near.below {R b B : Nat} {w w' : World} (h : Near R b w w') (hR : B ≤ R) (hb : B ≤ b) : Below B w w' := ⟨h.os, h.tape, h.output, h.size, fun k hk => h.block k (by omega) (by omega)⟩
/-- A writer whose bytes lie from R on. -/
def Wr2 (R b : Nat) (l : List UInt8) (w : World) : Prop := ∃ p v, (p = .pointer none ∨ p = .pointer (some ⟨b, 0, none⟩)) ∧ w.heap[b]? = some (.cells #[p, v] 29 (0, 0)) ∧ w.ownsRow R 5 1 v l.length (Lib.byteCells l) ∧ v.ownBlock ≠ some b ∧ R ≤ w.heap.size
theorem Wr2.wrAt {R b B : Nat} {l : List UInt8} {w : World} (h : Wr2 R b l w) (hR : B ≤ R) (hb : B ≤ b) : WrAt B b l w := by
  obtain ⟨p, v, hp, hbk, hown, hne, hsz⟩ := h
  have hown' : w.ownsRow B 5 1 v (Lib.byteCells l).length (Lib.byteCells l) := by
    rw [Lib.byteCells_length]
    obtain ⟨h1, h2⟩ := hown
    refine ⟨h1, ?_⟩
    rcases h2 with h2 | ⟨g, cap, cur, h3, h4, h5⟩
    · exact Or.inl h2
    · exact Or.inr ⟨g, cap, cur, h3, by omega, h5⟩
  refine ⟨?_, by omega⟩
  rcases hp with rfl | rfl
  · exact Or.inl ⟨hb, v, hbk, hown', hne⟩
  · exact Or.inr ⟨hb, v, hbk, hown', hne⟩
theorem Wr2.lt {R b : Nat} {l : List UInt8} {w : World} (h : Wr2 R b l w) : b < w.heap.size := by
  obtain ⟨p, v, hp, hbk, -⟩ := h
  exact (Array.getElem?_eq_some_iff.1 hbk).1
/-- Beside it: it lies as it lay where nothing below its size has turned but another block. -/
theorem Wr2.near {R R2 b b2 : Nat} {l : List UInt8} {w w' : World} (h : Wr2 R b l w) (hn : Near R2 b2 w w') (h2 : w.heap.size ≤ R2) (hb : b ≠ b2) (hbR : b2 < R) : Wr2 R b l w' := by
  have hlt := h.lt
  obtain ⟨p, v, hp, hbk, hown, hne, hsz⟩ := h
  refine ⟨p, v, hp, (hn.block b (by omega) hb).trans hbk, ?_, hne, Nat.le_trans hsz hn.size⟩
  obtain ⟨h1, h3⟩ := hown
  refine ⟨h1, ?_⟩
  rcases h3 with h3 | ⟨g, cap, cur, h3, h4, h5, h6⟩
  · exact Or.inl h3
  · have hg : g < w.heap.size := (Array.getElem?_eq_some_iff.1 h5).1
    exact Or.inr ⟨g, cap, cur, h3, h4, (hn.block g (by omega) (by omega)).trans h5, h6⟩
theorem Check_two (R b : Nat) (l : List UInt8) (w : World) (h : Wr2 R b l w) :
    Calls Try.prog 32 #[.pointer (some ⟨b, 0, none⟩)] w fun e w' => e = .returned (.tuple #[]) ∧ (∃ v, w'.heap[b]? = some (.cells #[.pointer (some ⟨b, 0, none⟩), v] 29 (0, 0)) ∧ w'.ownsRow R 5 1 v l.length (Lib.byteCells l) ∧ v.ownBlock ≠ some b ∧ R ≤ w'.heap.size) ∧ Near R b w w' := by
  obtain ⟨p, v, hp, hbk, hown, hne, hsz⟩ := h
  have c0 : w.cell? ⟨b, 0, none⟩ = some p := by rw [Lib.cell_of_heap hbk]; rfl
  rcases hp with rfl | rfl
  · refine (Check_fresh b w c0 (by simp [World.shape?, hbk]) (by simp [World.frozen?, hbk])).mono ?_
    rintro e w' ⟨rfl, rfl⟩
    refine ⟨rfl, ⟨v, ?_, ?_, hne, by simp [World.setCell]; exact hsz⟩, ⟨rfl, rfl, rfl, by simp [World.setCell], fun k _ hk => Below.heap_setCell _ _ _ _ hk⟩⟩
    · rw [v_setCell _ _ _ _ _ _ _ hbk]; rfl
    · exact hown.kept (row := some b) ⟨rfl, rfl, rfl, by simp [World.setCell], fun k _ hk => Below.heap_setCell _ _ _ _ (fun e => hk (by simp [e]))⟩ (Or.inr hne)
  · refine (Check_used b w c0).mono ?_
    rintro e w' ⟨rfl, rfl⟩
    exact ⟨rfl, ⟨v, hbk, hown, hne, hsz⟩, Near.refl _ _ _⟩
set_option maxHeartbeats 2000000 in
set_option maxRecDepth 100000 in
theorem BByte_two (R b : Nat) (l : List UInt8) (c : UInt8) (w : World) (h : Wr2 R b l w) (hlen : l.length + 1 ≤ 140737488355328) :
    Calls Try.prog 28 #[.pointer (some ⟨b, 0, none⟩), .int .u8 (c.toNat : Int)] w fun e w' => e = .returned .nilIface ∧ Wr2 R b (l ++ [c]) w' ∧ Near R b w w' := by
  go_enter Try.func28, Try.ntmps28
  go_wp2_with fail
  refine (Check_two R b l _ h).mono ?_
  rintro e w1 ⟨rfl, ⟨v, hbk, hown, hne, hsz⟩, hb1⟩
  have c0 : w1.cell? ⟨b, 0, none⟩ = some (.pointer (some ⟨b, 0, none⟩)) := by rw [Lib.cell_of_heap hbk]; rfl
  have c1 : w1.cell? ⟨b, 1, none⟩ = some v := by rw [Lib.cell_of_heap hbk]; rfl
  go_wp2_with (with_reducible refine wpList_mark (o := ⟨some 14, _, _, _, _, _⟩) ?_)
  refine Marked.intro ?_
  obtain ⟨i0, hi, hz0, hz1, hz2⟩ := info_parts info_u8
  refine wpList_append_own _ rfl _ _ 25 rfl R 5 i0 (.int .u8 0) 1 1 Try.underlying25 hi hz0 hz1 hz2 rfl (by decide) _ _ _ (by rfl) (hown.alloc _) ⟨w1.heap.size, 0, none⟩ 1 1 [.int .u8 (c.toNat : Int)] (by rfl) rfl ?c1 ?c2 ?c3 ?c4 ?c5 ?_
  case c1 =>
    intro j u hj
    match j, hj with
    | 0, hj => simp at hj; subst hj; simp [Addr.add]
  case c2 => intro u hu; simp at hu; subst hu; rfl
  case c3 => unfold maxLen; omega
  case c4 => omega
  case c5 => simp; omega
  intro v' w2 hown' hgrow _
  have hlt : b < w1.heap.size := by
    rcases Nat.lt_or_ge b w1.heap.size with h' | h'
    · exact h'
    · simp [Array.getElem?_eq_none h'] at hbk
  have hb2 : w2.heap[b]? = some (.cells #[.pointer (some ⟨b, 0, none⟩), v] 29 (0, 0)) := by
    rw [hgrow.block b (by simp; omega) (fun e => hne e.symm), Below.heap_alloc w1 _ b hlt]
    exact hbk
  have d0 : w2.cell? ⟨b, 0, none⟩ = some (.pointer (some ⟨b, 0, none⟩)) := by rw [Lib.cell_of_heap hb2]; rfl
  have d1 : w2.cell? ⟨b, 1, none⟩ = some v := by rw [Lib.cell_of_heap hb2]; rfl
  have f1 : w2.frozen? ⟨b, 1, none⟩ = false := Lib.frozen_of_heap hb2 1
  obtain ⟨g, cap, rfl⟩ : ∃ g cap, v' = .slice (some ⟨g, 0, none⟩) (l.length + 1) cap := by
    rcases hown'.2 with ⟨_, h0⟩ | ⟨g, cap, cur, hv, _⟩
    · omega
    · exact ⟨g, cap, hv⟩
  go_wp2
  go_ret
  have hne' := Lib.ownBlock_ne (T := 29) hown' hb2 (by decide)
  have hsz2 : w1.heap.size + 1 ≤ w2.heap.size := by have := hgrow.size; simpa using this
  refine ⟨rfl, ⟨_, _, Or.inr rfl, by rw [v_setCell _ _ _ _ _ _ _ hb2]; rfl, ?_, hne', by simp [World.setCell]; omega⟩, ?_⟩
  · have := hown'.kept (row := some b) (w' := w2.setCell ⟨b, 1, none⟩ (.slice (some ⟨g, 0, none⟩) (l.length + 1) cap)) ⟨rfl, rfl, rfl, by simp [World.setCell], fun k _ hk => Below.heap_setCell _ _ _ _ (fun e => hk (by simp [e]))⟩ (Or.inr hne')
    rw [byteCells_snoc] at this
    simpa using this
  · refine hb1.trans ⟨hgrow.os, hgrow.tape, hgrow.output, by simp [World.setCell]; omega, fun k hk1 hk2 => ?_⟩
    rw [Below.heap_setCell _ _ _ _ hk2, hgrow.block k (by simp; omega) (fun e => by have := (hown.lt k e.symm).1; omega), Below.heap_alloc w1 _ k (by omega)]
set_option maxHeartbeats 1000000 in
set_option maxRecDepth 100000 in
theorem WByte_two (R b : Nat) (l : List UInt8) (c : UInt8) (w : World) (h : Wr2 R b l w) (hl : l.length + 1 ≤ 140737488355328) :
    Calls Try.prog 10 #[.pointer (some ⟨b, 0, none⟩), .int .u8 (c.toNat : Int)] w fun e w' => e = .returned (.tuple #[]) ∧ Wr2 R b (l ++ [c]) w' ∧ Near R b w w' := by
  have hb := BByte_two R b l c w h hl
  have HB := Lib.hid hb; clear hb h
  go_enter Try.func10, Try.ntmps10
  go_wp2_with fail
  refine HB.out.mono ?_
  rintro e w1 ⟨rfl, hw, hbl⟩
  go_wp2
  go_returns
  exact ⟨rfl, hw, hbl⟩
set_option maxHeartbeats 2000000 in
set_option maxRecDepth 100000 in
theorem WUint_two (R b : Nat) (l : List UInt8) (n : Nat) (w : World) (h : Wr2 R b l w) (hn : n < 18446744073709551616) (hl : l.length + 10 ≤ 140737488355328) :
    Calls Try.prog 11 #[.pointer (some ⟨b, 0, none⟩), .int .u64 n] w fun e w' => e = .returned (.tuple #[]) ∧ Wr2 R b (l ++ numL n) w' ∧ Near R b w w' := by
  have h10 := numL_64 n hn
  have H10 := Lib.hid h10; clear h10
  have H := Lib.hid h; clear h
  go_enter Try.func11, Try.ntmps11
  go_wp2
  go_loopw [1] (fun x wr => ∃ (m : Nat) (d : List UInt8), m ≤ n ∧ x = .int .u64 m ∧ Hid (d ++ numL m = l ++ numL n) ∧ Wr2 R b d wr ∧ Near R b w wr) (fun x _ => (intOf x).toNat)
  case atStart => exact ⟨n, l, Nat.le_refl _, rfl, Lib.hid rfl, H.out, Near.refl _ _ _⟩
  case round =>
    obtain ⟨m, d, hm, rfl, hd, hw, hb⟩ := hrel
    have hlen : d.length + (numL m).length = l.length + (numL n).length := by
      have := congrArg List.length hd.out
      rwa [List.length_append, List.length_append] at this
    by_cases h128 : m < 128
    · have hs := numL_small m h128
      rw [hs] at hlen
      have hd2 := hd.out
      rw [hs] at hd2
      have Hd2 := Lib.hid hd2; clear hd2 hs
      have hdl : d.length + 1 ≤ 140737488355328 := by have := H10.out; simp at hlen; omega
      have hc : (m : Int) = ((UInt8.ofNat m).toNat : Int) := by rw [UInt8.toNat_ofNat']; omega
      have hge : ¬ (128 : Int) ≤ (m : Int) := by omega
      have hby := WByte_two R b d (UInt8.ofNat m) wr hw hdl
      rw [← hc] at hby
      have Hby := Lib.hid hby; clear hby hlen hc
      go_wp2_with fail
      refine Hby.out.mono ?_
      rintro e w1 ⟨rfl, hw1, hb1⟩
      go_wp2
      go_returns
      exact ⟨rfl, by rw [← Hd2.out]; exact hw1, hb.trans hb1⟩
    · have hs := numL_big m h128
      rw [hs] at hlen
      have hd2 := hd.out
      rw [hs] at hd2
      have Hd2 := Lib.hid hd2; clear hd2 hs
      have hdl : d.length + 1 ≤ 140737488355328 := by have := H10.out; simp at hlen; omega
      have hge : (128 : Int) ≤ (m : Int) := by omega
      have hby := WByte_two R b d (UInt8.ofNat (m % 128 + 128)) wr hw hdl
      have Hby := Lib.hid hby; clear hby hlen
      have hdv : ((m : Int) / 128) = ((m / 128 : Nat) : Int) := by simp
      have Hdv := Lib.hid hdv; clear hdv
      go_wp2_with fail
      rw [or_128]
      refine Hby.out.mono ?_
      rintro e w1 ⟨rfl, hw1, hb1⟩
      go_wp2
      exact ⟨⟨m / 128, _, by omega, by rw [Hdv.out], by rw [← Hd2.out]; exact Lib.hid (by simp), hw1, hb.trans hb1⟩, by simp only [intOf]; omega⟩
theorem wr2_new (w : World) (R : Nat) (hR : R ≤ w.heap.size + 1) : Wr2 R w.heap.size [] (w.alloc (.cells #[.pointer none, .slice none 0 0] 29)) :=
  ⟨_, _, Or.inl rfl, heap_alloc_new w _, World.ownsRow_nil _ _ _ _, by simp [Value.ownBlock], by simpa using hR⟩
end Go.Proofs.Ytolkeibmllhacaa
