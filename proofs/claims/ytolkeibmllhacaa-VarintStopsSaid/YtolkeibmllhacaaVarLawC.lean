/- The walk of the law VarintStops: it answers true. -/
import Derived.Test.YtolkeibmllhacaaVarAwake
namespace Go.Proofs.Ytolkeibmllhacaa
open Go.RowKit
set_option linter.unusedVariables false
set_option linter.unusedSimpArgs false
theorem Byte_stop (w : World) (g : Nat) (l : List UInt8) (h : Rd g l 3 w) :
    Calls Try.prog 20 #[.pointer (some ⟨g, 0, none⟩)] w fun x w' => x = .returned (.int .u8 0) ∧ Rd g l 3 w' ∧ UpV g w w' := by
  have := Byte_calls w g 3 l h (by omega)
  rwa [show byteR l 3 = (0, l, 3) from rfl] at this
theorem Uint_stop (w : World) (g : Nat) (l : List UInt8) (h : Rd g l 3 w) :
    Calls Try.prog 21 #[.pointer (some ⟨g, 0, none⟩)] w fun x w' => x = .returned (.int .u64 0) ∧ Rd g l 3 w' ∧ UpV g w w' := by
  have := Uint_calls w g 3 l h (by omega)
  rwa [show uintR l 3 = (0, l, 3) from rfl] at this
theorem Int_stop (w : World) (g : Nat) (l : List UInt8) (h : Rd g l 3 w) :
    Calls Try.prog 22 #[.pointer (some ⟨g, 0, none⟩)] w fun x w' => x = .returned (.int .i64 0) ∧ Rd g l 3 w' ∧ UpV g w w' := by
  have := Int_calls w g 3 l h (by omega)
  rw [show uintR l 3 = (0, l, 3) from rfl] at this
  simp only [show unz 0 = 0 from by decide] at this
  exact this
theorem Text_stop (w : World) (g : Nat) (l : List UInt8) (n : Int) (hn : n < 9223372036854775808) (h : Rd g l 3 w) :
    Calls Try.prog 23 #[.pointer (some ⟨g, 0, none⟩), .int .i64 n] w fun x w' => x = .returned (.string ⟨#[]⟩) ∧ Rd g l 3 w' ∧ UpV g w w' := by
  have := Text_calls w g 3 l n h (by omega) hn
  rwa [show textR l 3 n = ([], l, 3) from rfl] at this
theorem Raw_stop (w : World) (g : Nat) (l : List UInt8) (n : Int) (h : Rd g l 3 w) :
    Calls Try.prog 24 #[.pointer (some ⟨g, 0, none⟩), .int .i64 n] w fun x w' => x = .returned (.string ⟨#[]⟩) ∧ Rd g l 3 w' ∧ UpV g w w' := by
  have := Raw_calls w g 3 l n h (by omega)
  rwa [show rawR l 3 n = ([], l, 3) from rfl] at this
set_option maxRecDepth 100000 in
set_option maxHeartbeats 8000000 in
theorem VarintStops_walk (a0 : ByteArray) (v1 : Value) (xs : List (Int × Int × Int × ByteArray)) (w : World) (w0 : a0.size ≤ 140737488351232)
    (w1 : ∃ ad cap, v1 = .slice ad xs.length cap ∧ (xs ≠ [] → ∃ g o, ad = some ⟨g, o, none⟩ ∧ ∀ (j : Nat) x, xs[j]? = some x →
      (w.cell? ⟨g, o + j * 4, none⟩ = some (.int .i64 x.1) ∧ w.cell? ⟨g, o + j * 4 + 1, none⟩ = some (.int .i64 x.2.1) ∧ w.cell? ⟨g, o + j * 4 + 2, none⟩ = some (.int .u64 x.2.2.1) ∧ w.cell? ⟨g, o + j * 4 + 3, none⟩ = some (.string x.2.2.2)) ∧
      (Lit.int .i64 x.1).wf = true ∧ (Lit.int .i64 x.2.1).wf = true ∧ (Lit.int .u64 x.2.2.1).wf = true)) :
    Calls Try.prog 8 #[.string a0, v1] w fun e w' => e = .returned (.bool true) ∧ Below w.heap.size w w' := by
  obtain ⟨ad, cap, rfl, hx⟩ := w1
  have HX := Lib.hid hx; clear hx
  by_cases hbig : 500 < a0.size
  · go_enter Try.func8, Try.ntmps8
    go_wp2_with fail
    refine (awake_calls _).mono ?_
    rintro e w1 ⟨rfl, hb1⟩
    go_wp2_with fail
    refine (awake_calls _).mono ?_
    rintro e w2 ⟨rfl, hb2⟩
    go_wp2
    go_ret
    exact ⟨rfl, bn hb1 hb2⟩
  by_cases hbig2 : 100 < (xs.length : Int)
  · go_enter Try.func8, Try.ntmps8
    go_wp2_with fail
    refine (awake_calls _).mono ?_
    rintro e w1 ⟨rfl, hb1⟩
    go_wp2_with fail
    refine (awake_calls _).mono ?_
    rintro e w2 ⟨rfl, hb2⟩
    go_wp2
    go_ret
    exact ⟨rfl, bn hb1 hb2⟩
  have hL : a0.data.toList.length = a0.size := rfl
  have hraw : rawR a0.data.toList 0 ((a0.size : Int) + 1) = ([], a0.data.toList, 3) := by
    unfold rawR; rw [if_neg (by decide), if_neg (by omega), if_pos (by rw [hL]; omega)]
  have Hraw := Lib.hid hraw; clear hraw
  have hsm : a0.size ≤ 500 := by omega
  have hi1 : ¬ 500 < (a0.size : Int) := by omega
  have hnew : ∀ w, Calls Try.prog 19 #[.string a0] w fun e w' => e = .returned (.pointer (some ⟨w.heap.size, 0, none⟩)) ∧ Rd w.heap.size a0.data.toList 0 w' ∧ Below w.heap.size w w' ∧ w'.heap.size = w.heap.size + 1 := fun w => New_calls w a0
  have HN := Lib.hid hnew; clear hnew
  generalize a0.data.toList = L at *
  go_enter Try.func8, Try.ntmps8
  go_wp2_with fail
  refine (awake_calls _).mono ?_
  rintro e w1 ⟨rfl, hb1⟩
  go_wp2_with fail
  refine (HN.out _).mono ?_
  rintro e w2 ⟨rfl, hr2, hb2, hs2⟩
  have hg := hb1.size
  have hc2 := bn hb1 hb2
  clear hb1 hb2 hs2
  generalize w1.heap.size = g at *
  go_wp2_with fail
  refine (Raw_calls _ g 0 L _ hr2 (by omega)).mono ?_
  rintro e w3 ⟨rfl, hr3, hu3⟩
  rw [Hraw.out] at hr3 ⊢
  rw [show bstr (([] : List UInt8), L, 3).1 = ⟨#[]⟩ from rfl]
  have hc3 := hc2.trans (hu3.below hg)
  clear hr2 hu3 hc2
  clear Hraw HN
  have hd1 : decide (500 < (a0.size : Int)) = false := by simpa using hi1
  have hd2 : decide (100 < (xs.length : Int)) = false := by simpa using hbig2
  have hleft : ∀ wr, Rd g L 3 wr → Calls Try.prog 27 #[.pointer (some ⟨g, 0, none⟩)] wr fun x w' => x = .returned (.int .i64 a0.size) ∧ wr = w' := by
    intro wr h
    have := Left_calls wr g 3 L h
    rwa [hL] at this
  have HLeft := Lib.hid hleft; clear hleft
  clear hL
  go_wp2
  go_loopw [30] (fun i wr => ∃ (j : Nat), j ≤ xs.length ∧ i = .int .i64 j ∧ Hid (Rd g L 3 wr) ∧ Below w.heap.size w wr) (fun i _ => xs.length - (intOf i).toNat)
  case atStart => exact ⟨0, by omega, rfl, Lib.hid hr3, hc3⟩
  case round =>
    obtain ⟨j, hj, rfl, hr, hc⟩ := hrel
    by_cases hlt : j < xs.length
    · obtain ⟨g0, o, rfl, hx⟩ := HX.out (by intro e; subst e; simp at hlt)
      have hq := hx j xs[j] (List.getElem?_eq_getElem hlt)
      clear HX hx
      generalize xs[j] = x at *
      obtain ⟨k, n, u, s⟩ := x
      obtain ⟨⟨q0, q1, q2, q3⟩, -, wn, -⟩ := hq
      obtain ⟨-, hn⟩ := bounds_i64 wn
      have hn : n < 9223372036854775808 := by simp only at hn; omega
      clear wn
      have r0 := (hc.cell (World.block_lt_of_cell? w _ q0)).trans q0
      have r1 := (hc.cell (World.block_lt_of_cell? w _ q1)).trans q1
      have r2 := (hc.cell (World.block_lt_of_cell? w _ q2)).trans q2
      have r3 := (hc.cell (World.block_lt_of_cell? w _ q3)).trans q3
      simp only at r0 r1 r2 r3
      clear q0 q1 q2 q3
      have hra := (hr.out).below ((Below.refl wr.heap.size wr).alloc (Nat.le_refl _) (.cells #[.int .i64 k, .int .i64 n, .int .u64 u, .string s] 32))
      have hca := hc.trans ((Below.refl wr.heap.size wr).alloc (Nat.le_refl _) (.cells #[.int .i64 k, .int .i64 n, .int .u64 u, .string s] 32) |>.mono hc.size)
      have hsa := heap_alloc_new wr (.cells #[.int .i64 k, .int .i64 n, .int .u64 u, .string s] 32)
      have hne : g ≠ wr.heap.size := Nat.ne_of_lt hr.out.lt
      go_wp2_with fail
      clear r0 r1 r2 r3
      generalize wr.heap.size = pb at *
      generalize wr.alloc (.cells #[.int .i64 k, .int .i64 n, .int .u64 u, .string s] 32) = x0 at *
      refine (Byte_stop _ g L hra).mono ?_
      rintro e x1 ⟨rfl, hr1, hu1⟩
      go_wp2_with fail
      refine (Uint_stop _ g L hr1).mono ?_
      rintro e x2 ⟨rfl, hr2, hu2⟩
      go_wp2_with fail
      refine (Int_stop _ g L hr2).mono ?_
      rintro e x3 ⟨rfl, hr3, hu3⟩
      have hu3 := (hu1.trans hu2).trans hu3
      have s3 := (hu3.other pb (Ne.symm hne)).trans hsa
      have q3 : x3.cell? ⟨pb, 1, none⟩ = some (.int .i64 n) := by rw [cell_of_row _ _ 1 _ _ _ s3]; rfl
      go_wp2_with fail
      refine (Text_stop _ g L n hn hr3).mono ?_
      rintro e x4 ⟨rfl, hr4, hu4⟩
      have s4 := (hu4.other pb (Ne.symm hne)).trans s3
      have q4 : x4.cell? ⟨pb, 1, none⟩ = some (.int .i64 n) := by rw [cell_of_row _ _ 1 _ _ _ s4]; rfl
      go_wp2_with fail
      refine (Raw_stop _ g L n hr4).mono ?_
      rintro e x5 ⟨rfl, hr5, hu5⟩
      have hc5 := hca.trans (((hu3.trans hu4).trans hu5).below hg)
      have H5 := Lib.hid hr5
      clear hra hr1 hr2 hr3 hr4 hr5 hu1 hu2 hu3 hu4 hu5 s3 s4 hsa q3 q4
      go_wp2_with fail
      refine (HLeft.out _ H5.out).mono ?_
      rintro e x6 ⟨rfl, rfl⟩
      go_wp2_with fail
      refine (Err_calls _ g 3 L H5.out).mono ?_
      rintro e x6 ⟨rfl, rfl⟩
      go_wp2
      exact ⟨⟨j + 1, by omega, rfl, H5, hc5⟩, by simp only [intOf]; omega⟩
    · go_wp2_with fail
      refine (Done_calls _ g 3 L hr.out).mono ?_
      rintro e w' ⟨rfl, rfl⟩
      rw [show doneR L 3 = 3 from rfl]
      go_wp2
      go_ret
      exact ⟨rfl, hc⟩
end Go.Proofs.Ytolkeibmllhacaa
