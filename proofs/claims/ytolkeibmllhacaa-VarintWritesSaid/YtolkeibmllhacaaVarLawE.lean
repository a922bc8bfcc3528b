/- The walk of the law VarintJoins: it answers true. -/
import Derived.Test.YtolkeibmllhacaaVarRef
import Derived.Lib.QuietBelow
namespace Go.Proofs.Ytolkeibmllhacaa
open Go.RowKit
set_option linter.unusedVariables false
set_option linter.unusedSimpArgs false
/-- The bytes of all, joined. -/
def catF {α : Type} (f : α → List UInt8) (xs : List α) : List UInt8 := (xs.map f).flatten
theorem catF_take {α : Type} (f : α → List UInt8) (xs : List α) (j : Nat) (h : j < xs.length) : catF f (xs.take (j + 1)) = catF f (xs.take j) ++ f xs[j] := by
  unfold catF
  rw [List.take_succ_eq_append_getElem h, List.map_append, List.flatten_append]; simp
theorem catF_drop {α : Type} (f : α → List UInt8) (xs : List α) (j : Nat) (h : j < xs.length) : catF f (xs.drop j) = f xs[j] ++ catF f (xs.drop (j + 1)) := by
  unfold catF
  rw [List.drop_eq_getElem_cons h, List.map_cons, List.flatten_cons]
theorem catF_len {α : Type} (f : α → List UInt8) (K : Nat) : ∀ (xs : List α), (∀ x ∈ xs, (f x).length ≤ K) → (catF f xs).length ≤ K * xs.length
  | [], _ => by simp [catF]
  | x :: xs, h => by
    have h1 := h x (by simp)
    have h2 := catF_len f K xs fun y hy => h y (by simp [hy])
    have : catF f (x :: xs) = f x ++ catF f xs := by simp [catF]
    rw [this, List.length_append, List.length_cons, Nat.mul_add]; omega
theorem catF_all {α : Type} (f : α → List UInt8) (xs : List α) (j : Nat) (h : ¬ j < xs.length) : catF f (xs.take j) = catF f xs := by rw [List.take_of_length_le (by omega)]
theorem catF_none {α : Type} (f : α → List UInt8) (xs : List α) (j : Nat) (h : ¬ j < xs.length) : catF f (xs.drop j) = [] := by rw [List.drop_of_length_le (by omega)]; rfl
def fU (x : Int) : List UInt8 := numL x.toNat
def fI (y : Int) : List UInt8 := numL (zig y)
theorem TxAt.below {B b N : Nat} {v : Value} {l : List UInt8} {w w' : World} (h : TxAt B b v l w) (hN : w.heap.size ≤ N) (hb : Below N w w') : TxAt B b v l w' := by
  obtain ⟨h1, ⟨p, fr, h2⟩, h3, h4, h5⟩ := h
  have lt : ∀ {k : Nat} {o}, w.heap[k]? = some o → k < w.heap.size := fun {k o} e => (Array.getElem?_eq_some_iff.1 e).1
  refine ⟨h1, ⟨p, fr, (hb.block b (Nat.lt_of_lt_of_le (lt h2) hN)).trans h2⟩, ?_, h4, Nat.le_trans h5 hb.size⟩
  rcases h3 with h | ⟨g, cap, cur, fr2, e1, e2, e3, e4⟩
  · exact Or.inl h
  · exact Or.inr ⟨g, cap, cur, fr2, e1, e2, (hb.block g (Nat.lt_of_lt_of_le (lt e3) hN)).trans e3, e4⟩
theorem WrAt.below {B b N : Nat} {l : List UInt8} {w w' : World} (h : WrAt B b l w) (hb : Below N w w') (hN : w.heap.size ≤ N) : WrAt B b l w' := by
  obtain ⟨h1, h2⟩ := h
  have key : ∀ p, Lib.BuilderAt 29 5 B b p (Lib.byteCells l) w → Lib.BuilderAt 29 5 B b p (Lib.byteCells l) w' := by
    rintro p ⟨hB, v, hbk, ⟨e1, e2⟩, hne⟩
    have lt : ∀ {k : Nat} {o}, w.heap[k]? = some o → k < w.heap.size := fun {k o} e => (Array.getElem?_eq_some_iff.1 e).1
    refine ⟨hB, v, (hb.block b (Nat.lt_of_lt_of_le (lt hbk) hN)).trans hbk, ⟨e1, ?_⟩, hne⟩
    rcases e2 with e2 | ⟨g, cap, cur, h3, h4, h5, h6⟩
    · exact Or.inl e2
    · exact Or.inr ⟨g, cap, cur, h3, h4, (hb.block g (Nat.lt_of_lt_of_le (lt h5) hN)).trans h5, h6⟩
  refine ⟨?_, Nat.le_trans h2 hb.size⟩
  rcases h1 with h | h
  · exact Or.inl (key _ h)
  · exact Or.inr (key _ h)
theorem TxAt.own {B b k : Nat} {v : Value} {l : List UInt8} {w : World} (h : TxAt B b v l w) (hk : v.ownBlock = some k) : k < w.heap.size := by
  obtain ⟨-, -, h3, -⟩ := h
  rcases h3 with ⟨rfl, -⟩ | ⟨g, cap, cur, fr, rfl, -, h4, -⟩
  · simp [Value.ownBlock] at hk
  · obtain rfl : g = k := by simpa [Value.ownBlock] using hk
    exact (Array.getElem?_eq_some_iff.1 h4).1
theorem Uint_num (w : World) (g n : Nat) (rest : List UInt8) (hn : n < 18446744073709551616) (h : Rd g (numL n ++ rest) 0 w) :
    Calls Try.prog 21 #[.pointer (some ⟨g, 0, none⟩)] w fun x w' => x = .returned (.int .u64 (n : Int)) ∧ Rd g rest 0 w' ∧ UpV g w w' := by
  have := Uint_calls w g 0 _ h (by omega)
  rwa [uintR_num n hn rest] at this
theorem Int_num (w : World) (g : Nat) (n : Int) (rest : List UInt8) (h0 : -9223372036854775808 ≤ n) (h1 : n < 9223372036854775808) (h : Rd g (numL (zig n) ++ rest) 0 w) :
    Calls Try.prog 22 #[.pointer (some ⟨g, 0, none⟩)] w fun x w' => x = .returned (.int .i64 n) ∧ Rd g rest 0 w' ∧ UpV g w w' := by
  have := Int_calls w g 0 _ h (by omega)
  rw [uintR_num (zig n) (zig_lt n h0 h1) rest] at this
  simp only [unz_zig] at this
  exact this
set_option maxRecDepth 100000 in
set_option maxHeartbeats 8000000 in
theorem VarintJoins_walk (v0 : Value) (xs : List Int) (v1 : Value) (ys : List Int) (w : World)
    (w0 : ∃ ad cap, v0 = .slice ad xs.length cap ∧ (∀ (j : Nat) x, xs[j]? = some x → (Lit.int .u64 x).wf = true) ∧ (xs ≠ [] → ∃ g o, ad = some ⟨g, o, none⟩ ∧ ∀ (j : Nat) x, xs[j]? = some x → w.cell? ⟨g, o + j, none⟩ = some (.int .u64 x)))
    (w1 : ∃ ad cap, v1 = .slice ad ys.length cap ∧ (∀ (j : Nat) x, ys[j]? = some x → (Lit.int .i64 x).wf = true) ∧ (ys ≠ [] → ∃ g o, ad = some ⟨g, o, none⟩ ∧ ∀ (j : Nat) x, ys[j]? = some x → w.cell? ⟨g, o + j, none⟩ = some (.int .i64 x))) :
    Calls Try.prog 6 #[v0, v1] w fun e w' => e = .returned (.bool true) ∧ Below w.heap.size w w' := by
  obtain ⟨ad0, cap0, rfl, hw0, hx0⟩ := w0
  obtain ⟨ad1, cap1, rfl, hw1, hx1⟩ := w1
  have HX0 := Lib.hid hx0; clear hx0
  have HX1 := Lib.hid hx1; clear hx1
  have HW0 := Lib.hid hw0; clear hw0
  have HW1 := Lib.hid hw1; clear hw1
  by_cases hbig1 : 100 < (xs.length : Int)
  · go_enter Try.func6, Try.ntmps6
    go_wp2_with fail
    refine (awake_calls _).mono ?_
    rintro e w1 ⟨rfl, hb1⟩
    go_wp2_with fail
    refine (awake_calls _).mono ?_
    rintro e w2 ⟨rfl, hb2⟩
    go_wp2
    go_ret
    exact ⟨rfl, bn hb1 hb2⟩
  by_cases hbig2 : 100 < (ys.length : Int)
  · go_enter Try.func6, Try.ntmps6
    go_wp2_with fail
    refine (awake_calls _).mono ?_
    rintro e w1 ⟨rfl, hb1⟩
    go_wp2_with fail
    refine (awake_calls _).mono ?_
    rintro e w2 ⟨rfl, hb2⟩
    go_wp2
    go_ret
    exact ⟨rfl, bn hb1 hb2⟩
  have hfu : ∀ x ∈ xs, (fU x).length ≤ 10 := by
    intro x hx
    obtain ⟨j, hj⟩ := List.getElem?_of_mem hx
    obtain ⟨b0, b1⟩ := bounds_u64 (HW0.out j x hj)
    exact numL_64 _ (by omega)
  have hfi : ∀ y ∈ ys, (fI y).length ≤ 10 := by
    intro y hy
    obtain ⟨j, hj⟩ := List.getElem?_of_mem hy
    obtain ⟨b0, b1⟩ := bounds_i64 (HW1.out j y hj)
    exact numL_64 _ (zig_lt y (by omega) (by omega))
  have hlx : ∀ j, (catF fU (xs.take j)).length ≤ 1000 := fun j => by
    have := catF_len fU 10 (xs.take j) fun x hx => hfu x (List.mem_of_mem_take hx)
    have : (xs.take j).length ≤ xs.length := List.length_take_le' _ _
    omega
  have hly : ∀ j, (catF fI (ys.take j)).length ≤ 1000 := fun j => by
    have := catF_len fI 10 (ys.take j) fun x hx => hfi x (List.mem_of_mem_take hx)
    have : (ys.take j).length ≤ ys.length := List.length_take_le' _ _
    omega
  clear hfu hfi
  have HLX := Lib.hid hlx; clear hlx
  have HLY := Lib.hid hly; clear hly
  have hd1 : decide (100 < (xs.length : Int)) = false := by simpa using hbig1
  have hd2 : decide (100 < (ys.length : Int)) = false := by simpa using hbig2
  have hnx : xs.length ≤ 100 := by omega
  have hny : ys.length ≤ 100 := by omega
  go_enter Try.func6, Try.ntmps6
  go_wp2_with fail
  refine (awake_calls _).mono ?_
  rintro e w1 ⟨rfl, hb1⟩
  have hw2 := wr_new w1
  have hb2 := hb1.trans (((Below.refl w1.heap.size w1).alloc (Nat.le_refl _) (.cells #[.pointer none, .slice none 0 0] 29)).mono hb1.size)
  have hBz := hb1.size
  clear hb1
  go_wp2
  generalize w1.heap.size = B at *
  generalize w1.alloc (.cells #[.pointer none, .slice none 0 0] 29) = w2 at *
  have HW2 := Lib.hid hw2; clear hw2
  go_loopw [6, 31] (fun s i wr => ∃ (j : Nat), j ≤ xs.length ∧ i = .int .i64 j ∧ s = .string (bstr (catF fU (xs.take j))) ∧ Hid (WrAt B B (catF fU (xs.take j)) wr) ∧ Below w.heap.size w wr) (fun _ i _ => xs.length - (intOf i).toNat)
  case atStart => exact ⟨0, by omega, rfl, rfl, HW2, hb2⟩
  case round =>
    obtain ⟨j, hj, rfl, rfl, hr, hc⟩ := hrel
    by_cases hlt : j < xs.length
    · obtain ⟨g0, o, rfl, hx⟩ := HX0.out (by intro e; subst e; simp at hlt)
      have hq := hx j xs[j] (List.getElem?_eq_getElem hlt)
      have hwf := HW0.out j xs[j] (List.getElem?_eq_getElem hlt)
      have htk := catF_take fU xs j hlt
      have hz := HLX.out (j + 1)
      have hz0 := HLX.out j
      rw [htk] at hz
      have HTK := Lib.hid htk; clear htk
      clear HX0 HX1 hx
      generalize xs[j] = x at *
      obtain ⟨b0, b1⟩ := bounds_u64 hwf
      obtain ⟨n, rfl⟩ := Int.eq_ofNat_of_zero_le b0
      have hn : n < 18446744073709551616 := by omega
      rw [show fU (n : Int) = numL n from rfl] at hz HTK
      clear hwf b0 b1
      generalize catF fU (xs.take j) = L at *
      have r0 := (hc.cell (World.block_lt_of_cell? w _ hq)).trans hq
      clear hq
      have hsz : ¬ 9223372036854775807 < (bstr L).size + (bstr (numL n)).size := by rw [bstr_size, bstr_size]; rw [List.length_append] at hz; omega
      have happ := bstr_append L (numL n)
      have HAP := Lib.hid happ; clear happ
      go_wp2_with fail
      refine (WUint_calls B B L n _ hr.out hn (by omega)).mono ?_
      rintro e w3 ⟨rfl, hw3, hb3⟩
      have HW3 := Lib.hid hw3; clear hw3
      go_wp2_with fail
      refine (Number_calls n hn _).mono ?_
      rintro e w4 ⟨rfl, hb4⟩
      generalize bstr (numL n) = S at *
      have HW4 := Lib.hid (HW3.out.below hb4 (Nat.le_refl _))
      have hc4 := (hc.trans (hb3.mono hBz)).trans (hb4.mono (by have := hc.size; have := hb3.size; omega))
      clear hb3 hb4 r0
      go_wp2
      exact ⟨⟨j + 1, by omega, rfl, by rw [HAP.out, HTK.out], by rw [HTK.out]; exact HW4, hc4⟩, by simp only [intOf]; omega⟩
    · have ha := catF_all fU xs j hlt
      rw [ha] at hr ⊢
      have hz := HLX.out xs.length
      rw [List.take_length] at hz
      clear ha hb2 HW2 hj
      generalize hLU : catF fU xs = LU at *
      have HLU := Lib.hid hLU; clear hLU
      clear HLX
      go_wp2
      go_loopw [6, 44] (fun s i wr => ∃ (j : Nat), j ≤ ys.length ∧ i = .int .i64 j ∧ s = .string (bstr (LU ++ catF fI (ys.take j))) ∧ Hid (WrAt B B (LU ++ catF fI (ys.take j)) wr) ∧ Below w.heap.size w wr) (fun _ i _ => ys.length - (intOf i).toNat)
      case atStart => exact ⟨0, by omega, rfl, by simp [catF], by simpa [catF] using hr, hc⟩
      case round =>
        clear hr hc
        obtain ⟨j, hj, rfl, rfl, hr, hc⟩ := hrel
        by_cases hlt2 : j < ys.length
        · obtain ⟨g0, o, rfl, hx⟩ := HX1.out (by intro e; subst e; simp at hlt2)
          have hq := hx j ys[j] (List.getElem?_eq_getElem hlt2)
          have hwf := HW1.out j ys[j] (List.getElem?_eq_getElem hlt2)
          have htk := catF_take fI ys j hlt2
          have hz1 := HLY.out (j + 1)
          have hz0 := HLY.out j
          rw [htk] at hz1
          have HTK := Lib.hid htk; clear htk
          clear HX0 HX1 hx
          generalize ys[j] = x at *
          obtain ⟨b0, b1⟩ := bounds_i64 hwf
          have hn : x < 9223372036854775808 := by omega
          have hn0 : -9223372036854775808 ≤ x := by omega
          rw [show fI x = numL (zig x) from rfl] at hz1 HTK
          clear hwf b0 b1
          generalize catF fI (ys.take j) = L at *
          have r0 := (hc.cell (World.block_lt_of_cell? w _ hq)).trans hq
          clear hq
          have hsz : ¬ 9223372036854775807 < (bstr (LU ++ L)).size + (bstr (numL (zig x))).size := by rw [bstr_size, bstr_size]; rw [List.length_append] at hz1 ⊢; omega
          have happ := bstr_append (LU ++ L) (numL (zig x))
          rw [List.append_assoc] at happ
          have HAP := Lib.hid happ; clear happ
          go_wp2_with fail
          refine (WInt_calls B B (LU ++ L) x _ hr.out hn0 hn (by rw [List.length_append] at hz1 ⊢; omega)).mono ?_
          rintro e w3 ⟨rfl, hw3, hb3⟩
          have HW3 := Lib.hid hw3; clear hw3
          go_wp2_with fail
          refine (RInt_calls x hn0 hn _).mono ?_
          rintro e w4 ⟨rfl, hb4⟩
          generalize bstr (numL (zig x)) = S at *
          have hw4 := HW3.out.below hb4 (Nat.le_refl _)
          rw [List.append_assoc] at hw4
          have HW4 := Lib.hid hw4; clear hw4
          have hc4 := (hc.trans (hb3.mono hBz)).trans (hb4.mono (by have := hc.size; have := hb3.size; omega))
          clear hb3 hb4 r0
          go_wp2
          exact ⟨⟨j + 1, by omega, rfl, by rw [HAP.out, HTK.out], by rw [HTK.out]; exact HW4, hc4⟩, by simp only [intOf]; omega⟩
        · have ha := catF_all fI ys j hlt2
          rw [ha] at hr ⊢
          have hz1 := HLY.out ys.length
          rw [List.take_length] at hz1
          clear ha hj
          generalize hLI : catF fI ys = LI at *
          have HLI := Lib.hid hLI; clear hLI
          clear HLY
          obtain ⟨v, hv⟩ := hr.out.tx
          clear hr
          go_wp2_with fail
          refine (WString_calls _ _ v _ _ hv).mono ?_
          rintro e w5 ⟨rfl, hv5, hb5, -, -⟩
          have hc5 := hc.trans (hb5.mono hBz)
          have HV5 := Lib.hid hv5; clear hv5 hv hb5 hc
          rw [show (⟨(LU ++ LI).toArray⟩ : ByteArray) = bstr (LU ++ LI) from rfl]
          have hnew := New_calls w5 (bstr (LU ++ LI))
          rw [show (bstr (LU ++ LI)).data.toList = LU ++ LI from by simp [bstr]] at hnew
          have HN := Lib.hid hnew; clear hnew
          generalize hSe : bstr (LU ++ LI) = S at *
          have HSe := Lib.hid hSe; clear hSe
          go_wp2_with fail
          refine HN.out.mono ?_
          rintro e w6 ⟨rfl, hr6, hb6, -⟩
          have hg5 := hc5.size
          clear HN
          have HR6 := Lib.hid hr6; clear hr6
          generalize hgn : w5.heap.size = g at *
          have Hgn := Lib.hid hgn; clear hgn
          go_wp2
          go_loopw [59] (fun i wr => ∃ (j : Nat), j ≤ xs.length ∧ i = .int .i64 j ∧ Hid (Rd g (catF fU (xs.drop j) ++ LI) 0 wr) ∧ Below g w5 wr) (fun i _ => xs.length - (intOf i).toNat)
          case atStart => exact ⟨0, by omega, rfl, by rw [List.drop_zero, HLU.out]; exact HR6, hb6⟩
          case round =>
            clear HR6 hb6
            obtain ⟨j, hj, rfl, hr, hc⟩ := hrel
            by_cases hlt3 : j < xs.length
            · obtain ⟨g0, o, rfl, hx⟩ := HX0.out (by intro e; subst e; simp at hlt3)
              have hq := hx j xs[j] (List.getElem?_eq_getElem hlt3)
              have hwf := HW0.out j xs[j] (List.getElem?_eq_getElem hlt3)
              have hdr := catF_drop fU xs j hlt3
              rw [hdr] at hr
              clear HX0 HX1 hx hdr
              generalize xs[j] = x at *
              obtain ⟨b0, b1⟩ := bounds_u64 hwf
              obtain ⟨n, rfl⟩ := Int.eq_ofNat_of_zero_le b0
              have hn : n < 18446744073709551616 := by omega
              rw [show fU (n : Int) = numL n from rfl, List.append_assoc] at hr
              clear hwf b0 b1
              have hltw := World.block_lt_of_cell? w _ hq
              have r0 := ((hc5.trans (hc.mono hg5)).cell hltw).trans hq
              clear hq hltw
              go_wp2_with fail
              refine (Uint_num _ g n _ hn hr.out).mono ?_
              rintro e w7 ⟨rfl, hr7, hu7⟩
              have HR7 := Lib.hid hr7; clear hr7
              have hc7 := hc.trans (hu7.below (Nat.le_refl _))
              clear hu7 r0
              go_wp2
              exact ⟨⟨j + 1, by omega, rfl, HR7, hc7⟩, by simp only [intOf]; omega⟩
            · rw [catF_none fU xs j hlt3, List.nil_append] at hr
              clear hj
              go_wp2
              go_loopw [70] (fun i wr => ∃ (j : Nat), j ≤ ys.length ∧ i = .int .i64 j ∧ Hid (Rd g (catF fI (ys.drop j)) 0 wr) ∧ Below g w5 wr) (fun i _ => ys.length - (intOf i).toNat)
              case atStart => exact ⟨0, by omega, rfl, by rw [List.drop_zero, HLI.out]; exact hr, hc⟩
              case round =>
                clear hr hc
                obtain ⟨j, hj, rfl, hr, hc⟩ := hrel
                by_cases hlt4 : j < ys.length
                · obtain ⟨g0, o, rfl, hx⟩ := HX1.out (by intro e; subst e; simp at hlt4)
                  have hq := hx j ys[j] (List.getElem?_eq_getElem hlt4)
                  have hwf := HW1.out j ys[j] (List.getElem?_eq_getElem hlt4)
                  have hdr := catF_drop fI ys j hlt4
                  rw [hdr] at hr
                  clear HX0 HX1 hx hdr
                  generalize ys[j] = x at *
                  obtain ⟨b0, b1⟩ := bounds_i64 hwf
                  have hn : x < 9223372036854775808 := by omega
                  have hn0 : -9223372036854775808 ≤ x := by omega
                  rw [show fI x = numL (zig x) from rfl] at hr
                  clear hwf b0 b1
                  have hltw := World.block_lt_of_cell? w _ hq
                  have r0 := ((hc5.trans (hc.mono hg5)).cell hltw).trans hq
                  clear hq hltw
                  go_wp2_with fail
                  refine (Int_num _ g x _ hn0 hn hr.out).mono ?_
                  rintro e w7 ⟨rfl, hr7, hu7⟩
                  have HR7 := Lib.hid hr7; clear hr7
                  have hc7 := hc.trans (hu7.below (Nat.le_refl _))
                  clear hu7 r0
                  go_wp2
                  exact ⟨⟨j + 1, by omega, rfl, HR7, hc7⟩, by simp only [intOf]; omega⟩
                · rw [catF_none fI ys j hlt4] at hr
                  clear hj
                  have hv := HV5.out.below (Nat.le_of_eq Hgn.out) hc
                  have hgo : v.ownBlock ≠ some g := fun e => by have := HV5.out.own e; rw [Hgn.out] at this; omega
                  go_wp2_with fail
                  refine (WString_calls _ _ v _ _ hv).mono ?_
                  rintro e w8 ⟨rfl, -, hb8, -, hk8⟩
                  rw [show (⟨(LU ++ LI).toArray⟩ : ByteArray) = bstr (LU ++ LI) from rfl, HSe.out]
                  have hr8 : Rd g [] 0 w8 := (hk8 g hr.out.lt hgo).trans hr.out
                  have hc8 := (hc5.trans (hc.mono hg5)).trans (hb8.mono hBz)
                  clear hv hc hk8 hb8
                  have e0 : (S.toList == S.toList) = true := by simp
                  go_wp2_with fail
                  refine (Done_calls _ g 0 [] hr8).mono ?_
                  rintro e w' ⟨rfl, rfl⟩
                  rw [show doneR [] 0 = 0 from rfl]
                  go_wp2_with fail
                  refine (Left_calls _ g 0 [] hr8).mono ?_
                  rintro e w' ⟨rfl, rfl⟩
                  go_wp2
                  go_ret
                  exact ⟨rfl, hc8⟩
end Go.Proofs.Ytolkeibmllhacaa
