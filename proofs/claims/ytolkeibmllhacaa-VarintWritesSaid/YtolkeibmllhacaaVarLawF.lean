/- The walk of the law VarintWrites: it answers true. -/
import Derived.Test.YtolkeibmllhacaaVarLawE
import Derived.Test.YtolkeibmllhacaaVarKeep
namespace Go.Proofs.Ytolkeibmllhacaa
open Go.RowKit
set_option linter.unusedVariables false
set_option linter.unusedSimpArgs false
abbrev Opx := Int × Int × Int × ByteArray
/-- The bytes that a call writes. -/
def opL (x : Opx) : List UInt8 :=
  if x.1 = 1 then [UInt8.ofNat x.2.2.1.toNat] else if x.1 = 2 then numL x.2.2.1.toNat else if x.1 = 3 then numL (zig x.2.1) else if x.1 = 4 then numL x.2.2.2.size ++ x.2.2.2.data.toList else if x.1 = 5 then x.2.2.2.data.toList else []
def opWf (x : Opx) : Prop := (-9223372036854775808 ≤ x.2.1 ∧ x.2.1 < 9223372036854775808) ∧ (0 ≤ x.2.2.1 ∧ x.2.2.1 < 18446744073709551616)
theorem opL_len (x : Opx) (h : opWf x) (hs : x.2.2.2.size ≤ 500) : (opL x).length ≤ 510 := by
  obtain ⟨⟨h0, h1⟩, h2, h3⟩ := h
  have e1 := numL_64 x.2.2.1.toNat (by omega)
  have e2 := numL_64 (zig x.2.1) (zig_lt _ h0 h1)
  have e3 := numL_64 x.2.2.2.size (by omega)
  have e4 : x.2.2.2.data.toList.length = x.2.2.2.size := rfl
  unfold opL
  split
  · simp
  · split
    · omega
    · split
      · omega
      · split
        · rw [List.length_append]; omega
        · split
          · omega
          · simp
theorem u8_of (m : Nat) : IntKind.u8.wrap (m : Int) = ((UInt8.ofNat m).toNat : Int) := by rw [IntKind.wrap_u8, UInt8.toNat_ofNat']; omega
theorem Rd.drew {g e : Nat} {l : List UInt8} {w : World} (h : Rd g l e w) : Rd g l e w.drew := h
theorem u8_mod (m : Nat) : (m : Int) % 256 = ((UInt8.ofNat m).toNat : Int) := by rw [UInt8.toNat_ofNat']; omega
theorem Byte_num (w : World) (g m : Nat) (rest : List UInt8) (h : Rd g (UInt8.ofNat m :: rest) 0 w) :
    Calls Try.prog 20 #[.pointer (some ⟨g, 0, none⟩)] w fun x w' => x = .returned (.int .u8 (IntKind.u8.wrap (m : Int))) ∧ Rd g rest 0 w' ∧ UpV g w w' := by
  have := Byte_calls w g 0 _ h (by omega)
  rwa [show byteR (UInt8.ofNat m :: rest) 0 = ((UInt8.ofNat m).toNat, rest, 0) from rfl, ← u8_of] at this
theorem raw_all (s : ByteArray) (rest : List UInt8) : rawR (s.data.toList ++ rest) 0 (s.size : Int) = (s.data.toList, rest, 0) := by
  have e4 : s.data.toList.length = s.size := rfl
  unfold rawR
  rw [if_neg (by decide), if_neg (by omega), if_neg (by rw [List.length_append]; omega)]
  rw [Int.toNat_natCast, List.take_append_of_le_length (by omega), List.take_of_length_le (by omega), List.drop_append_of_le_length (by omega), List.drop_of_length_le (by omega)]; rfl
theorem Raw_num (w : World) (g : Nat) (s : ByteArray) (rest : List UInt8) (h : Rd g (s.data.toList ++ rest) 0 w) :
    Calls Try.prog 24 #[.pointer (some ⟨g, 0, none⟩), .int .i64 s.size] w fun x w' => x = .returned (.string s) ∧ Rd g rest 0 w' ∧ UpV g w w' := by
  have := Raw_calls w g 0 _ s.size h (by omega)
  rwa [raw_all] at this
theorem Text_num (w : World) (g : Nat) (s : ByteArray) (hs : s.size ≤ 500) (rest : List UInt8) (h : Rd g (numL s.size ++ s.data.toList ++ rest) 0 w) :
    Calls Try.prog 23 #[.pointer (some ⟨g, 0, none⟩), .int .i64 500] w fun x w' => x = .returned (.string s) ∧ Rd g rest 0 w' ∧ UpV g w w' := by
  have := Text_calls w g 0 _ 500 h (by omega) (by omega)
  rw [List.append_assoc] at this
  have e : textR (numL s.size ++ (s.data.toList ++ rest)) 0 500 = (s.data.toList, rest, 0) := by
    unfold textR
    rw [uintR_num s.size (by omega), if_neg (by simp), if_neg (by simp; omega)]
    exact raw_all s rest
  rwa [e] at this
set_option maxRecDepth 100000 in
set_option maxHeartbeats 16000000 in
theorem VarintWrites_walk (v0 : Value) (xs : List Opx) (w : World)
    (w0 : ∃ ad cap, v0 = .slice ad xs.length cap ∧ (xs ≠ [] → ∃ g o, ad = some ⟨g, o, none⟩ ∧ ∀ (j : Nat) x, xs[j]? = some x →
      (w.cell? ⟨g, o + j * 4, none⟩ = some (.int .i64 x.1) ∧ w.cell? ⟨g, o + j * 4 + 1, none⟩ = some (.int .i64 x.2.1) ∧ w.cell? ⟨g, o + j * 4 + 2, none⟩ = some (.int .u64 x.2.2.1) ∧ w.cell? ⟨g, o + j * 4 + 3, none⟩ = some (.string x.2.2.2)) ∧
      (Lit.int .i64 x.1).wf = true ∧ (Lit.int .i64 x.2.1).wf = true ∧ (Lit.int .u64 x.2.2.1).wf = true)) :
    Calls Try.prog 3 #[v0] w fun e w' => e = .returned (.bool true) ∧ Below w.heap.size w w' := by
  obtain ⟨ad, cap, rfl, hx⟩ := w0
  have hwf : ∀ (j : Nat) x, xs[j]? = some x → opWf x := by
    intro j x hj
    have hne : xs ≠ [] := by intro e; subst e; simp at hj
    obtain ⟨g, o, -, hx⟩ := hx hne
    obtain ⟨-, -, q1, q2⟩ := hx j x hj
    obtain ⟨a0, a1⟩ := bounds_i64 q1
    obtain ⟨b0, b1⟩ := bounds_u64 q2
    exact ⟨⟨by omega, by omega⟩, by omega, by omega⟩
  have HX := Lib.hid hx; clear hx
  have HWF := Lib.hid hwf; clear hwf
  by_cases hbig1 : 100 < (xs.length : Int)
  · go_enter Try.func3, Try.ntmps3
    go_wp2_with fail
    refine (awake_calls _).mono ?_
    rintro e w1 ⟨rfl, hb1⟩
    go_wp2_with fail
    refine (awake_calls _).mono ?_
    rintro e w2 ⟨rfl, hb2⟩
    go_wp2
    go_ret
    exact ⟨rfl, bn hb1 hb2⟩
  have hd1 : decide (100 < (xs.length : Int)) = false := by simpa using hbig1
  have hnx : xs.length ≤ 100 := by omega
  go_enter Try.func3, Try.ntmps3
  go_wp2_with fail
  refine (awake_calls _).mono ?_
  rintro e w1 ⟨rfl, hb1⟩
  have hw2 := wr_new w1
  have hb2 := hb1.trans (((Below.refl w1.heap.size w1).alloc (Nat.le_refl _) (.cells #[.pointer none, .slice none 0 0] 29)).mono hb1.size)
  have hBz := hb1.size
  clear hb1
  go_wp2
  generalize w1.heap.size = B at *
  generalize w1.alloc (.cells #[.pointer none, .slice none 0 0] 29) = w2 at *
  have HW2 := Lib.hid hw2; clear hw2
  go_loopw [4, 21] (fun s i wr => ∃ (j : Nat), j ≤ xs.length ∧ i = .int .i64 j ∧ s = .string (bstr (catF opL (xs.take j))) ∧ Hid (WrAt B B (catF opL (xs.take j)) wr) ∧ Below w.heap.size w wr ∧ Hid (∀ x ∈ xs.take j, x.2.2.2.size ≤ 500)) (fun _ i _ => xs.length - (intOf i).toNat)
  case atStart => exact ⟨0, by omega, rfl, rfl, HW2, hb2, Lib.hid (by simp)⟩
  case round =>
    obtain ⟨j, hj, rfl, rfl, hr, hc, hs⟩ := hrel
    have hlen : (catF opL (xs.take j)).length ≤ 51000 := by
      have h1 := catF_len opL 510 (xs.take j) fun x hx => by
        obtain ⟨i, hi⟩ := List.getElem?_of_mem (List.mem_of_mem_take hx)
        exact opL_len x (HWF.out i x hi) (hs.out x hx)
      have h2 : (xs.take j).length ≤ xs.length := List.length_take_le' _ _
      omega
    by_cases hlt : j < xs.length
    · obtain ⟨g0, o, rfl, hx⟩ := HX.out (by intro e; subst e; simp at hlt)
      have hq := (hx j xs[j] (List.getElem?_eq_getElem hlt)).1
      have hwf := HWF.out j xs[j] (List.getElem?_eq_getElem hlt)
      have htk := catF_take opL xs j hlt
      have htm : xs.take (j + 1) = xs.take j ++ [xs[j]] := by rw [List.take_succ_eq_append_getElem hlt]
      have HTM := Lib.hid htm; clear htm
      clear HX hx
      generalize xs[j] = x at *
      obtain ⟨k, n, u, s⟩ := x
      obtain ⟨⟨n0, n1⟩, u0, u1⟩ := hwf
      simp only at n0 n1 u0 u1
      obtain ⟨m, rfl⟩ := Int.eq_ofNat_of_zero_le u0
      have hm : m < 18446744073709551616 := by omega
      clear u0 u1
      obtain ⟨q0, q1, q2, q3⟩ := hq
      have r0 := (hc.cell (World.block_lt_of_cell? w _ q0)).trans q0
      have r1 := (hc.cell (World.block_lt_of_cell? w _ q1)).trans q1
      have r2 := (hc.cell (World.block_lt_of_cell? w _ q2)).trans q2
      have r3 := (hc.cell (World.block_lt_of_cell? w _ q3)).trans q3
      simp only at r0 r1 r2 r3
      clear q0 q1 q2 q3
      have hra := hr.out.below ((Below.refl wr.heap.size wr).alloc (Nat.le_refl _) (.cells #[.int .i64 k, .int .i64 n, .int .u64 m, .string s] 32)) (Nat.le_refl _)
      have hca := hc.trans ((Below.refl wr.heap.size wr).alloc (Nat.le_refl _) (.cells #[.int .i64 k, .int .i64 n, .int .u64 m, .string s] 32) |>.mono hc.size)
      have hsa := heap_alloc_new wr (.cells #[.int .i64 k, .int .i64 n, .int .u64 m, .string s] 32)
      have hne : wr.heap.size ≠ B := by
        have : B < wr.heap.size := by
          obtain ⟨h1, -⟩ := hr.out
          rcases h1 with ⟨-, v, hv, -⟩ | ⟨-, v, hv, -⟩ <;> exact (Array.getElem?_eq_some_iff.1 hv).1
        omega
      have HRA := Lib.hid hra; clear hra hr
      have HTK := Lib.hid htk; clear htk
      generalize catF opL (xs.take j) = L at *
      by_cases hsb : 500 < s.size
      · have hsb1 : 500 < (s.size : Int) := by omega
        go_wp2
        go_ret
        exact ⟨rfl, hca⟩
      have hsb1 : ¬ 500 < (s.size : Int) := by omega
      have hs2 : ∀ x ∈ xs.take (j + 1), x.2.2.2.size ≤ 500 := by
        intro x hx
        rw [HTM.out, List.mem_append] at hx
        rcases hx with hx | hx
        · exact hs.out x hx
        · rw [List.mem_singleton] at hx; subst hx; show s.size ≤ 500; omega
      have HS2 := Lib.hid hs2; clear hs2 hs HTM
      by_cases hk1 : k = 1
      · subst hk1
        rw [show opL (1, n, (m : Int), s) = [UInt8.ofNat m] from by simp [opL]] at HTK
        have hl2 : ([UInt8.ofNat m] : List UInt8).length ≤ 600 := by
          simp
        have hsz : ¬ 9223372036854775807 < (bstr L).size + (bstr [UInt8.ofNat m]).size := by rw [bstr_size, bstr_size]; omega
        have happ := bstr_append L [UInt8.ofNat m]
        have HAP := Lib.hid happ; clear happ
        have hcv : ∀ (W : World) (g : Nat), W.cell? ⟨g, 0, none⟩ = some (.int .u8 ((m : Int) % 256)) → (convert 25 9 (.slice (some ⟨g, 0, none⟩) 1 1)).run Try.prog W = .ok (.string (bstr [UInt8.ofNat m])) W := fun W g hc => one_byte W g _ (by rw [← u8_mod]; exact hc)
        go_wp2_with fail
        clear r0 r1 r2 r3
        generalize wr.heap.size = pb at *
        generalize wr.alloc (.cells #[.int .i64 1, .int .i64 n, .int .u64 m, .string s] 32) = x0 at *
        rw [u8_mod]
        refine (WByte_keep B B L (UInt8.ofNat m) _ HRA.out (by omega)).mono ?_
        rintro e w3 ⟨rfl, hw3, hb3⟩
        have s3 := hb3.typ _ _ _ _ hne (by decide) hsa
        have q3 : w3.cell? ⟨pb, 2, none⟩ = some (.int .u64 m) := by rw [cell_of_row _ _ 2 _ _ _ s3]; rfl
        have hc3 := hca.trans (hb3.below.mono hBz)
        clear hsa hb3 s3
        have HW3 := Lib.hid hw3; clear hw3
        have HW4 := Lib.hid (HW3.out.below ((Below.refl w3.heap.size w3).alloc (Nat.le_refl _) (.cells #[.int .u8 ((m : Int) % 256)] 5)) (Nat.le_refl _))
        have hc4 := hc3.alloc hc3.size (.cells #[.int .u8 ((m : Int) % 256)] 5)
        have HC4 := Lib.hid hc4; clear hc4
        generalize bstr [UInt8.ofNat m] = S at *
        go_wp2
        have hc4 := HC4.out
        exact ⟨⟨j + 1, by omega, rfl, by rw [HAP.out, HTK.out], by rw [HTK.out]; exact HW4, hc4, HS2⟩, by simp only [intOf]; omega⟩
      have hn1 : (k == 1) = false := by rw [beq_eq_false_iff_ne]; exact hk1
      by_cases hk2 : k = 2
      · subst hk2
        rw [show opL (2, n, (m : Int), s) = numL m from by simp [opL]] at HTK
        have hl2 : (numL m : List UInt8).length ≤ 600 := by
          have := numL_64 m hm; omega
        have hsz : ¬ 9223372036854775807 < (bstr L).size + (bstr (numL m)).size := by rw [bstr_size, bstr_size]; omega
        have happ := bstr_append L (numL m)
        have HAP := Lib.hid happ; clear happ
        go_wp2_with fail
        clear r0 r1 r2 r3
        generalize wr.heap.size = pb at *
        generalize wr.alloc (.cells #[.int .i64 2, .int .i64 n, .int .u64 m, .string s] 32) = x0 at *
        refine (WUint_keep B B L m _ HRA.out hm (by omega)).mono ?_
        rintro e w3 ⟨rfl, hw3, hb3⟩
        have s3 := hb3.typ _ _ _ _ hne (by decide) hsa
        have q3 : w3.cell? ⟨pb, 2, none⟩ = some (.int .u64 m) := by rw [cell_of_row _ _ 2 _ _ _ s3]; rfl
        have hc3 := hca.trans (hb3.below.mono hBz)
        clear hsa hb3 s3
        have HW3 := Lib.hid hw3; clear hw3
        go_wp2_with fail
        refine (Number_calls m hm _).mono ?_
        rintro e w4 ⟨rfl, hb4⟩
        have HW4 := Lib.hid (HW3.out.below hb4 (Nat.le_refl _))
        have hc4 := bn hc3 hb4
        generalize bstr (numL m) = S at *
        clear hb4 q3
        go_wp2
        exact ⟨⟨j + 1, by omega, rfl, by rw [HAP.out, HTK.out], by rw [HTK.out]; exact HW4, hc4, HS2⟩, by simp only [intOf]; omega⟩
      have hn2 : (k == 2) = false := by rw [beq_eq_false_iff_ne]; exact hk2
      by_cases hk3 : k = 3
      · subst hk3
        rw [show opL (3, n, (m : Int), s) = numL (zig n) from by simp [opL]] at HTK
        have hl2 : (numL (zig n) : List UInt8).length ≤ 600 := by
          have := numL_64 (zig n) (zig_lt n n0 n1); omega
        have hsz : ¬ 9223372036854775807 < (bstr L).size + (bstr (numL (zig n))).size := by rw [bstr_size, bstr_size]; omega
        have happ := bstr_append L (numL (zig n))
        have HAP := Lib.hid happ; clear happ
        go_wp2_with fail
        clear r0 r1 r2 r3
        generalize wr.heap.size = pb at *
        generalize wr.alloc (.cells #[.int .i64 3, .int .i64 n, .int .u64 m, .string s] 32) = x0 at *
        refine (WInt_keep B B L n _ HRA.out n0 n1 (by omega)).mono ?_
        rintro e w3 ⟨rfl, hw3, hb3⟩
        have s3 := hb3.typ _ _ _ _ hne (by decide) hsa
        have q3 : w3.cell? ⟨pb, 1, none⟩ = some (.int .i64 n) := by rw [cell_of_row _ _ 1 _ _ _ s3]; rfl
        have hc3 := hca.trans (hb3.below.mono hBz)
        clear hsa hb3 s3
        have HW3 := Lib.hid hw3; clear hw3
        go_wp2_with fail
        refine (RInt_calls n n0 n1 _).mono ?_
        rintro e w4 ⟨rfl, hb4⟩
        have HW4 := Lib.hid (HW3.out.below hb4 (Nat.le_refl _))
        have hc4 := bn hc3 hb4
        generalize bstr (numL (zig n)) = S at *
        clear hb4 q3
        go_wp2
        exact ⟨⟨j + 1, by omega, rfl, by rw [HAP.out, HTK.out], by rw [HTK.out]; exact HW4, hc4, HS2⟩, by simp only [intOf]; omega⟩
      have hn3 : (k == 3) = false := by rw [beq_eq_false_iff_ne]; exact hk3
      by_cases hk4 : k = 4
      · subst hk4
        rw [show opL (4, n, (m : Int), s) = (numL s.size ++ s.data.toList) from by simp [opL]] at HTK
        have hl2 : ((numL s.size ++ s.data.toList) : List UInt8).length ≤ 600 := by
          have := numL_64 s.size (by omega); rw [List.length_append, show s.data.toList.length = s.size from rfl]; omega
        have hsz : ¬ 9223372036854775807 < (bstr L).size + (bstr (numL s.size ++ s.data.toList)).size := by rw [bstr_size, bstr_size]; omega
        have happ := bstr_append L (numL s.size ++ s.data.toList)
        have HAP := Lib.hid happ; clear happ
        go_wp2_with fail
        clear r0 r1 r2 r3
        generalize wr.heap.size = pb at *
        generalize wr.alloc (.cells #[.int .i64 4, .int .i64 n, .int .u64 m, .string s] 32) = x0 at *
        refine (WText_keep B B L s _ HRA.out (by omega)).mono ?_
        rintro e w3 ⟨rfl, hw3, hb3⟩
        have s3 := hb3.typ _ _ _ _ hne (by decide) hsa
        have q3 : w3.cell? ⟨pb, 3, none⟩ = some (.string s) := by rw [cell_of_row _ _ 3 _ _ _ s3]; rfl
        have hc3 := hca.trans (hb3.below.mono hBz)
        clear hsa hb3 s3
        have HW3 := Lib.hid hw3; clear hw3
        go_wp2_with fail
        refine (RText_calls s (by omega) _).mono ?_
        rintro e w4 ⟨rfl, hb4⟩
        have HW4 := Lib.hid (HW3.out.below hb4 (Nat.le_refl _))
        have hc4 := bn hc3 hb4
        generalize bstr (numL s.size ++ s.data.toList) = S at *
        clear hb4 q3
        go_wp2
        exact ⟨⟨j + 1, by omega, rfl, by rw [HAP.out, HTK.out], by rw [HTK.out]; exact HW4, hc4, HS2⟩, by simp only [intOf]; omega⟩
      have hn4 : (k == 4) = false := by rw [beq_eq_false_iff_ne]; exact hk4
      by_cases hk5 : k = 5
      · subst hk5
        rw [show opL (5, n, (m : Int), s) = s.data.toList from by simp [opL]] at HTK
        have hl2 : (s.data.toList : List UInt8).length ≤ 600 := by
          rw [show s.data.toList.length = s.size from rfl]; omega
        have hsz : ¬ 9223372036854775807 < (bstr L).size + (bstr (s.data.toList)).size := by rw [bstr_size, bstr_size]; omega
        have happ := bstr_append L (s.data.toList)
        have HAP := Lib.hid happ; clear happ
        go_wp2_with fail
        clear r0 r1 r2 r3
        generalize wr.heap.size = pb at *
        generalize wr.alloc (.cells #[.int .i64 5, .int .i64 n, .int .u64 m, .string s] 32) = x0 at *
        refine (WRaw_keep B B L s _ HRA.out (by omega)).mono ?_
        rintro e w3 ⟨rfl, hw3, hb3⟩
        have s3 := hb3.typ _ _ _ _ hne (by decide) hsa
        have q3 : w3.cell? ⟨pb, 3, none⟩ = some (.string s) := by rw [cell_of_row _ _ 3 _ _ _ s3]; rfl
        have hc3 := hca.trans (hb3.below.mono hBz)
        clear hsa hb3 s3
        have HW3 := Lib.hid hw3; clear hw3
        have HW4 := HW3
        have hc4 := hc3
        rw [bstr_data] at HAP hsz
        go_wp2
        exact ⟨⟨j + 1, by omega, rfl, by rw [HAP.out, HTK.out], by rw [HTK.out]; exact HW4, hc4, HS2⟩, by simp only [intOf]; omega⟩
      have hn5 : (k == 5) = false := by rw [beq_eq_false_iff_ne]; exact hk5
      rw [show opL (k, n, (m : Int), s) = [] from by simp [opL, hk1, hk2, hk3, hk4, hk5], List.append_nil] at HTK
      clear hk1 hk2 hk3 hk4 hk5
      go_wp2
      exact ⟨⟨j + 1, by omega, rfl, by rw [HTK.out], by rw [HTK.out]; exact HRA, hca, HS2⟩, by simp only [intOf]; omega⟩
    · have ha := catF_all opL xs j hlt
      have htk : xs.take j = xs := List.take_of_length_le (by omega)
      rw [htk] at hs
      rw [ha] at hr hlen ⊢
      clear ha htk hj hb2 HW2
      generalize hLU : catF opL xs = LU at *
      have HLU := Lib.hid hLU; clear hLU
      have hnew := fun w5 => New_calls w5 (bstr LU)
      rw [show (bstr LU).data.toList = LU from by simp [bstr]] at hnew
      have HN := Lib.hid hnew; clear hnew
      obtain ⟨v, hv⟩ := hr.out.tx
      clear hr
      generalize hSe : bstr LU = S at *
      have HSe := Lib.hid hSe; clear hSe
      have e0 : (S.toList == S.toList) = true := by simp
      have e1 : (S.toList != S.toList) = false := by simp
      go_wp2_with fail
      refine (WString_calls _ _ v _ _ hv).mono ?_
      rintro e w5 ⟨rfl, -, hb5, -, -⟩
      have hc5 := hc.trans (hb5.mono hBz)
      clear hv hb5 hc
      rw [show (⟨LU.toArray⟩ : ByteArray) = bstr LU from rfl, HSe.out]
      go_wp2_with fail
      refine (HN.out _).mono ?_
      rintro e w6 ⟨rfl, hr6, hb6, -⟩
      have hg5 := hc5.size
      clear HN
      have HR6 := Lib.hid hr6; clear hr6
      have hc6 := bn hc5 hb6
      generalize w5.heap.size = g at *
      clear hc5 hb6 e0 e1
      go_wp2
      go_loopw [91] (fun i wr => ∃ (j : Nat), j ≤ xs.length ∧ i = .int .i64 j ∧ Hid (Rd g (catF opL (xs.drop j)) 0 wr) ∧ Below w.heap.size w wr) (fun i _ => xs.length - (intOf i).toNat)
      case atStart => exact ⟨0, by omega, rfl, by rw [List.drop_zero, HLU.out]; exact HR6, hc6⟩
      case round =>
        clear HR6 hc6
        obtain ⟨j, hj, rfl, hr, hc⟩ := hrel
        by_cases hlt2 : j < xs.length
        · obtain ⟨g0, o, rfl, hx⟩ := HX.out (by intro e; subst e; simp at hlt2)
          have hq := (hx j xs[j] (List.getElem?_eq_getElem hlt2)).1
          have hdr := catF_drop opL xs j hlt2
          have hsm := hs.out xs[j] (List.getElem_mem hlt2)
          rw [hdr] at hr
          clear HX hx hdr
          have hwf := HWF.out j xs[j] (List.getElem?_eq_getElem hlt2)
          generalize xs[j] = x at *
          obtain ⟨k, n, u, s⟩ := x
          obtain ⟨⟨n0, n1⟩, u0, u1⟩ := hwf
          simp only at n0 n1 u0 u1 hsm
          obtain ⟨m, rfl⟩ := Int.eq_ofNat_of_zero_le u0
          have hm : m < 18446744073709551616 := by omega
          clear u0 u1
          obtain ⟨q0, q1, q2, q3⟩ := hq
          have r0 := (hc.cell (World.block_lt_of_cell? w _ q0)).trans q0
          have r1 := (hc.cell (World.block_lt_of_cell? w _ q1)).trans q1
          have r2 := (hc.cell (World.block_lt_of_cell? w _ q2)).trans q2
          have r3 := (hc.cell (World.block_lt_of_cell? w _ q3)).trans q3
          simp only at r0 r1 r2 r3
          clear q0 q1 q2 q3
          have hca := hc.trans ((Below.refl wr.heap.size wr).alloc (Nat.le_refl _) (.cells #[.int .i64 k, .int .i64 n, .int .u64 m, .string s] 32) |>.mono hc.size)
          have hra := hr.out.below ((Below.refl wr.heap.size wr).alloc (Nat.le_refl _) (.cells #[.int .i64 k, .int .i64 n, .int .u64 m, .string s] 32))
          have hsa := heap_alloc_new wr (.cells #[.int .i64 k, .int .i64 n, .int .u64 m, .string s] 32)
          have hne : wr.heap.size ≠ g := Nat.ne_of_gt hr.out.lt
          have HRA := Lib.hid hra; clear hra hr
          have HCA := Lib.hid hca; clear hca
          have es : (s.toList == s.toList) = true := by simp
          by_cases hk1 : k = 1
          · subst hk1
            rw [show opL (1, n, (m : Int), s) ++ catF opL (xs.drop (j + 1)) = UInt8.ofNat m :: catF opL (xs.drop (j + 1)) from by simp [opL]] at HRA
            go_wp2_with fail
            go_region_law (go_simp; go_at_call 20; refine (Byte_num _ g m _ HRA.out.drew).mono ?_; rintro e w7 ⟨rfl, hr7, hu7⟩; have HR7 := Lib.hid hr7; clear hr7; have s7 := (hu7.other wr.heap.size hne).trans hsa; have q7 : w7.cell? ⟨wr.heap.size, 2, none⟩ = some (.int .u64 m) := (by rw [cell_of_row _ _ 2 _ _ _ s7]; rfl); have hc7 := HCA.out.drew.trans (hu7.below hg5); clear hu7 s7)
            all_goals
              clear r0 r1 r2 r3 q7
              have HC7 := Lib.hid hc7; clear hc7
              go_wp2_with fail
              refine (Err_calls _ g 0 _ HR7.out).mono ?_
              rintro e w' ⟨rfl, rfl⟩
              go_wp2
              exact ⟨⟨j + 1, by omega, rfl, HR7, HC7.out⟩, by simp only [intOf]; omega⟩
          have hn1 : (k == 1) = false := by rw [beq_eq_false_iff_ne]; exact hk1
          by_cases hk2 : k = 2
          · subst hk2
            rw [show opL (2, n, (m : Int), s) = numL m from by simp [opL]] at HRA
            go_wp2_with fail
            go_region_law (go_simp; go_at_call 21; refine (Uint_num _ g m _ hm HRA.out.drew).mono ?_; rintro e w7 ⟨rfl, hr7, hu7⟩; have HR7 := Lib.hid hr7; clear hr7; have s7 := (hu7.other wr.heap.size hne).trans hsa; have q7 : w7.cell? ⟨wr.heap.size, 2, none⟩ = some (.int .u64 m) := (by rw [cell_of_row _ _ 2 _ _ _ s7]; rfl); have hc7 := HCA.out.drew.trans (hu7.below hg5); clear hu7 s7)
            all_goals
              clear r0 r1 r2 r3 q7
              have HC7 := Lib.hid hc7; clear hc7
              go_wp2_with fail
              refine (Err_calls _ g 0 _ HR7.out).mono ?_
              rintro e w' ⟨rfl, rfl⟩
              go_wp2
              exact ⟨⟨j + 1, by omega, rfl, HR7, HC7.out⟩, by simp only [intOf]; omega⟩
          have hn2 : (k == 2) = false := by rw [beq_eq_false_iff_ne]; exact hk2
          by_cases hk3 : k = 3
          · subst hk3
            rw [show opL (3, n, (m : Int), s) = numL (zig n) from by simp [opL]] at HRA
            go_wp2_with fail
            go_region_law (go_simp; go_at_call 22; refine (Int_num _ g n _ n0 n1 HRA.out.drew).mono ?_; rintro e w7 ⟨rfl, hr7, hu7⟩; have HR7 := Lib.hid hr7; clear hr7; have s7 := (hu7.other wr.heap.size hne).trans hsa; have q7 : w7.cell? ⟨wr.heap.size, 1, none⟩ = some (.int .i64 n) := (by rw [cell_of_row _ _ 1 _ _ _ s7]; rfl); have hc7 := HCA.out.drew.trans (hu7.below hg5); clear hu7 s7)
            all_goals
              clear r0 r1 r2 r3 q7
              have HC7 := Lib.hid hc7; clear hc7
              go_wp2_with fail
              refine (Err_calls _ g 0 _ HR7.out).mono ?_
              rintro e w' ⟨rfl, rfl⟩
              go_wp2
              exact ⟨⟨j + 1, by omega, rfl, HR7, HC7.out⟩, by simp only [intOf]; omega⟩
          have hn3 : (k == 3) = false := by rw [beq_eq_false_iff_ne]; exact hk3
          by_cases hk4 : k = 4
          · subst hk4
            rw [show opL (4, n, (m : Int), s) = (numL s.size ++ s.data.toList) from by simp [opL]] at HRA
            go_wp2_with fail
            go_region_law (go_simp; go_at_call 23; refine (Text_num _ g s hsm _ HRA.out.drew).mono ?_; rintro e w7 ⟨rfl, hr7, hu7⟩; have HR7 := Lib.hid hr7; clear hr7; have s7 := (hu7.other wr.heap.size hne).trans hsa; have q7 : w7.cell? ⟨wr.heap.size, 3, none⟩ = some (.string s) := (by rw [cell_of_row _ _ 3 _ _ _ s7]; rfl); have hc7 := HCA.out.drew.trans (hu7.below hg5); clear hu7 s7)
            all_goals
              clear r0 r1 r2 r3 q7
              have HC7 := Lib.hid hc7; clear hc7
              go_wp2_with fail
              refine (Err_calls _ g 0 _ HR7.out).mono ?_
              rintro e w' ⟨rfl, rfl⟩
              go_wp2
              exact ⟨⟨j + 1, by omega, rfl, HR7, HC7.out⟩, by simp only [intOf]; omega⟩
          have hn4 : (k == 4) = false := by rw [beq_eq_false_iff_ne]; exact hk4
          by_cases hk5 : k = 5
          · subst hk5
            rw [show opL (5, n, (m : Int), s) = s.data.toList from by simp [opL]] at HRA
            go_wp2_with fail
            go_region_law (go_simp; go_at_call 24; refine (Raw_num _ g s _ HRA.out.drew).mono ?_; rintro e w7 ⟨rfl, hr7, hu7⟩; have HR7 := Lib.hid hr7; clear hr7; have s7 := (hu7.other wr.heap.size hne).trans hsa; have q7 : w7.cell? ⟨wr.heap.size, 3, none⟩ = some (.string s) := (by rw [cell_of_row _ _ 3 _ _ _ s7]; rfl); have hc7 := HCA.out.drew.trans (hu7.below hg5); clear hu7 s7)
            all_goals
              clear r0 r1 r2 r3 q7
              have HC7 := Lib.hid hc7; clear hc7
              go_wp2_with fail
              refine (Err_calls _ g 0 _ HR7.out).mono ?_
              rintro e w' ⟨rfl, rfl⟩
              go_wp2
              exact ⟨⟨j + 1, by omega, rfl, HR7, HC7.out⟩, by simp only [intOf]; omega⟩
          have hn5 : (k == 5) = false := by rw [beq_eq_false_iff_ne]; exact hk5
          rw [show opL (k, n, (m : Int), s) = [] from by simp [opL, hk1, hk2, hk3, hk4, hk5], List.nil_append] at HRA
          clear hk1 hk2 hk3 hk4 hk5
          go_wp2_with fail
          refine (Err_calls _ g 0 _ HRA.out).mono ?_
          rintro e w' ⟨rfl, rfl⟩
          go_wp2
          exact ⟨⟨j + 1, by omega, rfl, HRA, HCA.out⟩, by simp only [intOf]; omega⟩
        · rw [catF_none opL xs j hlt2] at hr
          go_wp2_with fail
          refine (Done_calls _ g 0 [] hr.out).mono ?_
          rintro e w' ⟨rfl, rfl⟩
          rw [show doneR [] 0 = 0 from rfl]
          go_wp2
          go_ret
          exact ⟨rfl, hc⟩
end Go.Proofs.Ytolkeibmllhacaa
