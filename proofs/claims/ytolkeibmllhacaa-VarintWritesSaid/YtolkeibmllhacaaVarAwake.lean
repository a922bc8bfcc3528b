/- The walks of all methods of none, and of the law's awake. -/
import Derived.Test.YtolkeibmllhacaaVarInt
namespace Go.Proofs.Ytolkeibmllhacaa
open Go.RowKit
set_option linter.unusedVariables false
set_option linter.unusedSimpArgs false
theorem WByte_nil (w : World) (c : Int) : Calls Try.prog 10 #[.pointer none, .int .u8 c] w fun e w' => e = .returned (.tuple #[]) ∧ w = w' := by
  go_enter Try.func10, Try.ntmps10
  go_wp2
  go_returns
  exact ⟨rfl, rfl⟩
theorem WRaw_nil (w : World) (s : ByteArray) : Calls Try.prog 17 #[.pointer none, .string s] w fun e w' => e = .returned (.tuple #[]) ∧ w = w' := by
  go_enter Try.func17, Try.ntmps17
  go_wp2
  go_returns
  exact ⟨rfl, rfl⟩
theorem WString_nil (w : World) : Calls Try.prog 18 #[.pointer none] w fun e w' => e = .returned (.string ⟨#[]⟩) ∧ w = w' := by
  go_enter Try.func18, Try.ntmps18
  go_wp2
  go_ret
  exact ⟨rfl, rfl⟩
set_option maxHeartbeats 1000000 in
theorem WUint_nil (w : World) (n : Nat) (hn : n < 18446744073709551616) : Calls Try.prog 11 #[.pointer none, .int .u64 n] w fun e w' => e = .returned (.tuple #[]) ∧ w = w' := by
  go_enter Try.func11, Try.ntmps11
  go_wp2
  go_loopw [1] (fun x wr => ∃ (m : Nat), m ≤ n ∧ x = .int .u64 m ∧ wr = w) (fun x _ => (intOf x).toNat)
  case atStart => exact ⟨n, Nat.le_refl _, rfl, rfl⟩
  case round =>
    obtain ⟨m, hm, rfl, rfl⟩ := hrel
    by_cases h : m < 128
    · have hge : ¬ (128 : Int) ≤ (m : Int) := by omega
      go_wp2_with fail
      refine (WByte_nil _ _).mono ?_
      rintro e w' ⟨rfl, rfl⟩
      go_wp2
      go_returns
      exact ⟨rfl, rfl⟩
    · have hge : (128 : Int) ≤ (m : Int) := by omega
      have hdv : ((m : Int) / 128) = ((m / 128 : Nat) : Int) := by simp
      have Hdv := Lib.hid hdv; clear hdv
      go_wp2_with fail
      refine (WByte_nil _ _).mono ?_
      rintro e w' ⟨rfl, rfl⟩
      go_wp2
      exact ⟨⟨m / 128, by omega, by rw [Hdv.out], trivial⟩, by simp only [intOf]; omega⟩
set_option maxHeartbeats 1000000 in
theorem WInt_nil (w : World) (n : Int) (h0 : -9223372036854775808 ≤ n) (h1 : n < 9223372036854775808) : Calls Try.prog 13 #[.pointer none, .int .i64 n] w fun e w' => e = .returned (.tuple #[]) ∧ w = w' := by
  have hu := WUint_nil w (zig n) (zig_lt n h0 h1)
  have HU := Lib.hid hu; clear hu
  go_enter Try.func13, Try.ntmps13
  go_wp2_with fail
  rw [zig_bits n h0 h1]
  refine HU.out.mono ?_
  rintro e w1 ⟨rfl, rfl⟩
  go_wp2
  go_returns
  exact ⟨rfl, rfl⟩
set_option maxHeartbeats 1000000 in
theorem WText_nil (w : World) (s : ByteArray) (hs : s.size ≤ 9223372036854775807) : Calls Try.prog 15 #[.pointer none, .string s] w fun e w' => e = .returned (.tuple #[]) ∧ w = w' := by
  have hu := WUint_nil w s.size (by omega)
  have HU := Lib.hid hu; clear hu
  go_enter Try.func15, Try.ntmps15
  go_wp2_with fail
  refine HU.out.mono ?_
  rintro e w1 ⟨rfl, rfl⟩
  go_wp2_with fail
  refine (WRaw_nil _ _).mono ?_
  rintro e w1 ⟨rfl, rfl⟩
  go_wp2
  go_returns
  exact ⟨rfl, rfl⟩
theorem Raw_nil (w : World) (n : Int) : Calls Try.prog 24 #[.pointer none, .int .i64 n] w fun e w' => e = .returned (.string ⟨#[]⟩) ∧ w = w' := by
  go_enter Try.func24, Try.ntmps24
  go_wp2
  go_ret
  exact ⟨rfl, rfl⟩
theorem Byte_nil (w : World) : Calls Try.prog 20 #[.pointer none] w fun e w' => e = .returned (.int .u8 0) ∧ w = w' := by
  go_enter Try.func20, Try.ntmps20
  go_wp2_with fail
  refine (Raw_nil _ _).mono ?_
  rintro e w' ⟨rfl, rfl⟩
  go_wp2
  go_ret
  exact ⟨rfl, rfl⟩
theorem Uint_nil (w : World) : Calls Try.prog 21 #[.pointer none] w fun e w' => e = .returned (.int .u64 0) ∧ w = w' := by
  go_enter Try.func21, Try.ntmps21
  go_wp2
  go_ret
  exact ⟨rfl, rfl⟩
theorem Int_nil (w : World) : Calls Try.prog 22 #[.pointer none] w fun e w' => e = .returned (.int .i64 0) ∧ w = w' := by
  have hx : bits .xor .i64 0 (wrap64 (-wrap64 (bits .and .u64 0 1))) = 0 := by
    have := unz_bits 0 (by omega); exact this
  go_enter Try.func22, Try.ntmps22
  go_wp2_with fail
  refine (Uint_nil _).mono ?_
  rintro e w' ⟨rfl, rfl⟩
  go_wp2
  go_ret
  exact ⟨rfl, rfl⟩
theorem Text_nil (w : World) (m : Int) : Calls Try.prog 23 #[.pointer none, .int .i64 m] w fun e w' => e = .returned (.string ⟨#[]⟩) ∧ w = w' := by
  go_enter Try.func23, Try.ntmps23
  go_wp2_with fail
  refine (Uint_nil _).mono ?_
  rintro e w' ⟨rfl, rfl⟩
  go_wp2
  go_ret
  exact ⟨rfl, rfl⟩
theorem Left_nil (w : World) : Calls Try.prog 27 #[.pointer none] w fun e w' => e = .returned (.int .i64 0) ∧ w = w' := by
  go_enter Try.func27, Try.ntmps27
  go_wp2
  go_ret
  exact ⟨rfl, rfl⟩
theorem Err_nil (w : World) : Calls Try.prog 25 #[.pointer none] w fun e w' => e = .returned (.int .i64 10) ∧ w = w' := by
  go_enter Try.func25, Try.ntmps25
  go_wp2
  go_ret
  exact ⟨rfl, rfl⟩
theorem Done_nil (w : World) : Calls Try.prog 26 #[.pointer none] w fun e w' => e = .returned (.int .i64 10) ∧ w = w' := by
  go_enter Try.func26, Try.ntmps26
  go_wp2_with fail
  refine (Err_nil _).mono ?_
  rintro e w' ⟨rfl, rfl⟩
  go_wp2
  go_ret
  exact ⟨rfl, rfl⟩
/-- A fresh writer. -/
theorem wr_new (w : World) : WrAt w.heap.size w.heap.size [] (w.alloc (.cells #[.pointer none, .slice none 0 0] 29)) :=
  ⟨Or.inl ⟨Nat.le_refl _, .slice none 0 0, heap_alloc_new w _, World.ownsRow_nil _ _ _ _, by simp [Value.ownBlock]⟩, by simp⟩
theorem num300 : numL 300 = [172, 2] := by rw [numL_big 300 (by omega), numL_small _ (by omega)]; decide
theorem Rd.up {g k e : Nat} {l : List UInt8} {w w' : World} (h : Rd g l e w) (hu : UpV k w w') (hne : g ≠ k) : Rd g l e w' := (hu.other g hne).trans h
set_option maxRecDepth 100000 in
set_option maxHeartbeats 4000000 in
theorem awake_calls (w : World) : Calls Try.prog 9 #[] w fun e w' => e = .returned (.bool true) ∧ Below w.heap.size w w' := by
  have hw0 := wr_new w
  have hc0 := (Below.refl w.heap.size w).alloc (Nat.le_refl _) (.cells #[.pointer none, .slice none 0 0] 29)
  have hl : ([] ++ numL 300 ++ numL (zig (-1)) ++ (numL (⟨#[97, 98]⟩ : ByteArray).size ++ (⟨#[97, 98]⟩ : ByteArray).data.toList) : List UInt8) = [172, 2, 1, 2, 97, 98] := by
    rw [num300, show zig (-1) = 1 from by decide, numL_small 1 (by omega), show (⟨#[97, 98]⟩ : ByteArray).size = 2 from rfl, numL_small 2 (by omega)]; decide
  have Hl := Lib.hid hl; clear hl
  go_enter Try.func9, Try.ntmps9
  go_wp2_with fail
  generalize w.alloc (.cells #[.pointer none, .slice none 0 0] 29) = w0 at *
  refine (WUint_calls _ _ [] 300 _ hw0 (by omega) (by simp)).mono ?_
  rintro e w1 ⟨rfl, hw1, hb1⟩
  have hc1 := hc0.trans hb1
  clear hw0 hc0 hb1
  go_wp2_with fail
  refine (WInt_calls _ _ _ (-1) _ hw1 (by omega) (by omega) (by rw [num300]; simp)).mono ?_
  rintro e w2 ⟨rfl, hw2, hb2⟩
  have hc2 := hc1.trans hb2
  clear hw1 hc1 hb2
  go_wp2_with fail
  refine (WText_calls _ _ _ ⟨#[97, 98]⟩ _ hw2 (by
    rw [num300, show zig (-1) = 1 from by decide, numL_small 1 (by omega), show (⟨#[97, 98]⟩ : ByteArray).size = 2 from rfl]; simp)).mono ?_
  rintro e w3 ⟨rfl, hw3, hb3⟩
  rw [Hl.out] at hw3
  obtain ⟨v, hv⟩ := hw3.tx
  have hc3 := hc2.trans hb3
  clear hw2 hw3 hc2 hb3
  go_wp2_with fail
  refine (WString_calls _ _ v _ _ hv).mono ?_
  rintro e w4 ⟨rfl, -, hb4, -, -⟩
  have hc4 := hc3.trans hb4
  clear hv hc3 hb4
  rw [show (⟨[172, 2, 1, 2, 97, 98].toArray⟩ : ByteArray) = ⟨#[172, 2, 1, 2, 97, 98]⟩ from rfl]
  go_wp2_with fail
  refine (New_calls _ _).mono ?_
  rintro e w5 ⟨rfl, hr5, hb5, -⟩
  rw [show (⟨#[172, 2, 1, 2, 97, 98]⟩ : ByteArray).data.toList = [172, 2, 1, 2, 97, 98] from rfl] at hr5
  have hg := hc4.size
  have hc5 := bn hc4 hb5
  clear hc4 hb5
  generalize w4.heap.size = g at *
  go_wp2_with fail
  refine (Uint_calls _ g 0 _ hr5 (by omega)).mono ?_
  rintro e w6 ⟨rfl, hr6, hu6⟩
  rw [show uintR [172, 2, 1, 2, 97, 98] 0 = (300, [1, 2, 97, 98], 0) from by decide] at hr6 ⊢
  have hc6 := hc5.trans (hu6.below hg)
  clear hr5 hu6 hc5
  go_wp2_with fail
  refine (Int_calls _ g 0 [1, 2, 97, 98] hr6 (by omega)).mono ?_
  rintro e w7 ⟨rfl, hr7, hu7⟩
  rw [show uintR [1, 2, 97, 98] 0 = (1, [2, 97, 98], 0) from by decide] at hr7 ⊢
  have hc7 := hc6.trans (hu7.below hg)
  clear hr6 hu7 hc6
  rw [show unz (1, ([2, 97, 98] : List UInt8), 0).1 = -1 from by decide]
  go_wp2_with fail
  refine (Text_calls _ g 0 [2, 97, 98] 2 hr7 (by omega) (by omega)).mono ?_
  rintro e w8 ⟨rfl, hr8, hu8⟩
  rw [show textR [2, 97, 98] 0 2 = ([97, 98], [], 0) from by decide] at hr8 ⊢
  rw [show bstr ([97, 98], ([] : List UInt8), 0).1 = ⟨#[97, 98]⟩ from rfl]
  have hc8 := hc7.trans (hu8.below hg)
  clear hr7 hu8 hc7
  go_wp2_with fail
  refine (Done_calls _ g 0 [] hr8).mono ?_
  rintro e w' ⟨rfl, rfl⟩
  rw [show doneR [] 0 = 0 from by decide]
  clear hr8
  go_wp2_with fail
  refine (New_calls _ _).mono ?_
  rintro e w9 ⟨rfl, hx9, hb9, -⟩
  rw [show (⟨#[128, 0]⟩ : ByteArray).data.toList = [128, 0] from rfl] at hx9
  have hgx := hc8.size
  have hc9 := bn hc8 hb9
  clear hc8 hb9
  generalize w8.heap.size = gx at *
  go_wp2_with fail
  refine (Uint_calls _ gx 0 _ hx9 (by omega)).mono ?_
  rintro e w10 ⟨rfl, hx10, hu10⟩
  rw [show uintR [128, 0] 0 = (0, [], 4) from by decide] at hx10 ⊢
  have hc10 := hc9.trans (hu10.below hgx)
  clear hx9 hu10 hc9
  go_wp2_with fail
  refine (New_calls _ _).mono ?_
  rintro e w11 ⟨rfl, hy11, hb11, -⟩
  rw [show (⟨#[97]⟩ : ByteArray).data.toList = [97] from rfl] at hy11
  have hgy := hc10.size
  have hxy : gx ≠ w10.heap.size := Nat.ne_of_lt hx10.lt
  have hx11 := hx10.below hb11
  have hc11 := bn hc10 hb11
  clear hc10 hb11 hx10
  generalize w10.heap.size = gy at *
  go_wp2_with fail
  refine (Raw_calls _ gy 0 _ 2 hy11 (by omega)).mono ?_
  rintro e w12 ⟨rfl, hy12, hu12⟩
  rw [show rawR [97] 0 2 = ([], [97], 3) from by decide] at hy12 ⊢
  have hx12 := hx11.up hu12 hxy
  have hc12 := hc11.trans (hu12.below hgy)
  clear hx11 hy11 hu12 hc11
  go_wp2_with fail
  refine (Err_calls _ gx _ _ hx12).mono ?_
  rintro e w' ⟨rfl, rfl⟩
  go_wp2_with fail
  refine (Err_calls _ gy _ _ hy12).mono ?_
  rintro e w' ⟨rfl, rfl⟩
  go_wp2_with fail
  refine (Left_calls _ gy _ _ hy12).mono ?_
  rintro e w' ⟨rfl, rfl⟩
  go_wp2_with fail
  refine (New_calls _ _).mono ?_
  rintro e w13 ⟨rfl, hz13, hb13, -⟩
  rw [show (⟨#[97]⟩ : ByteArray).data.toList = [97] from rfl] at hz13
  have hc13 := bn hc12 hb13
  go_wp2_with fail
  refine (Done_calls _ _ _ _ hz13).mono ?_
  rintro e w' ⟨rfl, rfl⟩
  rw [show doneR [97] 0 = 4 from by decide]
  go_wp2
  go_ret
  exact ⟨rfl, hc13⟩
end Go.Proofs.Ytolkeibmllhacaa
