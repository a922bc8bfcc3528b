/- The walks of varint.Writer: Byte, Uint, Int, Text, Raw. -/
import Derived.Test.YtpgcdfdfbcmodaaVarBuilder
namespace Go.Proofs.Ytpgcdfdfbcmodaa
open Go.RowKit
set_option linter.unusedVariables false
set_option linter.unusedSimpArgs false
/-- A number's bytes, seven bits a byte. -/
def numL (n : Nat) : List UInt8 := if n < 128 then [UInt8.ofNat n] else UInt8.ofNat (n % 128 + 128) :: numL (n / 128)
termination_by n
decreasing_by omega
theorem numL_small (n : Nat) (h : n < 128) : numL n = [UInt8.ofNat n] := by rw [numL, if_pos h]
theorem numL_big (n : Nat) (h : ¬ n < 128) : numL n = UInt8.ofNat (n % 128 + 128) :: numL (n / 128) := by rw [numL, if_neg h]
theorem numL_length (n : Nat) : ∀ k, n < 128 ^ k → 0 < k → (numL n).length ≤ k := by
  intro k
  induction k generalizing n with
  | zero => intro _ h; omega
  | succ k ih =>
    intro h _
    by_cases h1 : n < 128
    · rw [numL_small n h1]; simp
    · rw [numL_big n h1, List.length_cons]
      have hk : 0 < k := by
        rcases Nat.eq_zero_or_pos k with e | e
        · subst e; simp at h; omega
        · exact e
      have := ih (n / 128) (by rw [Nat.pow_succ] at h; omega) hk
      omega
theorem numL_64 (n : Nat) (h : n < 18446744073709551616) : (numL n).length ≤ 10 := numL_length n 10 (Nat.lt_of_lt_of_le h (by decide)) (by omega)
/-- A writer holds so many bytes. -/
def WrAt (B b : Nat) (l : List UInt8) (w : World) : Prop := Lib.IsBuilder 84 5 B b (Lib.byteCells l) w ∧ B ≤ w.heap.size
theorem byteCells_snoc (l : List UInt8) (c : UInt8) : Lib.byteCells l ++ [.int .u8 (c.toNat : Int)] = Lib.byteCells (l ++ [c]) := by simp [Lib.byteCells]
set_option maxHeartbeats 1000000 in
set_option maxRecDepth 100000 in
theorem WByte_calls (B b : Nat) (l : List UInt8) (c : UInt8) (w : World) (h : WrAt B b l w) (hl : l.length + 1 ≤ 140737488355328) :
    Calls Try.prog 65 #[.pointer (some ⟨b, 0, none⟩), .int .u8 (c.toNat : Int)] w fun e w' => e = .returned (.tuple #[]) ∧ WrAt B b (l ++ [c]) w' ∧ Below B w w' := by
  have hb := fun w h k => BByte_calls B b (Lib.byteCells l) (c.toNat : Int) w h (by rw [Lib.byteCells_length]; exact hl) k
  rw [byteCells_snoc] at hb
  have HB := Lib.hid hb; clear hb
  obtain ⟨h1, h2⟩ := h
  have H1 := Lib.hid h1; clear h1
  go_enter Try.func65, Try.ntmps65
  go_wp2_with fail
  refine (HB.out _ H1.out h2).mono ?_
  rintro e w1 ⟨rfl, hw, hbl⟩
  go_wp2
  go_returns
  exact ⟨rfl, ⟨Or.inr hw, Nat.le_trans h2 hbl.size⟩, hbl⟩
set_option maxHeartbeats 1000000 in
set_option maxRecDepth 100000 in
theorem WRaw_calls (B b : Nat) (l : List UInt8) (s : ByteArray) (w : World) (h : WrAt B b l w) (hl : l.length + s.size ≤ 140737488355328) :
    Calls Try.prog 66 #[.pointer (some ⟨b, 0, none⟩), .string s] w fun e w' => e = .returned (.tuple #[]) ∧ WrAt B b (l ++ s.data.toList) w' ∧ Below B w w' := by
  have hb := fun w h k => BString_calls B b (Lib.byteCells l) s w h (by rw [Lib.byteCells_length]; exact hl) k
  have e : Lib.byteCells l ++ Lib.strCells s = Lib.byteCells (l ++ s.data.toList) := by simp [Lib.byteCells, Lib.strCells]
  rw [e] at hb
  have HB := Lib.hid hb; clear hb
  obtain ⟨h1, h2⟩ := h
  have H1 := Lib.hid h1; clear h1
  go_enter Try.func66, Try.ntmps66
  go_wp2_with fail
  refine (HB.out _ H1.out h2).mono ?_
  rintro e w1 ⟨rfl, hw, hbl⟩
  go_wp2
  go_returns
  exact ⟨rfl, ⟨Or.inr hw, Nat.le_trans h2 hbl.size⟩, hbl⟩
theorem or_128 (m : Nat) : bits .or .u8 ((m : Int) % 256) 128 = ((UInt8.ofNat (m % 128 + 128)).toNat : Int) := by
  rw [u8_or _ _ (by omega) (by omega) (by omega) (by omega), UInt8.toNat_ofNat']
  have h1 : ((m : Int) % 256).toNat = m % 256 := by omega
  have h2 : (128 : Int).toNat = 128 := rfl
  rw [h1, h2]
  have h3 : ∀ x : Fin 256, x.val ||| 128 = x.val % 128 + 128 := by decide +kernel
  have := h3 ⟨m % 256, by omega⟩
  simp only at this
  rw [this]; omega
set_option maxHeartbeats 2000000 in
set_option maxRecDepth 100000 in
theorem WUint_calls (B b : Nat) (l : List UInt8) (n : Nat) (w : World) (h : WrAt B b l w) (hn : n < 18446744073709551616) (hl : l.length + 10 ≤ 140737488355328) :
    Calls Try.prog 42 #[.pointer (some ⟨b, 0, none⟩), .int .u64 n] w fun e w' => e = .returned (.tuple #[]) ∧ WrAt B b (l ++ numL n) w' ∧ Below B w w' := by
  have h10 := numL_64 n hn
  have H10 := Lib.hid h10; clear h10
  have H := Lib.hid h; clear h
  go_enter Try.func42, Try.ntmps42
  go_wp2
  go_loopw [1] (fun x wr => ∃ (m : Nat) (d : List UInt8), m ≤ n ∧ x = .int .u64 m ∧ Hid (d ++ numL m = l ++ numL n) ∧ WrAt B b d wr ∧ Below B w wr) (fun x _ => (intOf x).toNat)
  case atStart => exact ⟨n, l, Nat.le_refl _, rfl, Lib.hid rfl, H.out, Below.refl _ _⟩
  case round =>
    obtain ⟨m, d, hm, rfl, hd, hw, hb⟩ := hrel
    have hlen : d.length + (numL m).length = l.length + (numL n).length := by
      have := congrArg List.length hd.out
      rwa [List.length_append, List.length_append] at this
    by_cases h128 : m < 128
    · have hs := numL_small m h128
      rw [hs] at hlen
      have hd2 := hd.out
      rw [hs] at hd2
      have Hd2 := Lib.hid hd2; clear hd2 hs
      have hdl : d.length + 1 ≤ 140737488355328 := by have := H10.out; simp at hlen; omega
      have hc : (m : Int) = ((UInt8.ofNat m).toNat : Int) := by rw [UInt8.toNat_ofNat']; omega
      have hge : ¬ (128 : Int) ≤ (m : Int) := by omega
      have hby := WByte_calls B b d (UInt8.ofNat m) wr hw hdl
      rw [← hc] at hby
      have Hby := Lib.hid hby; clear hby hlen hc
      go_wp2_with fail
      refine Hby.out.mono ?_
      rintro e w1 ⟨rfl, hw1, hb1⟩
      go_wp2
      go_returns
      exact ⟨rfl, by rw [← Hd2.out]; exact hw1, hb.trans hb1⟩
    · have hs := numL_big m h128
      rw [hs] at hlen
      have hd2 := hd.out
      rw [hs] at hd2
      have Hd2 := Lib.hid hd2; clear hd2 hs
      have hdl : d.length + 1 ≤ 140737488355328 := by have := H10.out; simp at hlen; omega
      have hge : (128 : Int) ≤ (m : Int) := by omega
      have hby := WByte_calls B b d (UInt8.ofNat (m % 128 + 128)) wr hw hdl
      have Hby := Lib.hid hby; clear hby hlen
      have hdv : ((m : Int) / 128) = ((m / 128 : Nat) : Int) := by simp
      have Hdv := Lib.hid hdv; clear hdv
      go_wp2_with fail
      rw [or_128]
      refine Hby.out.mono ?_
      rintro e w1 ⟨rfl, hw1, hb1⟩
      go_wp2
      exact ⟨⟨m / 128, _, by omega, by rw [Hdv.out], by rw [← Hd2.out]; exact Lib.hid (by simp), hw1, hb.trans hb1⟩, by simp only [intOf]; omega⟩
set_option maxHeartbeats 1000000 in
set_option maxRecDepth 100000 in
theorem WText_calls (B b : Nat) (l : List UInt8) (s : ByteArray) (w : World) (h : WrAt B b l w) (hl : l.length + 10 + s.size ≤ 140737488355328) :
    Calls Try.prog 44 #[.pointer (some ⟨b, 0, none⟩), .string s] w fun e w' => e = .returned (.tuple #[]) ∧ WrAt B b (l ++ (numL s.size ++ s.data.toList)) w' ∧ Below B w w' := by
  have h10 := numL_64 s.size (by omega)
  have hu := WUint_calls B b l s.size w h (by omega) (by omega)
  have hr := fun w1 (h1 : WrAt B b (l ++ numL s.size) w1) => WRaw_calls B b (l ++ numL s.size) s w1 h1 (by rw [List.length_append]; omega)
  rw [List.append_assoc] at hr
  have HU := Lib.hid hu; clear hu
  have HR := Lib.hid hr; clear hr h10
  go_enter Try.func44, Try.ntmps44
  go_wp2_with fail
  refine HU.out.mono ?_
  rintro e w1 ⟨rfl, hw1, hb1⟩
  go_wp2_with fail
  refine (HR.out _ hw1).mono ?_
  rintro e w2 ⟨rfl, hw2, hb2⟩
  go_wp2
  go_returns
  exact ⟨rfl, hw2, hb1.trans hb2⟩
/-- A number that may be below 0, as one that isn't. -/
def zig (n : Int) : Nat := if n < 0 then (-2 * n - 1).toNat else (2 * n).toNat
theorem zig_lt (n : Int) (h0 : -9223372036854775808 ≤ n) (h1 : n < 9223372036854775808) : zig n < 18446744073709551616 := by unfold zig; split <;> omega
theorem xor_all (x : Nat) (h : x < 2 ^ 64) : x ^^^ (2 ^ 64 - 1) = 2 ^ 64 - (x + 1) := by
  apply Nat.eq_of_testBit_eq
  intro i
  rw [Nat.testBit_xor, Nat.testBit_two_pow_sub_one, Nat.testBit_two_pow_sub_succ h]
  by_cases hi : i < 64
  · simp [hi]
  · have : x.testBit i = false := Nat.testBit_lt_two_pow (Nat.lt_of_lt_of_le h (Nat.pow_le_pow_right (by omega) (by omega)))
    simp [hi, this]
theorem zig_bits (n : Int) (h0 : -9223372036854775808 ≤ n) (h1 : n < 9223372036854775808) : bits .xor .u64 (IntKind.u64.wrap (IntKind.u64.wrap n * 2)) (IntKind.u64.wrap (n / 9223372036854775808)) = ((zig n : Nat) : Int) := by
  rw [IntKind.wrap_u64, IntKind.wrap_u64, IntKind.wrap_u64]
  unfold zig
  by_cases hn : n < 0
  · rw [if_pos hn]
    have e1 : n % 18446744073709551616 * 2 % 18446744073709551616 = 2 * n + 18446744073709551616 := by omega
    have e2 : n / 9223372036854775808 % 18446744073709551616 = 18446744073709551615 := by omega
    rw [e1, e2, u64_xor _ _ (by omega) (by omega) (by omega) (by omega)]
    have hx := xor_all (2 * n + 18446744073709551616).toNat (by omega)
    have e3 : (18446744073709551615 : Int).toNat = 2 ^ 64 - 1 := by decide
    rw [e3, hx]
    omega
  · rw [if_neg hn]
    have e1 : n % 18446744073709551616 * 2 % 18446744073709551616 = 2 * n := by omega
    have e2 : n / 9223372036854775808 % 18446744073709551616 = 0 := by omega
    rw [e1, e2, u64_xor _ _ (by omega) (by omega) (by omega) (by omega)]
    simp
end Go.Proofs.Ytpgcdfdfbcmodaa
