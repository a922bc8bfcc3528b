/- The walks of varint.Reader: Uint. -/
import Derived.Test.YtpgcdfdfbcmodaaVarReader
namespace Go.Proofs.Ytpgcdfdfbcmodaa
open Go.RowKit
set_option linter.unusedVariables false
set_option linter.unusedSimpArgs false
/-- A number's bytes taken apart, from the i-th on. -/
def uintL : Nat → Nat → List UInt8 → Nat × List UInt8 × Nat
  | _, _, [] => (0, [], 3)
  | i, acc, c :: r =>
    if (i = 9 ∧ 1 < c.toNat) ∨ (0 < i ∧ c.toNat = 0) then (0, r, 4)
    else if c.toNat < 128 then (acc + c.toNat * 2 ^ (7 * i), r, 0)
    else uintL (i + 1) (acc + (c.toNat % 128) * 2 ^ (7 * i)) r
def uintR (l : List UInt8) (e : Nat) : Nat × List UInt8 × Nat := if e ≠ 0 then (0, l, e) else uintL 0 0 l
theorem and_127 (x : Nat) (hx : x < 256) : bits .and .u8 (x : Int) 127 = ((x % 128 : Nat) : Int) := by
  have := u8_and_nat x 127 hx (by omega)
  rw [show ((127 : Nat) : Int) = 127 from rfl] at this
  rw [this, show (127 : Nat) = 2 ^ 7 - 1 from rfl, Nat.and_two_pow_sub_one_eq_mod]
theorem pow_le (j k : Nat) (h : j ≤ k) : 2 ^ j ≤ 2 ^ k := Nat.pow_le_pow_right (by omega) h
theorem or_gen (acc cn j : Nat) (hj : j ≤ 9) (hc : cn < 256) (ha : acc < 2 ^ (7 * j)) (h9 : j = 9 → cn ≤ 1) :
    bits .or .u64 (acc : Int) (IntKind.u64.wrap (IntKind.u64.wrap (bits .and .u8 (cn : Int) 127) * 2 ^ (7 * j))) = ((acc + cn % 128 * 2 ^ (7 * j) : Nat) : Int) := by
  have hp63 : 2 ^ (7 * j) ≤ 9223372036854775808 := pow_le (7 * j) 63 (by omega)
  have hv : cn % 128 * 2 ^ (7 * j) < 18446744073709551616 := by
    by_cases h : j = 9
    · have := h9 h
      have h1 : cn % 128 ≤ 1 := by omega
      have := Nat.mul_le_mul_right (2 ^ (7 * j)) h1
      omega
    · have h1 : 2 ^ (7 * j) ≤ 72057594037927936 := pow_le (7 * j) 56 (by omega)
      have := Nat.mul_le_mul (show cn % 128 ≤ 127 by omega) h1
      omega
  have h2 := Nat.two_pow_add_eq_or_of_lt ha (cn % 128)
  rw [and_127 cn hc, IntKind.wrap_u64, IntKind.wrap_u64]
  have e0 : (((cn % 128 : Nat) : Int) % 18446744073709551616) = ((cn % 128 : Nat) : Int) := by omega
  rw [e0]
  have e1 : ((cn % 128 : Nat) : Int) * 2 ^ (7 * j) = ((cn % 128 * 2 ^ (7 * j) : Nat) : Int) := by simp
  rw [e1]
  rw [Nat.mul_comm] at h2
  generalize cn % 128 * 2 ^ (7 * j) = V at *
  have e2 : ((V : Nat) : Int) % 18446744073709551616 = V := by omega
  rw [e2, u64_or_nat acc V (by omega) hv, Nat.or_comm, ← h2, Nat.add_comm]
theorem or_0 (acc cn : Nat) (hc : cn < 256) (ha : acc < 2 ^ (7 * 0)) :
    bits .or .u64 (acc : Int) (IntKind.u64.wrap (IntKind.u64.wrap (bits .and .u8 (cn : Int) 127))) = ((acc + cn % 128 * 2 ^ (7 * 0) : Nat) : Int) := by
  have := or_gen acc cn 0 (by omega) hc ha (by omega)
  rwa [show ((2 : Int) ^ (7 * 0)) = 1 from rfl, Int.mul_one] at this
theorem or_9 (acc cn : Nat) (hc : cn < 256) (ha : acc < 2 ^ (7 * 9)) (h9 : cn ≤ 1) :
    bits .or .u64 (acc : Int) (IntKind.u64.wrap (IntKind.u64.wrap (bits .and .u8 (cn : Int) 127) * 9223372036854775808)) = ((acc + cn % 128 * 2 ^ (7 * 9) : Nat) : Int) := by
  have := or_gen acc cn 9 (by omega) hc ha (fun _ => h9)
  rwa [show ((2 : Int) ^ (7 * 9)) = 9223372036854775808 from by decide] at this
theorem acc_lt (acc cn j : Nat) (ha : acc < 2 ^ (7 * j)) : acc + cn % 128 * 2 ^ (7 * j) < 2 ^ (7 * (j + 1)) := by
  have h1 : 2 ^ (7 * (j + 1)) = 128 * 2 ^ (7 * j) := by rw [Nat.mul_add, Nat.pow_add]; omega
  have := Nat.mul_le_mul_right (2 ^ (7 * j)) (show cn % 128 ≤ 127 by omega)
  rw [h1]; omega
set_option maxHeartbeats 4000000 in
set_option maxRecDepth 100000 in
theorem Uint_wrong (w : World) (g e : Nat) (l : List UInt8) (h : Rd g l e w) (he : e < 1000) (h0 : e ≠ 0) :
    Calls Try.prog 33 #[.pointer (some ⟨g, 0, none⟩)] w fun x w' => x = .returned (.int .u64 0) ∧ Rd g l e w' ∧ UpV g w w' := by
  have hb := Byte_calls w g e l h he
  have hB : byteR l e = (0, l, e) := by unfold byteR; rw [if_pos h0]
  rw [hB] at hb
  have HB := Lib.hid hb; clear hb hB h
  have hne : ((e : Int) != 0) = true := by simp; omega
  go_enter Try.func33, Try.ntmps33
  go_wp2
  go_loopw [2, 7] (fun n i wr => n = .int .u64 0 ∧ i = .int .i64 0 ∧ wr = w) (fun _ i _ => 0)
  case atStart => exact ⟨rfl, rfl, rfl⟩
  case round =>
    obtain ⟨rfl, rfl, rfl⟩ := hrel
    go_wp2_with fail
    refine HB.out.mono ?_
    rintro x w1 ⟨rfl, h1, h2⟩
    have c1 := h1.c1
    have H1 := Lib.hid h1; clear h1
    go_wp2
    go_ret
    exact ⟨rfl, H1.out, h2⟩
set_option maxHeartbeats 4000000 in
set_option maxRecDepth 100000 in
theorem Uint_right (w : World) (g : Nat) (l : List UInt8) (h : Rd g l 0 w) :
    Calls Try.prog 33 #[.pointer (some ⟨g, 0, none⟩)] w fun x w' => x = .returned (.int .u64 ((uintL 0 0 l).1 : Nat)) ∧ Rd g (uintL 0 0 l).2.1 (uintL 0 0 l).2.2 w' ∧ UpV g w w' := by
  obtain ⟨F, hF⟩ : ∃ F, uintL 0 0 l = F := ⟨_, rfl⟩
  rw [hF]
  have HF := Lib.hid hF; clear hF
  have H := Lib.hid h; clear h
  go_enter Try.func33, Try.ntmps33
  go_wp2
  go_loopw [2, 7] (fun n i wr => ∃ (j acc : Nat) (r : List UInt8), j ≤ 9 ∧ n = .int .u64 acc ∧ i = .int .i64 j ∧ Hid (acc < 2 ^ (7 * j)) ∧ Hid (uintL j acc r = F) ∧ Rd g r 0 wr ∧ UpV g w wr) (fun _ i _ => 10 - (intOf i).toNat)
  case atStart => exact ⟨0, 0, l, by omega, rfl, rfl, Lib.hid (by decide), HF, H.out, UpV.refl _ _⟩
  case round =>
    obtain ⟨j, acc, r, hj, rfl, rfl, hacc, hu, hr, hup⟩ := hrel
    have hb := Byte_calls wr g 0 r hr (by omega)
    have Hr := Lib.hid hr; clear hr
    cases r with
    | nil =>
      rw [show byteR [] 0 = (0, [], 3) from rfl] at hb
      have HB := Lib.hid hb; clear hb
      have hf : F = (0, [], 3) := by rw [← hu.out]; rfl
      subst hf
      by_cases hj0 : j = 0
      · subst hj0
        go_wp2_with fail
        refine HB.out.mono ?_
        rintro x w1 ⟨rfl, h1, h2⟩
        have c1 := h1.c1
        have H1 := Lib.hid h1; clear h1
        go_wp2
        go_ret
        exact ⟨rfl, H1.out, hup.trans h2⟩
      · have hjp : 0 < j := by omega
        by_cases hj9 : j = 9
        · subst hj9
          go_wp2_with fail
          refine HB.out.mono ?_
          rintro x w1 ⟨rfl, h1, h2⟩
          have c1 := h1.c1
          have H1 := Lib.hid h1; clear h1
          go_wp2
          go_ret
          exact ⟨rfl, H1.out, hup.trans h2⟩
        · have hj9b : ((j : Int) == 9) = false := by simp; omega
          go_wp2_with fail
          refine HB.out.mono ?_
          rintro x w1 ⟨rfl, h1, h2⟩
          have c1 := h1.c1
          have H1 := Lib.hid h1; clear h1
          go_wp2
          go_ret
          exact ⟨rfl, H1.out, hup.trans h2⟩
    | cons c r =>
      rw [show byteR (c :: r) 0 = (c.toNat, r, 0) from rfl] at hb
      simp only at hb
      have HB := Lib.hid hb; clear hb
      have hc : c.toNat < 256 := c.toNat_lt
      have hul := hu.out
      rw [uintL] at hul
      clear hu Hr
      generalize c.toNat = cn at *
      by_cases hj0 : j = 0
      · subst hj0
        rw [if_neg (by omega)] at hul
        have hor := or_0 acc cn hc hacc.out
        have hb2 := acc_lt acc cn 0 hacc.out
        obtain ⟨A, hA⟩ : ∃ A, acc + cn % 128 * 2 ^ (7 * 0) = A := ⟨_, rfl⟩
        rw [hA] at hor hb2
        have Hor := Lib.hid hor; clear hor
        have Hb2 := Lib.hid hb2; clear hb2
        by_cases hsm : cn < 128
        · rw [if_pos hsm] at hul
          rw [Nat.mod_eq_of_lt hsm] at hA
          rw [hA] at hul
          subst hul
          clear hA
          go_wp2_with fail
          refine HB.out.mono ?_
          rintro x w1 ⟨rfl, h1, h2⟩
          have c1 := h1.c1
          have H1 := Lib.hid h1; clear h1
          go_wp2
          go_ret
          exact ⟨by show Ending.returned (.int .u64 _) = _; rw [Hor.out], H1.out, hup.trans h2⟩
        · rw [if_neg hsm, hA] at hul
          have Hul := Lib.hid hul; clear hul hA
          go_wp2_with fail
          refine HB.out.mono ?_
          rintro x w1 ⟨rfl, h1, h2⟩
          have c1 := h1.c1
          have H1 := Lib.hid h1; clear h1
          go_wp2
          exact ⟨⟨1, A, r, by omega, by rw [Hor.out], rfl, Hb2, Hul, H1.out, hup.trans h2⟩, by simp only [intOf]; omega⟩
      · have hjp : 0 < j := by omega
        by_cases hj9 : j = 9
        · subst hj9
          by_cases h1c : 1 < cn
          · skip
            rw [if_pos (by omega)] at hul
            subst hul
            go_wp2_with fail
            refine HB.out.mono ?_
            rintro x w1 ⟨rfl, h1, h2⟩
            have c1 := h1.c1
            have hfl := fail_calls w1 g 4 r h1
            have HFl := Lib.hid hfl; clear hfl h1
            go_wp2_with fail
            refine HFl.out.mono ?_
            rintro x w2 ⟨rfl, h3, h4⟩
            have d1 := h3.c1
            have H3 := Lib.hid h3; clear h3 c1
            go_wp2
            go_ret
            exact ⟨rfl, H3.out, (hup.trans h2).trans h4⟩
          · by_cases h0c : cn = 0
            · subst h0c
              rw [if_pos (by omega)] at hul
              subst hul
              go_wp2_with fail
              refine HB.out.mono ?_
              rintro x w1 ⟨rfl, h1, h2⟩
              have c1 := h1.c1
              have hfl := fail_calls w1 g 4 r h1
              have HFl := Lib.hid hfl; clear hfl h1
              go_wp2_with fail
              refine HFl.out.mono ?_
              rintro x w2 ⟨rfl, h3, h4⟩
              have d1 := h3.c1
              have H3 := Lib.hid h3; clear h3 c1
              go_wp2
              go_ret
              exact ⟨rfl, H3.out, (hup.trans h2).trans h4⟩
            · have h0b : ((cn : Int) == 0) = false := by simp; omega
              rw [if_neg (by omega)] at hul
              have hor := or_9 acc cn hc hacc.out (by omega)
              have hb2 := acc_lt acc cn 9 hacc.out
              obtain ⟨A, hA⟩ : ∃ A, acc + cn % 128 * 2 ^ (7 * 9) = A := ⟨_, rfl⟩
              rw [hA] at hor hb2
              have Hor := Lib.hid hor; clear hor
              have Hb2 := Lib.hid hb2; clear hb2
              by_cases hsm : cn < 128
              · rw [if_pos hsm] at hul
                rw [Nat.mod_eq_of_lt hsm] at hA
                rw [hA] at hul
                subst hul
                clear hA
                go_wp2_with fail
                refine HB.out.mono ?_
                rintro x w1 ⟨rfl, h1, h2⟩
                have c1 := h1.c1
                have H1 := Lib.hid h1; clear h1
                go_wp2
                go_ret
                exact ⟨by show Ending.returned (.int .u64 _) = _; rw [Hor.out], H1.out, hup.trans h2⟩
              · omega
        · have hj9b : ((j : Int) == 9) = false := by simp; omega
          by_cases h0c : cn = 0
          · subst h0c
            rw [if_pos (by omega)] at hul
            subst hul
            go_wp2_with fail
            refine HB.out.mono ?_
            rintro x w1 ⟨rfl, h1, h2⟩
            have c1 := h1.c1
            have hfl := fail_calls w1 g 4 r h1
            have HFl := Lib.hid hfl; clear hfl h1
            go_wp2_with fail
            refine HFl.out.mono ?_
            rintro x w2 ⟨rfl, h3, h4⟩
            have d1 := h3.c1
            have H3 := Lib.hid h3; clear h3 c1
            go_wp2
            go_ret
            exact ⟨rfl, H3.out, (hup.trans h2).trans h4⟩
          · have h0b : ((cn : Int) == 0) = false := by simp; omega
            rw [if_neg (by omega)] at hul
            have hor := or_gen acc cn j (by omega) hc hacc.out (by omega)
            have hb2 := acc_lt acc cn j hacc.out
            obtain ⟨A, hA⟩ : ∃ A, acc + cn % 128 * 2 ^ (7 * j) = A := ⟨_, rfl⟩
            rw [hA] at hor hb2
            have Hor := Lib.hid hor; clear hor
            have Hb2 := Lib.hid hb2; clear hb2
            by_cases hsm : cn < 128
            · rw [if_pos hsm] at hul
              rw [Nat.mod_eq_of_lt hsm] at hA
              rw [hA] at hul
              subst hul
              clear hA
              go_wp2_with fail
              refine HB.out.mono ?_
              rintro x w1 ⟨rfl, h1, h2⟩
              have c1 := h1.c1
              have H1 := Lib.hid h1; clear h1
              go_wp2
              go_ret
              exact ⟨by show Ending.returned (.int .u64 _) = _; rw [Hor.out], H1.out, hup.trans h2⟩
            · rw [if_neg hsm, hA] at hul
              have Hul := Lib.hid hul; clear hul hA
              go_wp2_with fail
              refine HB.out.mono ?_
              rintro x w1 ⟨rfl, h1, h2⟩
              have c1 := h1.c1
              have H1 := Lib.hid h1; clear h1
              go_wp2
              exact ⟨⟨j + 1, A, r, by omega, by rw [Hor.out], rfl, Hb2, Hul, H1.out, hup.trans h2⟩, by simp only [intOf]; omega⟩
theorem uintL_lt : ∀ (l : List UInt8) (i acc : Nat), (uintL i acc l).2.2 < 1000
  | [], _, _ => by show (3 : Nat) < 1000; omega
  | c :: r, i, acc => by
    rw [uintL]
    split
    · show (4 : Nat) < 1000; omega
    · split
      · show (0 : Nat) < 1000; omega
      · exact uintL_lt r _ _
theorem uintL_64 : ∀ (l : List UInt8) (i acc : Nat), i ≤ 9 → acc < 2 ^ (7 * i) → (uintL i acc l).1 < 18446744073709551616
  | [], _, _, _, _ => by show (0 : Nat) < _; omega
  | c :: r, i, acc, hi, ha => by
    rw [uintL]
    have hc := c.toNat_lt
    split
    · show (0 : Nat) < _; omega
    · rename_i hn
      split
      · rename_i hs
        show acc + c.toNat * 2 ^ (7 * i) < _
        have h1 := acc_lt acc c.toNat i ha
        rw [Nat.mod_eq_of_lt hs] at h1
        by_cases h9 : i = 9
        · subst h9
          have h2 : c.toNat ≤ 1 := by omega
          have h3 := Nat.mul_le_mul_right (2 ^ (7 * 9)) h2
          have : (2 : Nat) ^ (7 * 9) = 9223372036854775808 := by decide
          omega
        · have : 2 ^ (7 * (i + 1)) ≤ 9223372036854775808 := pow_le (7 * (i + 1)) 63 (by omega)
          omega
      · rename_i hs
        exact uintL_64 r _ _ (by omega) (acc_lt acc c.toNat i ha)
theorem uintR_lt (l : List UInt8) (e : Nat) (he : e < 1000) : (uintR l e).2.2 < 1000 ∧ (uintR l e).1 < 18446744073709551616 := by
  unfold uintR
  split
  · exact ⟨he, by show (0 : Nat) < _; omega⟩
  · exact ⟨uintL_lt l 0 0, uintL_64 l 0 0 (by omega) (by decide)⟩
theorem Uint_calls (w : World) (g e : Nat) (l : List UInt8) (h : Rd g l e w) (he : e < 1000) :
    Calls Try.prog 33 #[.pointer (some ⟨g, 0, none⟩)] w fun x w' => x = .returned (.int .u64 ((uintR l e).1 : Nat)) ∧ Rd g (uintR l e).2.1 (uintR l e).2.2 w' ∧ UpV g w w' := by
  by_cases h0 : e = 0
  · subst h0
    exact Uint_right w g l h
  · have hR : uintR l e = (0, l, e) := by unfold uintR; rw [if_pos h0]
    rw [hR]
    exact Uint_wrong w g e l h he h0
/-- What was written is read. -/
theorem uintL_num (rest : List UInt8) : ∀ (k n i acc : Nat), n < 2 ^ k → k + 7 * i ≤ 64 → i ≤ 9 → (0 < i → 0 < n) → uintL i acc (numL n ++ rest) = (acc + n * 2 ^ (7 * i), rest, 0) := by
  intro k
  induction k using Nat.strongRecOn with
  | _ k ih =>
    intro n i acc hn hk hi h0
    by_cases hs : n < 128
    · rw [numL_small n hs, List.singleton_append, uintL]
      have hc : (UInt8.ofNat n).toNat = n := by rw [UInt8.toNat_ofNat']; omega
      rw [hc, if_neg, if_pos hs]
      rintro (⟨h9, h1⟩ | ⟨h1, h2⟩)
      · have : 2 ^ k ≤ 2 ^ 1 := pow_le k 1 (by omega)
        omega
      · have := h0 h1; omega
    · rw [numL_big n hs, List.cons_append, uintL]
      have hc : (UInt8.ofNat (n % 128 + 128)).toNat = n % 128 + 128 := by rw [UInt8.toNat_ofNat']; omega
      have hk7 : 7 < k := by
        rcases Nat.lt_or_ge 7 k with h | h
        · exact h
        · have : 2 ^ k ≤ 2 ^ 7 := pow_le k 7 h
          omega
      have hi9 : i ≠ 9 := by omega
      rw [hc, if_neg (by omega), if_neg (by omega)]
      have hn2 : n / 128 < 2 ^ (k - 7) := by
        have e : 2 ^ k = 2 ^ (k - 7) * 128 := by rw [show (128 : Nat) = 2 ^ 7 from rfl, ← Nat.pow_add]; congr 1; omega
        omega
      rw [ih (k - 7) (by omega) (n / 128) (i + 1) _ hn2 (by omega) (by omega) (by omega)]
      have e2 : 2 ^ (7 * (i + 1)) = 128 * 2 ^ (7 * i) := by rw [Nat.mul_add, Nat.pow_add]; omega
      have e3 : (n % 128 + 128) % 128 = n % 128 := by omega
      have e4 : n * 2 ^ (7 * i) = n % 128 * 2 ^ (7 * i) + n / 128 * 2 ^ (7 * (i + 1)) := by
        rw [e2, ← Nat.mul_assoc, ← Nat.add_mul]; congr 1; omega
      rw [e3, e4, Nat.add_assoc]
theorem uintR_num (n : Nat) (hn : n < 18446744073709551616) (rest : List UInt8) : uintR (numL n ++ rest) 0 = (n, rest, 0) := by
  unfold uintR
  rw [if_neg (by decide), uintL_num rest 64 n 0 0 hn (by omega) (by omega) (by omega)]
  simp
end Go.Proofs.Ytpgcdfdfbcmodaa
