/- The walks of the reference's Reader: Uint, Text; and of small. -/
import Derived.Test.YtpgcdfdfbcmodaaRecRRd
namespace Go.Proofs.Ytpgcdfdfbcmodaa
open Go.RowKit Go.Sort
set_option linter.unusedVariables false
set_option linter.unusedSimpArgs false
theorem radd_gen (acc cn j : Nat) (hj : j ≤ 9) (hc : cn < 256) (ha : acc < 2 ^ (7 * j)) (h9 : j = 9 → cn ≤ 1) :
    IntKind.u64.wrap ((acc : Int) + IntKind.u64.wrap ((cn : Int) % 128 * 2 ^ (7 * j))) = ((acc + cn % 128 * 2 ^ (7 * j) : Nat) : Int) := by
  have hp63 : 2 ^ (7 * j) ≤ 9223372036854775808 := pow_le (7 * j) 63 (by omega)
  have hv : acc + cn % 128 * 2 ^ (7 * j) < 18446744073709551616 := by
    by_cases h : j = 9
    · have := h9 h
      have h1 : cn % 128 ≤ 1 := by omega
      have := Nat.mul_le_mul_right (2 ^ (7 * j)) h1
      omega
    · have h1 : 2 ^ (7 * j) ≤ 72057594037927936 := pow_le (7 * j) 56 (by omega)
      have := Nat.mul_le_mul (show cn % 128 ≤ 127 by omega) h1
      omega
  have e1 : ((cn : Int) % 128) * 2 ^ (7 * j) = ((cn % 128 * 2 ^ (7 * j) : Nat) : Int) := by simp
  rw [e1, IntKind.wrap_u64, IntKind.wrap_u64]
  generalize cn % 128 * 2 ^ (7 * j) = V at *
  omega
theorem radd_0 (acc cn : Nat) (hc : cn < 256) (ha : acc < 2 ^ (7 * 0)) :
    IntKind.u64.wrap ((acc : Int) + (cn : Int) % 128) = ((acc + cn % 128 * 2 ^ (7 * 0) : Nat) : Int) := by
  have h0 : acc < 1 := ha
  rw [IntKind.wrap_u64, show (2 : Nat) ^ (7 * 0) = 1 from rfl, Nat.mul_one]
  omega
theorem radd_9 (acc cn : Nat) (hc : cn < 256) (ha : acc < 2 ^ (7 * 9)) (h9 : cn ≤ 1) :
    IntKind.u64.wrap ((acc : Int) + (cn : Int) % 128 * 9223372036854775808) = ((acc + cn % 128 * 2 ^ (7 * 9) : Nat) : Int) := by
  have h : (2 : Nat) ^ (7 * 9) = 9223372036854775808 := by decide
  rw [h] at ha
  rw [h, IntKind.wrap_u64]
  omega
set_option maxHeartbeats 4000000 in
set_option maxRecDepth 100000 in
theorem RUint_wrong (w : World) (g e : Nat) (l : List UInt8) (h : RRd g l e w) (he : e < 1000) (h0 : e ≠ 0) :
    Calls Try.prog 39 #[.pointer (some ⟨g, 0, none⟩)] w fun x w' => x = .returned (.int .u64 0) ∧ RRd g l e w' ∧ UpV g w w' := by
  have hb := RByte_calls w g e l h he
  have hB : byteR l e = (0, l, e) := by unfold byteR; rw [if_pos h0]
  rw [hB] at hb
  have HB := Lib.hid hb; clear hb hB h
  have hne : ((e : Int) != 0) = true := by simp; omega
  go_enter Try.func39, Try.ntmps39
  go_wp2
  go_loopw [3, 4] (fun n i wr => n = .int .u64 0 ∧ i = .int .i64 0 ∧ wr = w) (fun _ i _ => 0)
  case atStart => exact ⟨rfl, rfl, rfl⟩
  case round =>
    obtain ⟨rfl, rfl, rfl⟩ := hrel
    go_wp2_with fail
    refine HB.out.mono ?_
    rintro x w1 ⟨rfl, h1, h2⟩
    have c1 := h1.c1
    have H1 := Lib.hid h1; clear h1
    go_wp2
    go_ret
    exact ⟨rfl, H1.out, h2⟩
set_option maxHeartbeats 4000000 in
set_option maxRecDepth 100000 in
theorem RUint_right (w : World) (g : Nat) (l : List UInt8) (h : RRd g l 0 w) :
    Calls Try.prog 39 #[.pointer (some ⟨g, 0, none⟩)] w fun x w' => x = .returned (.int .u64 ((uintL 0 0 l).1 : Nat)) ∧ RRd g (uintL 0 0 l).2.1 (uintL 0 0 l).2.2 w' ∧ UpV g w w' := by
  obtain ⟨F, hF⟩ : ∃ F, uintL 0 0 l = F := ⟨_, rfl⟩
  rw [hF]
  have HF := Lib.hid hF; clear hF
  have H := Lib.hid h; clear h
  go_enter Try.func39, Try.ntmps39
  go_wp2
  go_loopw [3, 4] (fun n i wr => ∃ (j acc : Nat) (r : List UInt8), j ≤ 9 ∧ n = .int .u64 acc ∧ i = .int .i64 j ∧ Hid (acc < 2 ^ (7 * j)) ∧ Hid (uintL j acc r = F) ∧ RRd g r 0 wr ∧ UpV g w wr) (fun _ i _ => 10 - (intOf i).toNat)
  case atStart => exact ⟨0, 0, l, by omega, rfl, rfl, Lib.hid (by decide), HF, H.out, UpV.refl _ _⟩
  case round =>
    obtain ⟨j, acc, r, hj, rfl, rfl, hacc, hu, hr, hup⟩ := hrel
    have hb := RByte_calls wr g 0 r hr (by omega)
    have Hr := Lib.hid hr; clear hr
    cases r with
    | nil =>
      rw [show byteR [] 0 = (0, [], 3) from rfl] at hb
      have HB := Lib.hid hb; clear hb
      have hf : F = (0, [], 3) := by rw [← hu.out]; rfl
      subst hf
      have hjI : (j : Int) < 10 := by omega
      go_wp2_with fail
      refine HB.out.mono ?_
      rintro x w1 ⟨rfl, h1, h2⟩
      have c1 := h1.c1
      have H1 := Lib.hid h1; clear h1
      go_wp2
      go_ret
      exact ⟨rfl, H1.out, hup.trans h2⟩
    | cons c r =>
      rw [show byteR (c :: r) 0 = (c.toNat, r, 0) from rfl] at hb
      simp only at hb
      have HB := Lib.hid hb; clear hb
      have hc : c.toNat < 256 := c.toNat_lt
      have hul := hu.out
      rw [uintL] at hul
      clear hu Hr
      generalize c.toNat = cn at *
      by_cases hj0 : j = 0
      · subst hj0
        rw [if_neg (by omega)] at hul
        have hor := radd_0 acc cn hc hacc.out
        have hb2 := acc_lt acc cn 0 hacc.out
        obtain ⟨A, hA⟩ : ∃ A, acc + cn % 128 * 2 ^ (7 * 0) = A := ⟨_, rfl⟩
        rw [hA] at hor hb2
        have Hor := Lib.hid hor; clear hor
        have Hb2 := Lib.hid hb2; clear hb2

        by_cases hsm : cn < 128
        · skip
          rw [if_pos hsm] at hul
          rw [Nat.mod_eq_of_lt hsm] at hA
          rw [hA] at hul
          subst hul
          clear hA
          go_wp2_with fail
          refine HB.out.mono ?_
          rintro x w1 ⟨rfl, h1, h2⟩
          have c1 := h1.c1
          have H1 := Lib.hid h1; clear h1
          go_wp2
          go_ret
          exact ⟨by show Ending.returned (.int .u64 _) = _; rw [Hor.out], H1.out, hup.trans h2⟩
        · skip
          rw [if_neg hsm, hA] at hul
          have Hul := Lib.hid hul; clear hul hA
          go_wp2_with fail
          refine HB.out.mono ?_
          rintro x w1 ⟨rfl, h1, h2⟩
          have c1 := h1.c1
          have H1 := Lib.hid h1; clear h1
          go_wp2
          exact ⟨⟨1, A, r, by omega, by rw [Hor.out], rfl, Hb2, Hul, H1.out, hup.trans h2⟩, by simp only [intOf]; omega⟩
      · have hjp : 0 < j := by omega
        by_cases hj9 : j = 9
        · subst hj9
          by_cases h1c : 1 < cn
          · rw [if_pos (by omega)] at hul
            subst hul
            go_wp2_with fail
            refine HB.out.mono ?_
            rintro x w1 ⟨rfl, h1, h2⟩
            have c1 := h1.c1
            have hfl := Rfail_calls w1 g 4 r h1
            have HFl := Lib.hid hfl; clear hfl h1
            go_wp2_with fail
            refine HFl.out.mono ?_
            rintro x w2 ⟨rfl, h3, h4⟩
            have d1 := h3.c1
            have H3 := Lib.hid h3; clear h3 c1
            go_wp2
            go_ret
            exact ⟨rfl, H3.out, (hup.trans h2).trans h4⟩
          · have hsm : cn < 128 := by omega
            by_cases h0c : cn = 0
            · subst h0c
              rw [if_pos (by omega)] at hul
              subst hul
              go_wp2_with fail
              refine HB.out.mono ?_
              rintro x w1 ⟨rfl, h1, h2⟩
              have c1 := h1.c1
              have hfl := Rfail_calls w1 g 4 r h1
              have HFl := Lib.hid hfl; clear hfl h1
              go_wp2_with fail
              refine HFl.out.mono ?_
              rintro x w2 ⟨rfl, h3, h4⟩
              have d1 := h3.c1
              have H3 := Lib.hid h3; clear h3 c1
              go_wp2
              go_ret
              exact ⟨rfl, H3.out, (hup.trans h2).trans h4⟩
            · have h0b : ((cn : Int) == 0) = false := by simp; omega
              rw [if_neg (by omega)] at hul
              have hor := radd_9 acc cn hc hacc.out (by omega)
              have hb2 := acc_lt acc cn 9 hacc.out
              obtain ⟨A, hA⟩ : ∃ A, acc + cn % 128 * 2 ^ (7 * 9) = A := ⟨_, rfl⟩
              rw [hA] at hor hb2
              have Hor := Lib.hid hor; clear hor
              have Hb2 := Lib.hid hb2; clear hb2

              rw [if_pos hsm] at hul
              rw [Nat.mod_eq_of_lt hsm] at hA
              rw [hA] at hul
              subst hul
              clear hA
              go_wp2_with fail
              refine HB.out.mono ?_
              rintro x w1 ⟨rfl, h1, h2⟩
              have c1 := h1.c1
              have H1 := Lib.hid h1; clear h1
              go_wp2
              go_ret
              exact ⟨by show Ending.returned (.int .u64 _) = _; rw [Hor.out], H1.out, hup.trans h2⟩
        · have hj9b : ((j : Int) == 9) = false := by simp; omega
          have hjI : (j : Int) < 10 := by omega
          by_cases h0c : cn = 0
          · subst h0c
            rw [if_pos (by omega)] at hul
            subst hul
            go_wp2_with fail
            refine HB.out.mono ?_
            rintro x w1 ⟨rfl, h1, h2⟩
            have c1 := h1.c1
            have hfl := Rfail_calls w1 g 4 r h1
            have HFl := Lib.hid hfl; clear hfl h1
            go_wp2_with fail
            refine HFl.out.mono ?_
            rintro x w2 ⟨rfl, h3, h4⟩
            have d1 := h3.c1
            have H3 := Lib.hid h3; clear h3 c1
            go_wp2
            go_ret
            exact ⟨rfl, H3.out, (hup.trans h2).trans h4⟩
          · have h0b : ((cn : Int) == 0) = false := by simp; omega
            rw [if_neg (by omega)] at hul
            have hor := radd_gen acc cn j (by omega) hc hacc.out (by omega)
            have hb2 := acc_lt acc cn j hacc.out
            obtain ⟨A, hA⟩ : ∃ A, acc + cn % 128 * 2 ^ (7 * j) = A := ⟨_, rfl⟩
            rw [hA] at hor hb2
            have Hor := Lib.hid hor; clear hor
            have Hb2 := Lib.hid hb2; clear hb2

            by_cases hsm : cn < 128
            · skip
              rw [if_pos hsm] at hul
              rw [Nat.mod_eq_of_lt hsm] at hA
              rw [hA] at hul
              subst hul
              clear hA
              go_wp2_with fail
              refine HB.out.mono ?_
              rintro x w1 ⟨rfl, h1, h2⟩
              have c1 := h1.c1
              have H1 := Lib.hid h1; clear h1
              go_wp2
              go_ret
              exact ⟨by show Ending.returned (.int .u64 _) = _; rw [Hor.out], H1.out, hup.trans h2⟩
            · skip
              rw [if_neg hsm, hA] at hul
              have Hul := Lib.hid hul; clear hul hA
              go_wp2_with fail
              refine HB.out.mono ?_
              rintro x w1 ⟨rfl, h1, h2⟩
              have c1 := h1.c1
              have H1 := Lib.hid h1; clear h1
              go_wp2
              exact ⟨⟨j + 1, A, r, by omega, by rw [Hor.out], rfl, Hb2, Hul, H1.out, hup.trans h2⟩, by simp only [intOf]; omega⟩
theorem RUint_calls (w : World) (g e : Nat) (l : List UInt8) (h : RRd g l e w) (he : e < 1000) :
    Calls Try.prog 39 #[.pointer (some ⟨g, 0, none⟩)] w fun x w' => x = .returned (.int .u64 ((uintR l e).1 : Nat)) ∧ RRd g (uintR l e).2.1 (uintR l e).2.2 w' ∧ UpV g w w' := by
  by_cases h0 : e = 0
  · subst h0
    exact RUint_right w g l h
  · have hR : uintR l e = (0, l, e) := by unfold uintR; rw [if_pos h0]
    rw [hR]
    exact RUint_wrong w g e l h he h0
set_option maxHeartbeats 2000000 in
set_option maxRecDepth 100000 in
theorem RdText_calls (w : World) (g e : Nat) (l : List UInt8) (most : Int) (h : RRd g l e w) (he : e < 1000) (hm : most < 9223372036854775808) :
    Calls Try.prog 41 #[.pointer (some ⟨g, 0, none⟩), .int .i64 most] w fun x w' => x = .returned (.string (bstr (textR l e most).1)) ∧ RRd g (textR l e most).2.1 (textR l e most).2.2 w' ∧ UpV g w w' := by
  have hu := RUint_calls w g e l h he
  have hz := (uintR_lt l e he).2
  have he2 := (uintR_lt l e he).1
  unfold textR
  generalize uintR l e = F at *
  obtain ⟨z, l', e'⟩ := F
  simp only at *
  have HU := Lib.hid hu; clear hu h
  by_cases h0 : e' = 0
  · subst h0
    rw [if_neg (by decide)]
    by_cases hneg : most < 0
    · rw [if_pos (Or.inl hneg)]
      go_enter Try.func41, Try.ntmps41
      go_wp2_with fail
      refine HU.out.mono ?_
      rintro x w1 ⟨rfl, h1, h2⟩
      have c1 := h1.c1
      have hf := Rfail_calls w1 g 7 l' h1
      have HF := Lib.hid hf; clear hf h1
      go_wp2_with fail
      refine HF.out.mono ?_
      rintro x w2 ⟨rfl, h3, h4⟩
      go_wp2
      go_ret
      exact ⟨rfl, h3, h2.trans h4⟩
    · have hmw : IntKind.u64.wrap most = most := by rw [IntKind.wrap_u64]; omega
      by_cases hbig : most < (z : Int)
      · rw [if_pos (Or.inr hbig)]
        go_enter Try.func41, Try.ntmps41
        go_wp2_with fail
        refine HU.out.mono ?_
        rintro x w1 ⟨rfl, h1, h2⟩
        have c1 := h1.c1
        have hf := Rfail_calls w1 g 7 l' h1
        have HF := Lib.hid hf; clear hf h1
        go_wp2_with fail
        refine HF.out.mono ?_
        rintro x w2 ⟨rfl, h3, h4⟩
        go_wp2
        go_ret
        exact ⟨rfl, h3, h2.trans h4⟩
      · rw [if_neg (fun h => h.elim hneg hbig)]
        go_enter Try.func41, Try.ntmps41
        go_wp2_with fail
        refine HU.out.mono ?_
        rintro x w1 ⟨rfl, h1, h2⟩
        have c1 := h1.c1
        have hr := RRaw_calls w1 g 0 l' (z : Int) h1 (by omega)
        have HR := Lib.hid hr; clear hr h1
        have hzw : wrap64 (z : Int) = (z : Int) := by unfold wrap64; omega
        have Hzi := Lib.hid hz; clear hz hm
        go_wp2_with fail
        refine HR.out.mono ?_
        rintro x w2 ⟨rfl, h3, h4⟩
        go_wp2
        go_ret
        exact ⟨rfl, h3, h2.trans h4⟩
  · rw [if_pos h0]
    have hne : ((e' : Int) != 0) = true := by simp; omega
    go_enter Try.func41, Try.ntmps41
    go_wp2_with fail
    refine HU.out.mono ?_
    rintro x w1 ⟨rfl, h1, h2⟩
    have c1 := h1.c1
    have H1 := Lib.hid h1; clear h1
    go_wp2
    go_ret
    exact ⟨rfl, H1.out, h2⟩
theorem rsmall_calls (w : World) (n : Nat) (hn : n < 18446744073709551616) : Calls Try.prog 40 #[.int .u64 n] w fun e w' => e = .returned (.int .i64 (sm n : Nat)) ∧ w = w' := by
  unfold sm
  by_cases h : 4294967296 < n
  · have hd : decide (4294967296 < (n : Int)) = true := decide_eq_true (by omega)
    rw [Nat.min_eq_right (by omega)]
    go_enter Try.func40, Try.ntmps40
    go_wp2
    go_ret
    exact ⟨rfl, rfl⟩
  · have hd : decide (4294967296 < (n : Int)) = false := decide_eq_false (by omega)
    rw [Nat.min_eq_left (by omega)]
    have hw : wrap64 (n : Int) = n := by unfold wrap64; omega
    go_enter Try.func40, Try.ntmps40
    go_wp2
    go_ret
    exact ⟨rfl, rfl⟩
end Go.Proofs.Ytpgcdfdfbcmodaa
