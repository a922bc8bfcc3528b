/- The walk of package sack: Merge; and what they answer of none. -/
import Derived.Test.YtcmgmdgeimmbeaaSackBits
namespace Go.Proofs.Ytcmgmdgeimmbeaa
open Go.RowKit
set_option linter.unusedVariables false
set_option linter.unusedSimpArgs false
theorem withB_told (B : List Bool) (t : Nat → Bool) (j : Nat) (h : j < B.length) (ht : t j = true) : withB B t (j + 1) = (withB B t j).set j true := by
  rw [withB_step B t j h, ht]
  cases hb : B.getD j false with
  | false => rw [if_pos (by decide)]
  | true =>
    rw [if_neg (by decide)]
    apply list_ext_getD _ _ (by simp)
    intro k hk
    rw [getD_set _ _ _ _ (by rw [withB_length]; exact h)]
    split
    · rename_i e; subst e; rw [withB_at, hb]
    · rfl
theorem withB_untold (B : List Bool) (t : Nat → Bool) (j : Nat) (h : j < B.length) (ht : t j = false) : withB B t (j + 1) = withB B t j := by
  rw [withB_step B t j h, ht, if_neg (by simp)]
theorem newB_le (B : List Bool) (t : Nat → Bool) : ∀ j, newB B t j ≤ j
  | 0 => Nat.le_refl _
  | j + 1 => by have := newB_le B t j; have := toNat_lt2 (t j && !B.getD j false); simp only [newB]; omega
theorem newI_with (B : List Bool) (t : Nat → Bool) (j : Nat) (h : j < B.length) : newI (withB B t j) (j : Int) = !B.getD j false := by
  unfold newI
  rw [hasB_nat, withB_at, withB_length, decide_eq_true (by omega), decide_eq_true (by omega)]; rfl
theorem setB_nat (B : List Bool) (j : Nat) : setB B (j : Int) = B.set j true := by unfold setB; rw [if_pos (by omega)]; rfl
theorem bit_and (x r : Nat) (hx : x < 256) : (bits .and .u8 ((x : Int) / 2 ^ r) 1 == 1) = x.testBit r := by
  have h1 := u8_and_nat (x / 2 ^ r) 1 (Nat.lt_of_le_of_lt (Nat.div_le_self _ _) hx) (by omega)
  have h2 : x / 2 ^ r &&& 1 = x / 2 ^ r % 2 := Nat.and_one_is_mod _
  have h3 : ((x / 2 ^ r : Nat) : Int) = (x : Int) / 2 ^ r := by simp
  rw [h2, bit_div, h3, show ((1 : Nat) : Int) = 1 from rfl] at h1
  rw [h1]
  cases x.testBit r <;> rfl
theorem bitS_in (s : ByteArray) (k : Nat) (h : k / 8 < s.size) : bitS s k = (s[k / 8].toNat).testBit (k % 8) := by
  unfold bitS
  have e : s.data.toList.getD (k / 8) 0 = s[k / 8] := by
    rw [List.getD_eq_getElem?_getD, List.getElem?_eq_getElem (show k / 8 < s.data.toList.length from h)]; rfl
  rw [e]
theorem toldB_below (base : Int) (s : ByteArray) (j : Nat) (h : (j : Int) < base) : toldB base s j = true := by unfold toldB; simp [h]
theorem toldB_same (base : Int) (s : ByteArray) (j : Nat) (h : (j : Int) = base) : toldB base s j = false := by unfold toldB; simp [h]
theorem toldB_above (base : Int) (s : ByteArray) (j d : Nat) (h : (j : Int) - base - 1 = d) : toldB base s j = bitS s d := by
  unfold toldB
  rw [h, decide_eq_false (show ¬ (j : Int) < base by omega), decide_eq_true (show base < (j : Int) by omega), decide_eq_true (by omega)]
  simp
set_option maxRecDepth 100000 in
set_option maxHeartbeats 4000000 in
theorem Merge_calls (w : World) (g : Nat) (B : List Bool) (base : Int) (s : ByteArray) (h : Mp B g w) (hb0 : -9223372036854775808 ≤ base) (hb1 : base < 9223372036854775808) (hs : s.size ≤ 140737488351232) :
   Calls Try.prog 34 #[.pointer (some ⟨g, 0, none⟩), .int .i64 base, .string s] w fun e w' => e = .returned (.int .i64 (newB B (toldB base s) B.length : Nat)) ∧ Mp (withB B (toldB base s) B.length) g w' ∧ Upd g w w' := by
  have hle := h.le
  have hlen := fun w h => Len_calls w g B h
  have hset := fun w (C : List Bool) (i : Nat) h => Set_calls w g C i h
  have ht1 := toldB_below base s
  have ht2 := toldB_same base s
  have ht3 := toldB_above base s
  generalize toldB base s = t at *
  obtain ⟨N, hN⟩ : ∃ N : Nat, B.length = N := ⟨_, rfl⟩
  have h0 : Mp (withB B t 0) g w := by rw [withB_zero]; exact h
  have htold := withB_told B t
  have hunt := withB_untold B t
  have hnl := newB_le B t
  have hnew := newI_with B t
  have hns : ∀ j, newB B t (j + 1) = newB B t j + (t j && !B.getD j false).toNat := fun _ => rfl
  rw [hN] at hle htold hunt hnew hlen ⊢
  obtain ⟨nb, hnb⟩ : ∃ nb : Nat → Nat, nb = newB B t := ⟨_, rfl⟩
  have hn0 : nb 0 = 0 := by rw [hnb]; rfl
  rw [← hnb] at hns hnl ⊢
  clear hnb
  have HL := Lib.hid hlen; clear hlen
  have HS := Lib.hid hset; clear hset
  have HT1 := Lib.hid ht1; clear ht1
  have HT2 := Lib.hid ht2; clear ht2
  have HT3 := Lib.hid ht3; clear ht3
  have HTold := Lib.hid htold; clear htold
  have HUn := Lib.hid hunt; clear hunt
  have HNl := Lib.hid hnl; clear hnl
  have HNew := Lib.hid hnew; clear hnew
  have HNs := Lib.hid hns; clear hns
  have HN0 := Lib.hid hn0; clear hn0
  have H0 := Lib.hid h0; clear h0
  have HN := Lib.hid hN; clear hN
  have H := Lib.hid h; clear h
  go_enter Try.func34, Try.ntmps34
  go_wp2_with fail
  with_reducible refine (HL.out _ H.out).mono ?_
  rintro e w1 ⟨rfl, rfl⟩
  go_wp2
  go_loopw [6, 12] (fun n i wr => ∃ (j : Nat), j ≤ N ∧ n = .int .i64 (nb j : Nat) ∧ i = .int .i64 j ∧ Mp (withB B t j) g wr ∧ Upd g w wr) (fun _ i _ => N - (intOf i).toNat)
  case atStart => exact ⟨0, by omega, by rw [HN0.out]; rfl, rfl, H0.out, Upd.refl _ _⟩
  case round =>
    obtain ⟨j, hj, rfl, rfl, hm, hu⟩ := hrel
    have HM := Lib.hid hm; clear hm
    have HU := Lib.hid hu; clear hu
    have hnj := HNl.out j
    have hns := HNs.out j
    by_cases hlt : j < N
    · have hnew := HNew.out j hlt
      have hsetb := setB_nat (withB B t j) j
      rcases Int.lt_trichotomy (j : Int) base with hlb | hlb | hlb
      · have hgt : ¬ base < (j : Int) := by omega
        have ht : t j = true := HT1.out j hlb
        have htd := HTold.out j hlt ht
        rw [ht] at hns
        have hx := HS.out wr (withB B t j) j HM.out
        rw [hnew, hsetb, ← htd] at hx
        have HX := Lib.hid hx; clear hx
        have Hns := Lib.hid hns; clear hns
        clear hnew hsetb htd ht
        go_wp2_with fail
        with_reducible refine HX.out.mono ?_
        rintro e w3 ⟨rfl, hm3, hu3⟩
        cases hB : B.getD j false with
        | false =>
          have hn : nb (j + 1) = nb j + 1 := by rw [Hns.out, hB]; rfl
          have Hn := Lib.hid hn; clear hn hB
          go_wp2
          exact ⟨⟨j + 1, by omega, by rw [Hn.out]; rfl, rfl, hm3, HU.out.trans hu3⟩, by simp only [intOf]; omega⟩
        | true =>
          have hn : nb (j + 1) = nb j := by rw [Hns.out, hB]; rfl
          have Hn := Lib.hid hn; clear hn hB
          go_wp2
          exact ⟨⟨j + 1, by omega, by rw [Hn.out], rfl, hm3, HU.out.trans hu3⟩, by simp only [intOf]; omega⟩
      · obtain rfl : base = (j : Int) := hlb.symm
        have ht : t j = false := HT2.out j rfl
        have htd := HUn.out j hlt ht
        have hn : nb (j + 1) = nb j := by rw [hns, ht]; rfl
        have Htd := Lib.hid htd; clear htd
        have Hn := Lib.hid hn; clear hn hns ht hnew hsetb
        go_wp2
        exact ⟨⟨j + 1, by omega, by rw [Hn.out], rfl, by rw [Htd.out]; exact HM.out, HU.out⟩, by simp only [intOf]; omega⟩
      · have hgt2 : ¬ (j : Int) < base := by omega
        obtain ⟨d, hd⟩ : ∃ d : Nat, (j : Int) - base - 1 = d := ⟨((j : Int) - base - 1).toNat, by omega⟩
        by_cases hov : (j : Int) - base < 9223372036854775808
        · have htj := HT3.out j d hd
          by_cases hq : d / 8 < s.size
          · have hbit := bitS_in s d hq
            have hby := bit_and s[d / 8].toNat (d % 8) s[d / 8].toNat_lt
            rw [hbit] at htj
            rw [← htj] at hby
            have hqi : (d : Int) / 8 < (s.size : Int) := by omega
            cases hT : t j with
            | true =>
              rw [hT] at hby
              have ht : t j = true := hT
              have htd := HTold.out j hlt ht
              rw [ht] at hns
              have hx := HS.out wr (withB B t j) j HM.out
              rw [hnew, hsetb, ← htd] at hx
              have HX := Lib.hid hx; clear hx
              have Hns := Lib.hid hns; clear hns
              clear hnew hsetb htd ht
              go_wp2_with fail
              with_reducible refine HX.out.mono ?_
              rintro e w3 ⟨rfl, hm3, hu3⟩
              cases hB : B.getD j false with
              | false =>
                have hn : nb (j + 1) = nb j + 1 := by rw [Hns.out, hB]; rfl
                have Hn := Lib.hid hn; clear hn hB
                go_wp2
                exact ⟨⟨j + 1, by omega, by rw [Hn.out]; rfl, rfl, hm3, HU.out.trans hu3⟩, by simp only [intOf]; omega⟩
              | true =>
                have hn : nb (j + 1) = nb j := by rw [Hns.out, hB]; rfl
                have Hn := Lib.hid hn; clear hn hB
                go_wp2
                exact ⟨⟨j + 1, by omega, by rw [Hn.out], rfl, hm3, HU.out.trans hu3⟩, by simp only [intOf]; omega⟩
            | false =>
              rw [hT] at hby
              have ht : t j = false := hT
              have htd := HUn.out j hlt ht
              have hn : nb (j + 1) = nb j := by rw [hns, ht]; rfl
              have Htd := Lib.hid htd; clear htd
              have Hn := Lib.hid hn; clear hn hns ht hnew hsetb
              go_wp2
              exact ⟨⟨j + 1, by omega, by rw [Hn.out], rfl, by rw [Htd.out]; exact HM.out, HU.out⟩, by simp only [intOf]; omega⟩
          · have hqi : ¬ (d : Int) / 8 < (s.size : Int) := by omega
            have hout := bitS_out s d (by omega)
            have ht : t j = false := by rw [htj]; exact hout
            have htd := HUn.out j hlt ht
            have hn : nb (j + 1) = nb j := by rw [hns, ht]; rfl
            have Htd := Lib.hid htd; clear htd
            have Hn := Lib.hid hn; clear hn hns ht hnew hsetb
            clear hout htj
            go_wp2
            exact ⟨⟨j + 1, by omega, by rw [Hn.out], rfl, by rw [Htd.out]; exact HM.out, HU.out⟩, by simp only [intOf]; omega⟩
        · have htj := HT3.out j d hd
          have hout := bitS_out s d (by omega)
          by_cases h63 : (j : Int) - base = 9223372036854775808
          · have haw : wrap64 (wrap64 ((j : Int) - base) - 1) = 9223372036854775807 := by rw [h63]; unfold wrap64; decide
            have hbig : ¬ (1152921504606846975 : Int) < (s.size : Int) := by omega
            have h63' := Lib.hid h63; clear h63
            clear hov hd
            have ht : t j = false := by rw [htj]; exact hout
            have htd := HUn.out j hlt ht
            have hn : nb (j + 1) = nb j := by rw [hns, ht]; rfl
            have Htd := Lib.hid htd; clear htd
            have Hn := Lib.hid hn; clear hn hns ht hnew hsetb
            clear hout htj
            go_wp2
            exact ⟨⟨j + 1, by omega, by rw [Hn.out], rfl, by rw [Htd.out]; exact HM.out, HU.out⟩, by simp only [intOf]; omega⟩
          · obtain ⟨A, haw⟩ : ∃ A : Int, wrap64 (wrap64 ((j : Int) - base) - 1) = A := ⟨_, rfl⟩
            have hneg : A < 0 := by
              have h1 : wrap64 ((j : Int) - base) = (j : Int) - base - 18446744073709551616 := by unfold wrap64; omega
              rw [h1] at haw
              have h2 : wrap64 ((j : Int) - base - 18446744073709551616 - 1) = (j : Int) - base - 18446744073709551616 - 1 := by unfold wrap64; omega
              rw [h2] at haw
              omega
            clear hov hd h63
            have ht : t j = false := by rw [htj]; exact hout
            have htd := HUn.out j hlt ht
            have hn : nb (j + 1) = nb j := by rw [hns, ht]; rfl
            have Htd := Lib.hid htd; clear htd
            have Hn := Lib.hid hn; clear hn hns ht hnew hsetb
            clear hout htj
            go_wp2
            exact ⟨⟨j + 1, by omega, by rw [Hn.out], rfl, by rw [Htd.out]; exact HM.out, HU.out⟩, by simp only [intOf]; omega⟩
    · obtain rfl : j = N := by omega
      go_wp2
      go_ret
      exact ⟨rfl, HM.out, HU.out⟩
set_option maxRecDepth 100000 in
set_option maxHeartbeats 2000000 in
theorem Count_nil (w : World) :
   Calls Try.prog 27 #[.pointer none] w fun e w' => e = .returned (.int .i64 0) ∧ w = w' := by
  go_enter Try.func27, Try.ntmps27
  go_wp2
  go_ret
  exact ⟨rfl, rfl⟩
set_option maxRecDepth 100000 in
set_option maxHeartbeats 2000000 in
theorem Merge_nil (w : World) (i : Int) (s : ByteArray) :
   Calls Try.prog 34 #[.pointer none, .int .i64 i, .string s] w fun e w' => e = .returned (.int .i64 0) ∧ w = w' := by
  go_enter Try.func34, Try.ntmps34
  go_wp2_with fail
  refine (Len_nil _).mono ?_
  rintro e w1 ⟨rfl, rfl⟩
  go_wp2
  go_loopw [6, 12] (fun n i wr => n = .int .i64 0 ∧ i = .int .i64 0 ∧ wr = w) (fun _ i _ => 0)
  case atStart => exact ⟨rfl, rfl, rfl⟩
  case round =>
    obtain ⟨rfl, rfl, rfl⟩ := hrel
    go_wp2
    go_ret
    exact ⟨rfl, rfl⟩
set_option maxRecDepth 100000 in
set_option maxHeartbeats 2000000 in
theorem Missing_nil (w : World) :
   Calls Try.prog 45 #[.pointer none, .int .i64 0, .int .i64 9] w fun e w' => e = .returned (.slice none 0 0) ∧ w = w' := by
  go_enter Try.func45, Try.ntmps45
  go_wp2
  go_loopw [6, 7] (fun v i wr => v = .slice none 0 0 ∧ i = .int .i64 0 ∧ wr = w) (fun _ i _ => 0)
  case atStart => exact ⟨rfl, rfl, rfl⟩
  case round =>
    obtain ⟨rfl, rfl, rfl⟩ := hrel
    go_wp2_with fail
    refine (Len_nil _).mono ?_
    rintro e w1 ⟨rfl, rfl⟩
    go_wp2
    go_ret
    exact ⟨rfl, rfl⟩
end Go.Proofs.Ytcmgmdgeimmbeaa
