/- The walk of signpostlaw13.awake: it answers true. -/
import Derived.Test.YtcmgmdgeimmbeaaSenBad
namespace Go.Proofs.Ytcmgmdgeimmbeaa
open Go.RowKit
set_option linter.unusedVariables false
set_option linter.unusedSimpArgs false
def C3 : List ByteArray := [⟨#[97]⟩, ⟨#[98]⟩, ⟨#[99]⟩]
def A0 : Sn := ⟨7, 8, C3, [false, false, false], [0, 0, 0], [0, 0, 0], 0, false⟩
def A1 : Sn := ⟨7, 8, C3, [false, false, false], [1, 1, 1], [1, 1, 1], 1, false⟩
def A2 : Sn := ⟨7, 8, C3, [false, false, false], [1, 1, 1], [1, 1, 1], 2, false⟩
def A3 : Sn := ⟨7, 8, C3, [true, false, true], [1, 1, 1], [1, 1, 1], 2, false⟩
def A4 : Sn := ⟨7, 8, C3, [true, false, true], [1, 1, 1], [1, 1, 1], 3, false⟩
def A5 : Sn := ⟨7, 8, C3, [true, false, true], [1, 1, 1], [1, 1, 1], 4, false⟩
def A6 : Sn := ⟨7, 8, C3, [true, false, true], [1, 2, 1], [1, 5, 1], 5, false⟩
def A7 : Sn := ⟨7, 8, C3, [true, true, true], [1, 2, 1], [1, 5, 1], 5, false⟩
theorem tick0 : A0.tick = ([0, 1, 2], 0, A1) := rfl
theorem tick1 : A1.tick = ([], 0, A2) := rfl
theorem ack2 : A2.ack 2 7 8 1 3 ⟨#[1]⟩ = (0, A3) := by
  have : withB A2.B (toldB 1 ⟨#[1]⟩) A2.B.length = [true, false, true] := by decide +kernel
  unfold Sn.ack
  rw [this, if_neg (by decide), if_neg (by decide), if_neg (by decide), if_neg (by decide)]
  rfl
theorem ack3 : A3.ack 2 6 8 1 3 ⟨#[]⟩ = (12, A3) := rfl
theorem tick3 : A3.tick = ([], 0, A4) := rfl
theorem tick4 : A4.tick = ([], 0, A5) := rfl
theorem tick5 : A5.tick = ([1], 0, A6) := rfl
theorem ack6 : A6.ack 2 7 8 3 3 ⟨#[]⟩ = (0, A7) := by
  have : withB A6.B (toldB 3 ⟨#[]⟩) A6.B.length = [true, true, true] := by decide +kernel
  unfold Sn.ack
  rw [this, if_neg (by decide), if_neg (by decide), if_neg (by decide), if_neg (by decide)]
  rfl
theorem tick7 : A7.tick = ([], 15, A7) := rfl
set_option maxHeartbeats 16000000 in
set_option maxRecDepth 100000 in
theorem awake_calls (w : World) : Calls Try.prog 9 #[] w fun e w' => e = .returned (.bool true) ∧ Below w.heap.size w w' := by
  have hb0 := (Below.refl w.heap.size w).alloc (Nat.le_refl _) (.cells #[.string ⟨#[97]⟩, .string ⟨#[98]⟩, .string ⟨#[99]⟩] 9)
  have hstr : Strs C3 (some ⟨w.heap.size, 0, none⟩) (w.alloc (.cells #[.string ⟨#[97]⟩, .string ⟨#[98]⟩, .string ⟨#[99]⟩] 9)) := fun j c hj => ⟨_, rfl, rfl, by
    show (w.alloc _).cell? ⟨w.heap.size, 0 + j, none⟩ = _
    rw [Nat.zero_add, World.cell?_alloc_new]
    match j, hj with
    | 0, hj => simpa [C3] using hj
    | 1, hj => simpa [C3] using hj
    | 2, hj => simpa [C3] using hj⟩
  have hnew := SNew_good _ 7 8 C3 (some ⟨w.heap.size, 0, none⟩) 3 hstr (by decide) (by decide) (by decide) (by decide) (by decide) (by decide) (fun j c hj => by
    match j, hj with
    | 0, hj => obtain rfl : (⟨#[97]⟩ : ByteArray) = c := by simpa [C3] using hj
               decide
    | 1, hj => obtain rfl : (⟨#[98]⟩ : ByteArray) = c := by simpa [C3] using hj
               decide
    | 2, hj => obtain rfl : (⟨#[99]⟩ : ByteArray) = c := by simpa [C3] using hj
               decide)
  rw [show C3.length = 3 from rfl, show Sn.start 7 8 C3 = A0 from rfl] at hnew
  have hbad := fun w => SNew_bad w 7 8 [] none 0 (fun j c hj => by simp at hj) (by decide) (fun j c hj => by simp at hj) (by rfl)
  have HB0 := Lib.hid hb0; have HNEW := Lib.hid hnew; have HBAD := Lib.hid hbad
  clear hb0 hstr hnew hbad
  go_enter Try.func9, Try.ntmps9
  go_wp2_with fail
  refine HNEW.out.mono ?_
  rintro e w1 ⟨a, rfl, hs, hb, hk⟩
  have hC1 := bn HB0.out hb
  have HK : Hid (∀ k ∈ a.all, w.heap.size ≤ k) := Lib.hid fun k hk2 => Nat.le_trans HB0.out.size (hk k hk2)
  have HS1 := Lib.hid hs
  clear hs hb hk HNEW HB0
  go_wp2_with fail
  refine (HBAD.out _).mono ?_
  rintro e w2 ⟨rfl, hb⟩
  have hC2 := bn hC1 hb
  have HS2 := Lib.hid (HS1.out.below hb (Nat.le_refl _))
  clear hb HBAD
  go_wp2_with fail
  have ht1 := Tick_calls _ A0 a HS2.out (by decide)
  rw [tick0] at ht1
  refine ht1.mono ?_
  rintro e w3 ⟨v1, rfl, hs, hv1, hc⟩
  clear ht1
  have HS3 := Lib.hid hs
  have hC3 := hC2.trans (hc.below HK.out (hC2.size))
  have HV1 := Lib.hid hv1
  clear hs hc hv1
  go_wp2_with fail
  have ht2 := Tick_calls _ A1 a HS3.out (by decide)
  rw [tick1] at ht2
  refine ht2.mono ?_
  rintro e w4 ⟨v2, rfl, hs, hv2, hc⟩
  clear ht2
  have HS4 := Lib.hid hs
  have hC4 := hC3.trans (hc.below HK.out (hC3.size))
  have HV2 := Lib.hid hv2
  clear hs hc hv2
  go_wp2_with fail
  have ht3 := Ack_calls _ A2 a 2 7 8 1 3 ⟨#[1]⟩ HS4.out (by decide)
  rw [ack2] at ht3
  refine ht3.mono ?_
  rintro e w5 ⟨rfl, hs, hc⟩
  clear ht3
  have HS5 := Lib.hid hs
  have hC5 := hC4.trans (hc.below HK.out (hC4.size))
  clear hs hc
  go_wp2_with fail
  have ht4 := Ack_calls _ A3 a 2 6 8 1 3 ⟨#[]⟩ HS5.out (by decide)
  rw [ack3] at ht4
  refine ht4.mono ?_
  rintro e w6 ⟨rfl, hs, hc⟩
  clear ht4
  have HS6 := Lib.hid hs
  have hC6 := hC5.trans (hc.below HK.out (hC5.size))
  clear hs hc
  go_wp2_with fail
  have ht5 := Tick_calls _ A3 a HS6.out (by decide)
  rw [tick3] at ht5
  refine ht5.mono ?_
  rintro e w7 ⟨v5, rfl, hs, hv5, hc⟩
  clear ht5
  have HS7 := Lib.hid hs
  have hC7 := hC6.trans (hc.below HK.out (hC6.size))
  have HV5 := Lib.hid hv5
  clear hs hc hv5
  go_wp2_with fail
  have ht6 := Tick_calls _ A4 a HS7.out (by decide)
  rw [tick4] at ht6
  refine ht6.mono ?_
  rintro e w8 ⟨v6, rfl, hs, hv6, hc⟩
  clear ht6
  have HS8 := Lib.hid hs
  have hC8 := hC7.trans (hc.below HK.out (hC7.size))
  have HV6 := Lib.hid hv6
  clear hs hc hv6
  go_wp2_with fail
  have ht7 := Tick_calls _ A5 a HS8.out (by decide)
  rw [tick5] at ht7
  refine ht7.mono ?_
  rintro e w9 ⟨v7, rfl, hs, hv7, hc⟩
  clear ht7
  have HS9 := Lib.hid hs
  have hC9 := hC8.trans (hc.below HK.out (hC8.size))
  have HV7 := Lib.hid hv7
  clear hs hc hv7
  obtain ⟨ad, cap, rfl, hx⟩ := HV7.out
  obtain ⟨gl, rfl, hg1, hg2, hq⟩ := hx (by simp)
  have hgn : gl ∉ a.all := fun hk => by have := HS8.out.lt gl hk; omega
  have q3 : w9.cell? ⟨gl, 3, none⟩ = some (.int .i64 1) := by rw [show (⟨gl, 3, none⟩ : Addr) = ⟨gl, 0 * 6 + 3, none⟩ from rfl, hq 0 1 3 rfl (by decide)]; rfl
  have q5 : w9.cell? ⟨gl, 5, none⟩ = some (.string ⟨#[98]⟩) := by rw [show (⟨gl, 5, none⟩ : Addr) = ⟨gl, 0 * 6 + 5, none⟩ from rfl, hq 0 1 5 rfl (by decide)]; rfl
  clear hx hq
  go_wp2_with fail
  refine (There_calls _ A6 a HS9.out).mono ?_
  rintro e w10 ⟨rfl, hm, hb, hsz⟩
  have hC10 := bn hC9 hb
  have HS10 := Lib.hid (HS9.out.below hb (Nat.le_refl _))
  have q3 := (hb.cell (p := ⟨gl, 3, none⟩) hg2).trans q3
  have q5 := (hb.cell (p := ⟨gl, 5, none⟩) hg2).trans q5
  have hg2 := Nat.lt_of_lt_of_le hg2 hb.size
  clear hb hsz
  go_wp2_with fail
  refine (Has_calls _ _ _ 2 hm).mono ?_
  rintro e w11 ⟨rfl, rfl⟩
  rw [show hasB A6.B 2 = true from rfl]
  clear hm
  go_wp2_with fail
  have ht8 := Ack_calls _ A6 a 2 7 8 3 3 ⟨#[]⟩ HS10.out (by decide)
  rw [ack6] at ht8
  refine ht8.mono ?_
  rintro e w11 ⟨rfl, hs, hc⟩
  clear ht8
  have HS11 := Lib.hid hs
  have hC11 := hC10.trans (hc.below HK.out (hC10.size))
  have q3 := (World.cell?_of_block (hc.other gl hg2 hgn)).trans q3
  have q5 := (World.cell?_of_block (hc.other gl hg2 hgn)).trans q5
  have hg2 := Nat.lt_of_lt_of_le hg2 hc.size
  clear hs hc
  go_wp2_with fail
  have ht9 := Tick_calls _ A7 a HS11.out (by decide)
  rw [tick7] at ht9
  refine ht9.mono ?_
  rintro e w12 ⟨v9, rfl, hs, hv9, hc⟩
  clear ht9
  have HS12 := Lib.hid hs
  have hC12 := hC11.trans (hc.below HK.out (hC11.size))
  have HV9 := Lib.hid hv9
  have q3 := (World.cell?_of_block (hc.other gl hg2 hgn)).trans q3
  have q5 := (World.cell?_of_block (hc.other gl hg2 hgn)).trans q5
  have hg2 := Nat.lt_of_lt_of_le hg2 hc.size
  clear hs hc hv9
  obtain ⟨ad1, cap1, rfl, -⟩ := HV1.out
  obtain ⟨ad2, cap2, rfl, -⟩ := HV2.out
  clear HV1 HV2 HV5 HV6 HV7 HV9
  go_wp2_with fail
  refine (Done_calls _ A7 a HS12.out).mono ?_
  rintro e w13 ⟨rfl, hb⟩
  rw [show A7.full = true from rfl]
  have hC13 := bn hC12 hb
  have HS13 := Lib.hid (HS12.out.below hb (Nat.le_refl _))
  clear hb
  go_wp2_with fail
  refine (Tries_calls _ A7 a 1 HS13.out (by decide)).mono ?_
  rintro e w14 ⟨rfl, rfl⟩
  rw [show A7.T.getD 1 0 = 2 from rfl]
  go_wp2
  go_ret
  exact ⟨rfl, hC13⟩
end Go.Proofs.Ytcmgmdgeimmbeaa
