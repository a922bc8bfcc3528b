/- The walk of signpostlaw14.awake: it answers true. -/
import Derived.Test.YtpgcdfdfbcmodaaRecRes
namespace Go.Proofs.Ytpgcdfdfbcmodaa
open Go.RowKit Go.Maps
set_option linter.unusedVariables false
set_option linter.unusedSimpArgs false
def K0 : Rv := Rv.start 7 8 3
def K1 : Rv := ⟨7, 8, [false, false, true], [⟨#[]⟩, ⟨#[]⟩, ⟨#[99]⟩], fun _ => 0, 0⟩
def K2 : Rv := ⟨7, 8, [true, false, true], [⟨#[97]⟩, ⟨#[]⟩, ⟨#[99]⟩], fun _ => 0, 0⟩
def K3 : Rv := K2.drop 9
def K4 : Rv := K3.put 1 ⟨#[98]⟩
def Z1 : Rv := K2.put 1 ⟨#[66]⟩
theorem k_take1 : K0.take ⟨1, 7, 8, 2, 3, ⟨#[99]⟩⟩ = (0, K1) := rfl
theorem k_take2 : K1.take ⟨1, 7, 8, 0, 3, ⟨#[97]⟩⟩ = (0, K2) := rfl
theorem k_take3 : K2.take ⟨1, 7, 8, 0, 3, ⟨#[120]⟩⟩ = (9, K3) := rfl
theorem k_take4 : K3.take ⟨1, 7, 8, 1, 3, ⟨#[98]⟩⟩ = (0, K4) := rfl
theorem z_take : K2.take ⟨1, 7, 8, 1, 3, ⟨#[66]⟩⟩ = (0, Z1) := rfl
theorem k_cur : K3.curL = [7, 8, 3, 0, 1, 97, 2, 1, 99, 3] := by
  have h7 : numL 7 = [7] := by rw [numL_small _ (by omega)]; decide
  have h8 : numL 8 = [8] := by rw [numL_small _ (by omega)]; decide
  have h3 : numL 3 = [3] := by rw [numL_small _ (by omega)]; decide
  have h0 : numL 0 = [0] := by rw [numL_small _ (by omega)]; decide
  have h1 : numL 1 = [1] := by rw [numL_small _ (by omega)]; decide
  have h2 : numL 2 = [2] := by rw [numL_small _ (by omega)]; decide
  show numL 7 ++ (numL 8 ++ (numL 3 ++ (((numL 0 ++ (numL 1 ++ [97])) ++ ([] ++ ((numL 2 ++ (numL 1 ++ [99])) ++ []))) ++ numL 3))) = _
  rw [h7, h8, h3, h0, h1, h2]
  rfl
theorem k_res : resR [7, 8, 3, 0, 1, 97, 2, 1, 99, 3] = (some K2, 0) := by kernel_rfl
theorem k_res1 : resR [1] = (none, 3) := by kernel_rfl
theorem k_tell : tellB K3.B 16 = ⟨#[1, 0]⟩ := by decide +kernel
theorem k_base : baseB K3.B = 1 := by decide +kernel
theorem k_base4 : baseB K4.B = 3 := by decide +kernel
theorem z_base : baseB Z1.B = 3 := by decide +kernel
theorem k_flat : bstr (flatC K4.C) = ⟨#[97, 98, 99]⟩ := by rfl
theorem z_flat : bstr (flatC Z1.C) = ⟨#[97, 66, 99]⟩ := by rfl
theorem Ra.old {a z : Ra} {N : Nat} (h1 : ∀ k ∈ a.all, k < N) (h2 : ∀ k ∈ z.all, N ≤ k) : ∀ k ∈ z.all, k ∉ a.all := fun k hk hk2 => by have := h1 k hk2; have := h2 k hk; omega
theorem RvAt.chg {R : Rv} {z : Ra} {K : List Nat} {w w' : World} (h : RvAt R z w) (hc : Chg K w w') (hn : ∀ k ∈ z.all, k ∉ K) : RvAt R z w' := h.keep fun k hk => hc.other k (h.lt k hk) (hn k hk)
set_option maxHeartbeats 16000000 in
set_option maxRecDepth 100000 in
theorem awake_calls (w : World) : Calls Try.prog 10 #[] w fun e w' => e = .returned (.bool true) ∧ Below w.heap.size w w' := by
  have hnew := RNew_good w 7 8 3 (by decide) (by decide) (by decide) (by decide) (by decide) (by decide)
  rw [show Rv.start 7 8 3 = K0 from rfl] at hnew
  have hbad := fun w => RNew_bad w 7 8 0 (by decide)
  have ht1 := fun w a (h : RvAt K0 a w) => Take_calls w K0 a ⟨1, 7, 8, 2, 3, ⟨#[99]⟩⟩ h (by decide) (fun _ => by show 0 < 1000000; omega)
  have ht2 := fun w a (h : RvAt K1 a w) => Take_calls w K1 a ⟨1, 7, 8, 0, 3, ⟨#[97]⟩⟩ h (by decide) (fun _ => by show 0 < 1000000; omega)
  have ht3 := fun w a (h : RvAt K2 a w) => Take_calls w K2 a ⟨1, 7, 8, 0, 3, ⟨#[120]⟩⟩ h (by decide) (fun _ => by show 0 < 1000000; omega)
  have ht4 := fun w a (h : RvAt K3 a w) => Take_calls w K3 a ⟨1, 7, 8, 1, 3, ⟨#[98]⟩⟩ h (by decide) (fun x => by show (if x = 9 then 0 + 1 else 0) < 1000000; split <;> omega)
  have hz := fun w a (h : RvAt K2 a w) => Take_calls w K2 a ⟨1, 7, 8, 1, 3, ⟨#[66]⟩⟩ h (by decide) (fun _ => by show 0 < 1000000; omega)
  rw [k_take1] at ht1
  rw [k_take2] at ht2
  rw [k_take3] at ht3
  rw [k_take4] at ht4
  rw [z_take] at hz
  have hack := fun w a (h : RvAt K3 a w) => RAck_calls w K3 a h
  rw [k_tell, k_base, show K3.ses = 7 from rfl, show K3.ep = 8 from rfl, show K3.B.length = 3 from rfl] at hack
  have hcur := fun w a (h : RvAt K3 a w) => RCur_calls w K3 a h
  rw [k_cur] at hcur
  have hres := fun w => Resume_calls w (bstr [7, 8, 3, 0, 1, 97, 2, 1, 99, 3])
  rw [show (bstr [7, 8, 3, 0, 1, 97, 2, 1, 99, 3]).data.toList = [7, 8, 3, 0, 1, 97, 2, 1, 99, 3] from rfl, k_res] at hres
  have hres1 := fun w => Resume_calls w ⟨#[1]⟩
  rw [show (ByteArray.mk #[1]).data.toList = [1] from rfl, k_res1] at hres1
  have hd3 := fun w a (h : RvAt K3 a w) => Data_open w K3 a h (by rw [k_base]; decide)
  have hd4 := fun w a (h : RvAt K4 a w) => Data_full w K4 a h (by rw [k_base4]; decide)
  have hdz := fun w a (h : RvAt Z1 a w) => Data_full w Z1 a h (by rw [z_base]; decide)
  rw [k_flat] at hd4
  rw [z_flat] at hdz
  have hdone := fun w a (h : RvAt K4 a w) => RDone_calls w K4 a h
  rw [show decide (baseB K4.B = K4.B.length) = true from decide_eq_true (by rw [k_base4]; decide)] at hdone
  have hdr4 := fun w a (h : RvAt K4 a w) => RDrops_calls w K4 a 9 h (by decide)
  have hdrz := fun w a (h : RvAt Z1 a w) => RDrops_calls w Z1 a 9 h (by decide)
  rw [show K4.D ((9 : Nat) : Int) = 1 from rfl] at hdr4
  rw [show Z1.D ((9 : Nat) : Int) = 0 from rfl] at hdrz
  have HNEW := Lib.hid hnew; have HBAD := Lib.hid hbad; have HT1 := Lib.hid ht1; have HT2 := Lib.hid ht2; have HT3 := Lib.hid ht3; have HT4 := Lib.hid ht4; have HZ := Lib.hid hz
  have HACK := Lib.hid hack; have HCUR := Lib.hid hcur; have HRES := Lib.hid hres; have HRES1 := Lib.hid hres1; have HD3 := Lib.hid hd3; have HD4 := Lib.hid hd4; have HDZ := Lib.hid hdz
  have HDONE := Lib.hid hdone; have HDR4 := Lib.hid hdr4; have HDRZ := Lib.hid hdrz
  clear hnew hbad ht1 ht2 ht3 ht4 hz hack hcur hres hres1 hd3 hd4 hdz hdone hdr4 hdrz
  go_enter Try.func10, Try.ntmps10
  go_wp2_with fail
  refine HNEW.out.mono ?_
  rintro e w1 ⟨a, rfl, hv, hb, hk⟩
  have HV := Lib.hid hv; have HB := Lib.hid hb; have HK := Lib.hid hk; clear hv hb hk
  have HA := Lib.hid HV.out.lt
  go_wp2_with fail
  refine (HBAD.out _).mono ?_
  rintro e w2 ⟨rfl, hb⟩
  have hv := HV.out.below hb (Nat.le_refl _)
  have hbb := bn HB.out hb
  clear HV HB hb
  have HV := Lib.hid hv; have HB := Lib.hid hbb; clear hv hbb
  go_wp2_with fail
  refine (data_calls _ _ _).mono ?_
  rintro e w3 ⟨rfl, hb⟩
  have hv := HV.out.below hb (Nat.le_refl _)
  have hbb := bn HB.out hb
  clear HV HB hb
  have HV := Lib.hid hv; have HB := Lib.hid hbb; clear hv hbb
  go_wp2_with fail
  refine (HT1.out _ a HV.out).mono ?_
  rintro e w4 ⟨rfl, hv, hc⟩
  have hbb := HB.out.trans (hc.below HK.out HB.out.size)
  clear HV HB hc
  have HV := Lib.hid hv; have HB := Lib.hid hbb; clear hv hbb
  go_wp2_with fail
  refine (data_calls _ _ _).mono ?_
  rintro e w5 ⟨rfl, hb⟩
  have hv := HV.out.below hb (Nat.le_refl _)
  have hbb := bn HB.out hb
  clear HV HB hb
  have HV := Lib.hid hv; have HB := Lib.hid hbb; clear hv hbb
  go_wp2_with fail
  refine (HT2.out _ a HV.out).mono ?_
  rintro e w6 ⟨rfl, hv, hc⟩
  have hbb := HB.out.trans (hc.below HK.out HB.out.size)
  clear HV HB hc
  have HV := Lib.hid hv; have HB := Lib.hid hbb; clear hv hbb
  go_wp2_with fail
  refine (data_calls _ _ _).mono ?_
  rintro e w7 ⟨rfl, hb⟩
  have hv := HV.out.below hb (Nat.le_refl _)
  have hbb := bn HB.out hb
  clear HV HB hb
  have HV := Lib.hid hv; have HB := Lib.hid hbb; clear hv hbb
  go_wp2_with fail
  refine (HT3.out _ a HV.out).mono ?_
  rintro e w8 ⟨rfl, hv, hc⟩
  have hbb := HB.out.trans (hc.below HK.out HB.out.size)
  clear HV HB hc
  have HV := Lib.hid hv; have HB := Lib.hid hbb; clear hv hbb
  go_wp2_with fail
  refine (HACK.out _ a HV.out).mono ?_
  rintro e w9 ⟨rfl, hb⟩
  have hv := HV.out.below hb (Nat.le_refl _)
  have hbb := bn HB.out hb
  clear HV HB hb
  have hga : w9.heap.size ∉ a.all := fun h => by have := hv.lt _ h; omega
  have h10 := (Below.refl w9.heap.size w9).alloc (Nat.le_refl _) (.cells #[.int .i64 2, .int .i64 7, .int .i64 8, .int .i64 1, .int .i64 3, .string ⟨#[1, 0]⟩] 32)
  have hg := heap_alloc_new w9 (.cells #[.int .i64 2, .int .i64 7, .int .i64 8, .int .i64 1, .int .i64 3, .string ⟨#[1, 0]⟩] 32)
  have hv10 := hv.below h10 (Nat.le_refl _)
  have hb10 := bn hbb h10
  have HV := Lib.hid hv10; have HB := Lib.hid hb10; have HG := Lib.hid hg; have HGA := Lib.hid hga; clear hv hbb h10 hv10 hb10 hg hga
  go_wp2_with fail
  refine (HCUR.out _ a HV.out).mono ?_
  generalize w9.alloc (.cells #[.int .i64 2, .int .i64 7, .int .i64 8, .int .i64 1, .int .i64 3, .string ⟨#[1, 0]⟩] 32) = w10 at *
  rintro e w11 ⟨rfl, hb⟩
  have hv := HV.out.below hb (Nat.le_refl _)
  have hg := (hb.block _ (Array.getElem?_eq_some_iff.1 HG.out).1).trans HG.out
  have hbb := bn HB.out hb
  clear HV HB HG hb
  have HV := Lib.hid hv; have HB := Lib.hid hbb; have HG := Lib.hid hg; clear hv hbb hg
  generalize w9.heap.size = gk at *
  go_wp2_with fail
  refine (HRES.out _).mono ?_
  rintro e w12 ⟨(⟨h0, -⟩ | ⟨R, z, hR, -, rfl, hvz, hkz⟩), hb⟩
  · exact absurd h0 (by simp)
  obtain rfl : K2 = R := by simpa using hR
  have hal := HV.out.lt
  have hgl := (Array.getElem?_eq_some_iff.1 HG.out).1
  have haz : ∀ k ∈ z.all, k ∉ a.all := Ra.old hal hkz
  have hza : ∀ k ∈ a.all, k ∉ z.all := fun k h1 h2 => haz k h2 h1
  have hgz : gk ∉ z.all := fun h => by have := hkz _ h; omega
  have hkz2 : ∀ k ∈ z.all, w.heap.size ≤ k := fun k h => by have := hkz k h; have := HB.out.size; omega
  have hv := HV.out.below hb (Nat.le_refl _)
  have hg := (hb.block _ hgl).trans HG.out
  have hbb := bn HB.out hb
  have HAZ := Lib.hid haz; have HZA := Lib.hid hza; have HGZ := Lib.hid hgz; have HKZ := Lib.hid hkz2
  clear HV HB HG hb hal hgl haz hza hgz hkz hkz2 hR HA
  have HV := Lib.hid hv; have HVZ := Lib.hid hvz; have HB := Lib.hid hbb; have HG := Lib.hid hg; clear hv hvz hbb hg
  go_wp2_with fail
  refine (HD3.out _ a HV.out).mono ?_
  rintro e w13 ⟨rfl, hb⟩
  have hv := HV.out.below hb (Nat.le_refl _)
  have hvz := HVZ.out.below hb (Nat.le_refl _)
  have hg := (hb.block _ (Array.getElem?_eq_some_iff.1 HG.out).1).trans HG.out
  have hbb := bn HB.out hb
  clear HV HVZ HB HG hb
  have HV := Lib.hid hv; have HVZ := Lib.hid hvz; have HB := Lib.hid hbb; have HG := Lib.hid hg; clear hv hvz hbb hg
  go_wp2_with fail
  refine (data_calls _ _ _).mono ?_
  rintro e w14 ⟨rfl, hb⟩
  have hv := HV.out.below hb (Nat.le_refl _)
  have hvz := HVZ.out.below hb (Nat.le_refl _)
  have hg := (hb.block _ (Array.getElem?_eq_some_iff.1 HG.out).1).trans HG.out
  have hbb := bn HB.out hb
  clear HV HVZ HB HG hb
  have HV := Lib.hid hv; have HVZ := Lib.hid hvz; have HB := Lib.hid hbb; have HG := Lib.hid hg; clear hv hvz hbb hg
  go_wp2_with fail
  refine (HT4.out _ a HV.out).mono ?_
  rintro e w15 ⟨rfl, hv, hc⟩
  have hvz := HVZ.out.chg hc HAZ.out
  have hg := (hc.other _ (Array.getElem?_eq_some_iff.1 HG.out).1 HGA.out).trans HG.out
  have hbb := HB.out.trans (hc.below HK.out HB.out.size)
  clear HV HVZ HB HG hc
  have HV := Lib.hid hv; have HVZ := Lib.hid hvz; have HB := Lib.hid hbb; have HG := Lib.hid hg; clear hv hvz hbb hg
  go_wp2_with fail
  refine (HD4.out _ a HV.out).mono ?_
  rintro e w16 ⟨rfl, hb⟩
  have hv := HV.out.below hb (Nat.le_refl _)
  have hvz := HVZ.out.below hb (Nat.le_refl _)
  have hg := (hb.block _ (Array.getElem?_eq_some_iff.1 HG.out).1).trans HG.out
  have hbb := bn HB.out hb
  clear HV HVZ HB HG hb
  have HV := Lib.hid hv; have HVZ := Lib.hid hvz; have HB := Lib.hid hbb; have HG := Lib.hid hg; clear hv hvz hbb hg
  go_wp2_with fail
  refine (data_calls _ _ _).mono ?_
  rintro e w17 ⟨rfl, hb⟩
  have hv := HV.out.below hb (Nat.le_refl _)
  have hvz := HVZ.out.below hb (Nat.le_refl _)
  have hg := (hb.block _ (Array.getElem?_eq_some_iff.1 HG.out).1).trans HG.out
  have hbb := bn HB.out hb
  clear HV HVZ HB HG hb
  have HV := Lib.hid hv; have HVZ := Lib.hid hvz; have HB := Lib.hid hbb; have HG := Lib.hid hg; clear hv hvz hbb hg
  go_wp2_with fail
  refine (HZ.out _ z HVZ.out).mono ?_
  rintro e w18 ⟨rfl, hvz, hc⟩
  have hv := HV.out.chg hc HZA.out
  have hg := (hc.other _ (Array.getElem?_eq_some_iff.1 HG.out).1 HGZ.out).trans HG.out
  have hbb := HB.out.trans (hc.below HKZ.out HB.out.size)
  clear HV HVZ HB HG hc
  have HV := Lib.hid hv; have HVZ := Lib.hid hvz; have HB := Lib.hid hbb; have HG := Lib.hid hg; clear hv hvz hbb hg
  go_wp2_with fail
  refine (HDZ.out _ z HVZ.out).mono ?_
  rintro e w19 ⟨rfl, hb⟩
  have hv := HV.out.below hb (Nat.le_refl _)
  have hvz := HVZ.out.below hb (Nat.le_refl _)
  have hg := (hb.block _ (Array.getElem?_eq_some_iff.1 HG.out).1).trans HG.out
  have hbb := bn HB.out hb
  clear HV HVZ HB HG hb
  have HV := Lib.hid hv; have HVZ := Lib.hid hvz; have HB := Lib.hid hbb; have HG := Lib.hid hg; clear hv hvz hbb hg
  go_wp2_with fail
  refine (HRES1.out _).mono ?_
  rintro e w20 ⟨(⟨-, rfl⟩ | ⟨R, z, hR, -⟩), hb⟩
  rotate_left
  · exact absurd hR (by simp)
  have hv := HV.out.below hb (Nat.le_refl _)
  have hvz := HVZ.out.below hb (Nat.le_refl _)
  have hg := (hb.block _ (Array.getElem?_eq_some_iff.1 HG.out).1).trans HG.out
  have hbb := bn HB.out hb
  clear HV HVZ HB HG hb
  have HV := Lib.hid hv; have HVZ := Lib.hid hvz; have HB := Lib.hid hbb; have HG := Lib.hid hg; clear hv hvz hbb hg
  have q3 := cell_of_row _ _ 3 _ _ _ HG.out
  have q4 := cell_of_row _ _ 4 _ _ _ HG.out
  have q5 := cell_of_row _ _ 5 _ _ _ HG.out
  simp only [List.getElem?_toArray, List.getElem?_cons_succ, List.getElem?_cons_zero] at q3 q4 q5
  go_wp2_with fail
  refine (HDONE.out _ a HV.out).mono ?_
  rintro e w21 ⟨rfl, hb⟩
  have hv := HV.out.below hb (Nat.le_refl _)
  have hvz := HVZ.out.below hb (Nat.le_refl _)
  have hbb := bn HB.out hb
  clear HV HVZ HB HG hb q3 q4 q5
  have HV := Lib.hid hv; have HVZ := Lib.hid hvz; have HB := Lib.hid hbb; clear hv hvz hbb
  go_wp2_with fail
  refine (HDR4.out _ a HV.out).mono ?_
  rintro e w22 ⟨rfl, rfl⟩
  go_wp2_with fail
  refine (HDRZ.out _ z HVZ.out).mono ?_
  rintro e w22 ⟨rfl, rfl⟩
  go_wp2
  go_ret
  exact ⟨rfl, HB.out⟩
end Go.Proofs.Ytpgcdfdfbcmodaa
