/- The walk of the reference's Text. -/
import Derived.Test.YtmccnmccegbdjaaDoorPfxRTxt
namespace Go.Proofs.YtmccnmccegbdjaaDoor
open Go.RowKit Go.Sort
set_option linter.unusedVariables false
set_option linter.unusedSimpArgs false
theorem r4_step0 (A : List Nat) : bstr (r4 A 1) = bstr [] ++ decB (A.getD 0 0) := by
  show bstr _ = bstr _ ++ bstr _
  rw [bstr_cat]; rfl
theorem r4_step (A : List Nat) (i : Nat) (h : 0 < i) : bstr (r4 A (i + 1)) = bstr (r4 A i) ++ ⟨#[46]⟩ ++ decB (A.getD i 0) := by
  show bstr _ = bstr _ ++ bstr [46] ++ bstr _
  rw [bstr_cat, bstr_cat, r4, if_neg (by omega)]
theorem r4_size (A : List Nat) (hs : ∀ i, A.getD i 0 < 256) : ∀ i, (bstr (r4 A i)).size ≤ 300 * i
  | 0 => by rw [bstr_size]; exact Nat.zero_le _
  | i + 1 => by
    have h1 := r4_size A hs i
    have h2 := decB_size (A.getD i 0)
    have h3 := hs i
    rw [bstr_size] at h1 ⊢
    have h4 : (Go.Lib.decDigits (A.getD i 0)).length ≤ 257 := by
      have : (decB (A.getD i 0)).size = (Go.Lib.decDigits (A.getD i 0)).length := bstr_size _
      omega
    rw [r4, List.length_append]
    split
    · rw [List.length_nil]; omega
    · rw [List.length_append, List.length_cons, List.length_nil]; omega
set_option maxRecDepth 100000 in
set_option maxHeartbeats 16000000 in
theorem RText_four (w : World) (p : Px) (hp : p.wf) (hr : p.right = true) (h6 : p.six = false) : Calls Tryd.prog 19 #[.agg p.row] w fun e w' => e = .returned (.string p.text) ∧ Below w.heap.size w w' := by
  have hb0 := (Below.refl w.heap.size w).alloc (Nat.le_refl _) (.cells p.row 30)
  have h0 := PxAt.new w p hp.len
  have HB0 := Lib.hid hb0; have H0 := Lib.hid h0; clear hb0 h0
  obtain ⟨n, hn, hn2⟩ := Px.right_n hr
  rw [h6] at hn2
  have hn128 : n ≤ 32 := hn2
  obtain ⟨rr, hrr⟩ : ∃ rr, rr = p.text := ⟨_, rfl⟩
  rw [← hrr]
  have ht := hrr.trans (text_bstr hr)
  rw [h6, if_neg (by decide), ← r4_four, hn] at ht
  have HRR := Lib.hid ht; clear hrr hr ht hn2
  have HN := Lib.hid hn; have H6 := Lib.hid h6; clear hn h6
  go_enter Tryd.func19, Tryd.ntmps19
  go_wp2_with (with_reducible refine wpList_mark (o := ⟨some 10, _, _, _, _, _⟩) ?_)
  generalize w.alloc (.cells p.row 30) = w1 at *
  have c6 := H0.out.six
  rw [H6.out] at c6
  refine Marked.intro ?_
  go_wp2_with fail
  clear c6
  go_loopw [3, 4] (fun s3 s4 wr => ∃ (i : Nat) (S : ByteArray), s3 = .string S ∧ s4 = .int .i64 i ∧ i ≤ 4 ∧ Hid (S = bstr (r4 p.A i)) ∧ Hid (Below w1.heap.size w1 wr)) (fun _ s4 _ => 4 - (intOf s4).toNat)
  case atStart => exact ⟨0, _, rfl, rfl, by omega, Lib.hid rfl, Lib.hid (Below.refl _ _)⟩
  case round =>
    obtain ⟨wo, rfl⟩ : ∃ wo : World, wo = wr := ⟨_, rfl⟩
    obtain ⟨i, S, rfl, rfl, hi, HS, HB⟩ := hrel
    have P1 := Lib.hid (H0.out.b HB.out)
    have hsz := r4_size p.A hp.small i
    rw [← HS.out] at hsz
    by_cases hlt : i < 4
    · have hiI : (i : Int) < 4 := by omega
      have hi16 : (i : Int) < 16 := by omega
      have hc := P1.out.byte i (by omega)
      have hx := hp.small i
      have HD := Lib.hid (fun w => digits_calls (p.A.getD i 0) (by omega) w)
      have hdz := decB_size (p.A.getD i 0)
      by_cases h0 : i = 0
      · subst h0
        have HST : Hid (bstr (r4 p.A (0 + 1)) = S ++ decB (p.A.getD 0 0)) := Lib.hid (by rw [HS.out]; exact r4_step0 p.A)
        have hz : ¬ 9223372036854775807 < S.size + (decB (p.A.getD 0 0)).size := by omega
        have hgt : ¬ (0 : Int) < ((0 : Nat) : Int) := by omega
        generalize p.A.getD 0 0 = x at *
        generalize decB x = D at *
        go_wp2_with fail
        refine (HD.out _).mono ?_
        rintro e w3 ⟨rfl, hb3⟩
        have HB3 := Lib.hid (bn HB.out hb3)
        clear HB hb3 P1 HD
        go_wp2
        exact ⟨⟨1, _, rfl, rfl, by omega, Lib.hid HST.out.symm, HB3⟩, by simp only [intOf]; omega⟩
      · have HST : Hid (bstr (r4 p.A (i + 1)) = S ++ ⟨#[46]⟩ ++ decB (p.A.getD i 0)) := Lib.hid (by rw [HS.out]; exact r4_step p.A i (by omega))
        have hz1 : ¬ 9223372036854775807 < S.size + 1 := by omega
        have hz : ¬ 9223372036854775807 < S.size + 1 + (decB (p.A.getD i 0)).size := by omega
        have hgt : (0 : Int) < (i : Int) := by omega
        generalize p.A.getD i 0 = x at *
        generalize decB x = D at *
        go_wp2_with fail
        refine (HD.out _).mono ?_
        rintro e w3 ⟨rfl, hb3⟩
        have HB3 := Lib.hid (bn HB.out hb3)
        clear HB hb3 P1 HD
        go_wp2
        exact ⟨⟨i + 1, _, rfl, by go_num, by omega, Lib.hid HST.out.symm, HB3⟩, by simp only [intOf]; omega⟩
    · obtain rfl : i = 4 := by omega
      have cn := P1.out.len
      rw [HN.out] at cn
      have HD := Lib.hid (fun w => digits_calls n (by omega) w)
      have hdz := decB_size n
      have hz1 : ¬ 9223372036854775807 < S.size + 1 := by omega
      have hz : ¬ 9223372036854775807 < S.size + 1 + (decB n).size := by omega
      have HR : Hid (rr = S ++ ⟨#[47]⟩ ++ decB n) := Lib.hid (by
        rw [HRR.out, HS.out, Int.toNat_natCast]
        show bstr _ = bstr _ ++ bstr [47] ++ bstr _
        rw [bstr_cat, bstr_cat, List.append_assoc])
      generalize decB n = D at *
      go_wp2_with fail
      refine (HD.out _).mono ?_
      rintro e w3 ⟨rfl, hb3⟩
      have HB3 := Lib.hid (bn HB0.out (bn HB.out hb3))
      clear HB hb3 P1 HD HB0
      go_wp2
      go_ret
      exact ⟨by rw [HR.out]; rfl, HB3.out⟩
end Go.Proofs.YtmccnmccegbdjaaDoor
