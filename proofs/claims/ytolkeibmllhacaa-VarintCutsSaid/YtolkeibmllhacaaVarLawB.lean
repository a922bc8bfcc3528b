/- The walk of the law VarintCuts: it answers true. -/
import Derived.Test.YtolkeibmllhacaaVarAwake
namespace Go.Proofs.Ytolkeibmllhacaa
open Go.RowKit
set_option linter.unusedVariables false
set_option linter.unusedSimpArgs false
theorem uintL_cut : ∀ (k n i acc p : Nat), n < 2 ^ k → k + 7 * i ≤ 64 → i ≤ 9 → (0 < i → 0 < n) → p < (numL n).length → uintL i acc ((numL n).take p) = (0, [], 3) := by
  intro k
  induction k using Nat.strongRecOn with
  | _ k ih =>
    intro n i acc p hn hk hi h0 hp
    cases p with
    | zero => rw [List.take_zero]; rfl
    | succ p =>
      by_cases hs : n < 128
      · rw [numL_small n hs] at hp; simp at hp
      · rw [numL_big n hs] at hp ⊢
        rw [List.take_succ_cons, uintL]
        have hc : (UInt8.ofNat (n % 128 + 128)).toNat = n % 128 + 128 := by rw [UInt8.toNat_ofNat']; omega
        have hk7 : 7 < k := by
          rcases Nat.lt_or_ge 7 k with h | h
          · exact h
          · have : 2 ^ k ≤ 2 ^ 7 := pow_le k 7 h
            omega
        have hn2 : n / 128 < 2 ^ (k - 7) := by
          have e : 2 ^ k = 2 ^ (k - 7) * 128 := by rw [show (128 : Nat) = 2 ^ 7 from rfl, ← Nat.pow_add]; congr 1; omega
          omega
        rw [hc, if_neg (by omega), if_neg (by omega)]
        exact ih (k - 7) (by omega) (n / 128) (i + 1) _ p hn2 (by omega) (by omega) (by omega) (by simpa using hp)
theorem uintR_cut (n p : Nat) (hn : n < 18446744073709551616) (hp : p < (numL n).length) : uintR ((numL n).take p) 0 = (0, [], 3) := by
  unfold uintR
  rw [if_neg (by decide)]
  exact uintL_cut 64 n 0 0 p hn (by omega) (by omega) (by omega) hp
theorem cuts (n p : Nat) (s : ByteArray) (hn : n < 18446744073709551616) (hs : s.size ≤ 500) (hp : p < (numL n ++ (numL s.size ++ s.data.toList)).length) :
    (textR (uintR ((numL n ++ (numL s.size ++ s.data.toList)).take p) 0).2.1 (uintR ((numL n ++ (numL s.size ++ s.data.toList)).take p) 0).2.2 1000).2.2 = 3 := by
  by_cases h1 : p < (numL n).length
  · rw [List.take_append_of_le_length (by omega), uintR_cut n p hn h1]
    decide
  · have e : (numL n ++ (numL s.size ++ s.data.toList)).take p = numL n ++ (numL s.size ++ s.data.toList).take (p - (numL n).length) := by
      rw [List.take_append, List.take_of_length_le (by omega)]
    rw [e, uintR_num n hn]
    rw [List.length_append] at hp
    have hq : p - (numL n).length < (numL s.size ++ s.data.toList).length := by omega
    generalize p - (numL n).length = q at *
    show (textR ((numL s.size ++ s.data.toList).take q) 0 1000).2.2 = 3
    unfold textR
    by_cases h2 : q < (numL s.size).length
    · rw [List.take_append_of_le_length (by omega), uintR_cut s.size q (by omega) h2, if_pos (by decide)]
    · have e2 : (numL s.size ++ s.data.toList).take q = numL s.size ++ s.data.toList.take (q - (numL s.size).length) := by
        rw [List.take_append, List.take_of_length_le (by omega)]
      rw [e2, uintR_num s.size (by omega), if_neg (by simp)]
      rw [List.length_append, show s.data.toList.length = s.size from rfl] at hq
      rw [if_neg (by simp; omega)]
      unfold rawR
      rw [if_neg (by decide), if_neg (by simp), if_pos (by
        simp only [List.length_take, show s.data.toList.length = s.size from rfl]; omega)]
theorem u64_wrap_nat (a : Int) : ∃ U : Nat, IntKind.u64.wrap a = U := by
  rw [IntKind.wrap_u64]; exact ⟨(a % 18446744073709551616).toNat, by omega⟩
theorem numL_pos (n : Nat) : 0 < (numL n).length := by
  by_cases h : n < 128
  · rw [numL_small n h]; simp
  · rw [numL_big n h]; simp
set_option maxRecDepth 100000 in
set_option maxHeartbeats 8000000 in
theorem VarintCuts_walk (a0 : Int) (a1 : ByteArray) (a2 : Int) (w0 : (Lit.int .u64 a0).wf = true) (w1 : a1.size ≤ 140737488351232) (w2 : (Lit.int .i64 a2).wf = true) (w : World) :
    Calls Try.prog 7 #[.int .u64 a0, .string a1, .int .i64 a2] w fun e w' => e = .returned (.bool true) ∧ Below w.heap.size w w' := by
  obtain ⟨b0, b1⟩ := bounds_u64 w0
  obtain ⟨n, rfl⟩ := Int.eq_ofNat_of_zero_le b0
  obtain ⟨c0, c1⟩ := bounds_i64 w2
  have hn : n < 18446744073709551616 := by omega
  by_cases hbig : 500 < a1.size
  · go_enter Try.func7, Try.ntmps7
    go_wp2_with fail
    refine (awake_calls _).mono ?_
    rintro e w1 ⟨rfl, hb1⟩
    go_wp2_with fail
    refine (awake_calls _).mono ?_
    rintro e w2 ⟨rfl, hb2⟩
    go_wp2
    go_ret
    exact ⟨rfl, bn hb1 hb2⟩
  · obtain ⟨U, hU⟩ := u64_wrap_nat a2
    have hcuts := fun p => cuts n p a1 hn (by omega)
    have h10 := numL_64 n hn
    have h11 := numL_64 a1.size (by omega)
    have hpos := numL_pos n
    have hlen : (numL n ++ (numL a1.size ++ a1.data.toList)).length = (numL n).length + (numL a1.size).length + a1.size := by
      rw [List.length_append, List.length_append, Nat.add_assoc]; rfl
    obtain ⟨L, hL⟩ : ∃ L, numL n ++ (numL a1.size ++ a1.data.toList) = L := ⟨_, rfl⟩
    rw [hL] at hcuts hlen
    obtain ⟨p, hp⟩ : ∃ p : Nat, ((U : Int) % (L.length : Int)) = (p : Int) := ⟨U % L.length, by simp⟩
    have hpl : p < L.length := by
      have : 0 < L.length := by omega
      have := Int.emod_lt_of_pos (U : Int) (show (0 : Int) < L.length by omega)
      omega
    have hLs : L.length ≤ 520 := by omega
    have hL0 : 0 < L.length := by omega
    have hne : ((L.length : Int) == 0) = false := by rw [beq_eq_false_iff_ne]; omega
    have hC := hcuts p hpl
    have HC := Lib.hid hC; clear hC hcuts hlen
    have HL := Lib.hid hL; clear hL
    have hsz := bstr_size L
    have htk := bstr_take L p
    have hple : (p : Int) ≤ (L.length : Int) := by omega
    go_enter Try.func7, Try.ntmps7
    go_wp2_with fail
    refine (awake_calls _).mono ?_
    rintro e w1 ⟨rfl, hb1⟩
    have hw2 := wr_new w1
    have hbw := (Below.refl w1.heap.size w1).alloc (Nat.le_refl _) (.cells #[.pointer none, .slice none 0 0] 29)
    go_wp2_with fail
    generalize w1.alloc (.cells #[.pointer none, .slice none 0 0] 29) = w2 at *
    refine (WUint_calls _ _ [] n _ hw2 hn (by simp)).mono ?_
    rintro e w3 ⟨rfl, hw3, hb3⟩
    rw [List.nil_append] at hw3
    go_wp2_with fail
    refine (WText_calls _ _ _ a1 _ hw3 (by omega)).mono ?_
    rintro e w4 ⟨rfl, hw4, hb4⟩
    rw [HL.out] at hw4
    obtain ⟨v, hv⟩ := hw4.tx
    go_wp2_with fail
    refine (WString_calls _ _ v _ _ hv).mono ?_
    rintro e w5 ⟨rfl, -, hb5, -, -⟩
    have hc5 := bn hb1 (((hbw.trans hb3).trans hb4).trans hb5)
    clear hw2 hw3 hw4 hv hb1 hbw hb3 hb4 hb5
    rw [show (⟨L.toArray⟩ : ByteArray) = bstr L from rfl]
    generalize bstr L = bl at *
    go_wp2_with fail
    refine (New_calls _ _).mono ?_
    rintro e w6 ⟨rfl, hr6, hb6, -⟩
    rw [show (bstr (L.take p)).data.toList = L.take p from by simp [bstr]] at hr6
    have hg := hc5.size
    have hc6 := bn hc5 hb6
    clear hc5 hb6 htk
    generalize w5.heap.size = g at *
    generalize L.take p = cutL at *
    have hlt := (uintR_lt cutL 0 (by omega)).1
    go_wp2_with fail
    refine (Uint_calls _ g 0 cutL hr6 (by omega)).mono ?_
    rintro e w7 ⟨rfl, hr7, hu7⟩
    have hc7 := hc6.trans (hu7.below hg)
    clear hr6 hu7 hc6
    generalize uintR cutL 0 = F at *
    go_wp2_with fail
    refine (Text_calls _ g _ _ 1000 hr7 hlt (by omega)).mono ?_
    rintro e w8 ⟨rfl, hr8, hu8⟩
    have hc8 := hc7.trans (hu8.below hg)
    clear hr7 hu8 hc7
    rw [HC.out] at hr8
    generalize textR F.2.1 F.2.2 1000 = T at *
    go_wp2_with fail
    refine (Err_calls _ g _ _ hr8).mono ?_
    rintro e w' ⟨rfl, rfl⟩
    go_wp2_with fail
    refine (Done_calls _ g _ _ hr8).mono ?_
    rintro e w' ⟨rfl, rfl⟩
    rw [show doneR T.2.1 3 = 3 from by unfold doneR; rw [if_pos (by decide)]]
    go_wp2
    go_ret
    exact ⟨rfl, hc8⟩
end Go.Proofs.Ytolkeibmllhacaa
