/- The walk of the law VarintOne: it answers true. -/
import Derived.Test.YtolkeibmllhacaaVarTwo
import Derived.Lib.QuietBelow
namespace Go.Proofs.Ytolkeibmllhacaa
open Go.RowKit
set_option linter.unusedVariables false
set_option linter.unusedSimpArgs false
theorem TxAt.carry {B b : Nat} {v : Value} {l : List UInt8} {w w' : World} (h : TxAt B b v l w) (hb : w'.heap[b]? = w.heap[b]?) (ho : ∀ k, v.ownBlock = some k → w'.heap[k]? = w.heap[k]?) (hs : w.heap.size ≤ w'.heap.size) : TxAt B b v l w' := by
  obtain ⟨hB, ⟨p, fr2, hbk⟩, hbuf, hne, hBw⟩ := h
  refine ⟨hB, ⟨p, fr2, hb.trans hbk⟩, ?_, hne, Nat.le_trans hBw hs⟩
  rcases hbuf with ⟨rfl, rfl⟩ | ⟨g, cap, cur, fr, rfl, hbg, hg, hnc⟩
  · exact Or.inl ⟨rfl, rfl⟩
  · exact Or.inr ⟨g, cap, cur, fr, rfl, hbg, (ho g rfl).trans hg, hnc⟩
/-- Read from now on: where its bytes lie. -/
theorem Wr2.tx {R b B : Nat} {l : List UInt8} {w : World} (h : Wr2 R b l w) (hR : B ≤ R) (hb : B ≤ b) : ∃ v, TxAt B b v l w ∧ ∀ k, v.ownBlock = some k → R ≤ k ∧ k < w.heap.size := by
  obtain ⟨p, v, hp, hbk, hown, hne, hsz⟩ := h
  refine ⟨v, ⟨hb, ⟨p, _, hbk⟩, ?_, hne, by omega⟩, fun k hk => hown.lt k hk⟩
  rcases hown.2 with ⟨rfl, h0⟩ | ⟨g, cap, cur, rfl, hbg, hg, hnc, hcm, hcs, htake⟩
  · exact Or.inl ⟨rfl, List.length_eq_zero_iff.1 h0⟩
  · refine Or.inr ⟨g, cap, cur, _, rfl, by omega, hg, hnc, hcm, by omega, fun j x hx => ?_⟩
    have hj : j < l.length := (List.getElem?_eq_some_iff.1 hx).1
    have : (cur.toList.take (l.length * 1))[j]? = some (.int .u8 (x.toNat : Int)) := by rw [htake]; simp [Lib.byteCells, hx]
    rw [List.getElem?_take, if_pos (by omega)] at this
    simpa using this
theorem wr2_block {w : World} {R b : Nat} (hb : w.heap[b]? = some (.cells #[.pointer none, .slice none 0 0] 29 (0, 0))) (hR : R ≤ w.heap.size) : Wr2 R b [] w :=
  ⟨_, _, Or.inl rfl, hb, World.ownsRow_nil _ _ _ _, by simp [Value.ownBlock], hR⟩
theorem numL_pos' (n : Nat) : 0 < (numL n).length := by
  by_cases h : n < 128
  · rw [numL_small n h]; simp
  · rw [numL_big n h]; simp
/-- None is another one's beginning. -/
theorem numL_prefix (a b : Nat) (ha : a < 18446744073709551616) (hb : b < 18446744073709551616) (h : (numL a).take (min (numL a).length (numL b).length) = (numL b).take (min (numL a).length (numL b).length)) : a = b := by
  have h1 := uintR_num a ha []
  have h2 := uintR_num b hb []
  rw [List.append_nil] at h1 h2
  rcases Nat.le_total (numL a).length (numL b).length with hl | hl
  · rw [Nat.min_eq_left hl, List.take_of_length_le (Nat.le_refl _)] at h
    have h3 := uintR_num a ha ((numL b).drop (numL a).length)
    have h4 : numL a ++ (numL b).drop (numL a).length = numL b := by
      conv => lhs; lhs; rw [h]
      exact List.take_append_drop _ _
    rw [h4, h2] at h3
    exact (congrArg Prod.fst h3).symm
  · rw [Nat.min_eq_right hl, List.take_of_length_le (l := numL b) (Nat.le_refl _)] at h
    have h3 := uintR_num b hb ((numL a).drop (numL b).length)
    have h4 : numL b ++ (numL a).drop (numL b).length = numL a := by
      conv => lhs; lhs; rw [← h]
      exact List.take_append_drop _ _
    rw [h4, h1] at h3
    exact congrArg Prod.fst h3
theorem bstr_inj (l m : List UInt8) (h : bstr l = bstr m) : l = m := by
  have := congrArg ByteArray.data h
  simpa [bstr] using this
set_option maxRecDepth 100000 in
set_option maxHeartbeats 8000000 in
theorem VarintOne_walk (a0 a1 : Int) (w0 : (Lit.int .u64 a0).wf = true) (w1 : (Lit.int .u64 a1).wf = true) (w : World) :
    Calls Try.prog 4 #[.int .u64 a0, .int .u64 a1] w fun e w' => e = .returned (.bool true) ∧ Below w.heap.size w w' := by
  obtain ⟨b0, b1⟩ := bounds_u64 w0
  obtain ⟨n, rfl⟩ := Int.eq_ofNat_of_zero_le b0
  obtain ⟨c0, c1⟩ := bounds_u64 w1
  obtain ⟨m, rfl⟩ := Int.eq_ofNat_of_zero_le c0
  have hn : n < 18446744073709551616 := by omega
  have hm : m < 18446744073709551616 := by omega
  clear b0 b1 c0 c1 w0 w1
  have hx0 := heap_alloc_new w (.cells #[.pointer none, .slice none 0 0] 29)
  have hy0 := heap_alloc_new (w.alloc (.cells #[.pointer none, .slice none 0 0] 29)) (.cells #[.pointer none, .slice none 0 0] 29)
  have hxo := Below.heap_alloc (w.alloc (.cells #[.pointer none, .slice none 0 0] 29)) (.cells #[.pointer none, .slice none 0 0] 29) w.heap.size (by simp)
  have hbw := ((Below.refl w.heap.size w).alloc (Nat.le_refl _) (.cells #[.pointer none, .slice none 0 0] 29)).alloc (by simp) (.cells #[.pointer none, .slice none 0 0] 29)
  have hsz : ((w.alloc (.cells #[.pointer none, .slice none 0 0] 29)).alloc (.cells #[.pointer none, .slice none 0 0] 29)).heap.size = w.heap.size + 2 := by simp
  rw [hx0] at hxo
  have hs1 : (w.alloc (.cells #[.pointer none, .slice none 0 0] 29)).heap.size = w.heap.size + 1 := by simp
  rw [hs1] at hy0
  have HX := Lib.hid hxo; have HY := Lib.hid hy0; have HB := Lib.hid hbw; have HS := Lib.hid hsz
  clear hx0 hy0 hxo hbw hsz hs1
  go_enter Try.func4, Try.ntmps4
  go_wp2_with fail
  obtain ⟨B, hBe⟩ : ∃ B, w.heap.size = B := ⟨_, rfl⟩
  rw [hBe] at HX HY HB HS ⊢
  have HBe := Lib.hid hBe; clear hBe
  generalize (w.alloc (.cells #[.pointer none, .slice none 0 0] 29)).alloc (.cells #[.pointer none, .slice none 0 0] 29) = w1 at *
  refine (WUint_two (B + 2) B [] n _ (wr2_block HX.out (by rw [HS.out]; exact Nat.le_refl _)) hn (by simp)).mono ?_
  rintro e w2 ⟨rfl, hx2, hn2⟩
  rw [List.nil_append] at hx2
  have hy2 := (hn2.block (B + 1) (by omega) (by omega)).trans HY.out
  have hb2 := HB.out.trans (hn2.below (by omega) (by omega))
  obtain ⟨v1, ht1, hr1⟩ := hx2.tx (B := B) (by omega) (by omega)
  have hsz2 : B + 2 ≤ w2.heap.size := by have := hn2.size; rw [HS.out] at this; exact this
  have hlx := hx2.lt
  clear hn2 hx2 HX HY HB HS
  go_wp2_with fail
  refine (WUint_two w2.heap.size (B + 1) [] m _ (wr2_block hy2 (Nat.le_refl _)) hm (by simp)).mono ?_
  rintro e w3 ⟨rfl, hy3, hn3⟩
  rw [List.nil_append] at hy3
  have hb3 := hb2.trans (hn3.below (by omega) (by omega))
  obtain ⟨v2, ht2, hr2⟩ := hy3.tx (B := B) (by omega) (by omega)
  have ht1 := ht1.carry (hn3.block B (by omega) (by omega)) (fun k hk => hn3.block k (hr1 k hk).2 (by have := (hr1 k hk).1; omega)) hn3.size
  have hly := hy3.lt
  clear hn3 hy2 hb2 hy3
  generalize hk2 : w2.heap.size = s2 at *
  go_wp2_with fail
  refine (WString_calls _ _ v1 _ _ ht1).mono ?_
  rintro e w4 ⟨rfl, -, hb4, hs4, hk4⟩
  have ht2 := ht2.carry (hk4 (B + 1) hly (fun e => by have := (hr1 _ e).1; omega)) (fun k hk => hk4 k (hr2 k hk).2 (fun e => by have := (hr1 _ e).2; have := (hr2 _ hk).1; omega)) hs4
  have hb4 := hb3.trans hb4
  clear hb3 hk4 hs4 hr1 hr2 ht1 hly hlx hk2 hsz2
  go_wp2_with fail
  refine (WString_calls _ _ v2 _ _ ht2).mono ?_
  rintro e w5 ⟨rfl, ht5, hb5, -, -⟩
  have hb5 := hb4.trans hb5
  have hsB := ht5.2.2.2.2
  clear ht5
  clear hb4 ht2
  have hsx := bstr_size (numL n)
  have hsy := bstr_size (numL m)
  have hlx := numL_64 n hn
  have hly := numL_64 m hm
  have hpx := numL_pos' n
  have hpy := numL_pos' m
  have hpre := fun (h : bstr ((numL n).take (min (numL n).length (numL m).length)) = bstr ((numL m).take (min (numL n).length (numL m).length))) => numL_prefix n m hn hm (bstr_inj _ _ h)
  rw [← bstr_take, ← bstr_take] at hpre
  rw [show (⟨(numL n).toArray⟩ : ByteArray) = bstr (numL n) from rfl, show (⟨(numL m).toArray⟩ : ByteArray) = bstr (numL m) from rfl]
  have hawk := fun d os => awake_calls (Go.Sort.grow (redrawn w5 d) os)
  have HA := Lib.hid hawk; clear hawk
  by_cases hnm : n = m
  · subst hnm
    clear hpre ht2 ht1
    generalize bstr (numL n) = S at *
    generalize (numL n).length = ln at *
    have hi1 : (ln : Int) ≤ 10 := by omega
    have hi2 : (1 : Int) ≤ (ln : Int) := by omega
    go_wp2
    have e0 : (S.toList == S.toList) = true := by simp
    have hq1 : ((n : Int) == (n : Int)) = true := by simp
    refine wp_region_quiet_below (by kernel_rfl) (by kernel_rfl) ?_
    repeat (go_big_quiet_step (with_reducible exact Calls.regrown_of (HA.out _ _)))
    refine wpQuiet_nil ?_
    rintro w' ⟨p, rfl⟩
    go_wp2
    go_ret
    exact ⟨rfl, by rw [HBe.out]; exact hb5.trans ((below_regrown w5 p.d p.os).mono hsB)⟩
  · have hne : bstr (numL n) ≠ bstr (numL m) := fun e => hnm (hpre (by rw [e]))
    have hni : ((n : Int) == (m : Int)) = false := by rw [beq_eq_false_iff_ne]; omega
    have toL : ∀ x y : ByteArray, x ≠ y → (x.toList == y.toList) = false := by
      intro x y h
      rw [beq_eq_false_iff_ne]
      intro e
      rw [ByteArray.toList_eq, ByteArray.toList_eq] at e
      exact h (ByteArray.ext (Array.toList_inj.1 e))
    have hne1 := toL _ _ hne
    have hnn : (n : Int) ≠ (m : Int) := by omega
    by_cases hlt : (numL m).length < (numL n).length
    · rw [Nat.min_eq_right (by omega)] at hpre
      have hpre1 := toL _ _ fun e => hnm (hpre e)
      clear hpre hne toL
      clear ht1 ht2
      generalize bstr (numL n) = S at *
      generalize bstr (numL m) = T at *
      generalize (numL n).length = ln at *
      generalize (numL m).length = lm at *
      have hi1 : (ln : Int) ≤ 10 := by omega
      have hi2 : (1 : Int) ≤ (ln : Int) := by omega
      go_wp2
      refine wp_region_quiet_below (by kernel_rfl) (by kernel_rfl) ?_
      repeat (go_big_quiet_step (with_reducible exact Calls.regrown_of (HA.out _ _)))
      refine wpQuiet_nil ?_
      rintro w' ⟨p, rfl⟩
      go_wp2
      go_ret
      exact ⟨rfl, by rw [HBe.out]; exact hb5.trans ((below_regrown w5 p.d p.os).mono hsB)⟩
    · rw [Nat.min_eq_left (by omega)] at hpre
      have hpre1 := toL _ _ fun e => hnm (hpre e)
      clear hpre hne toL
      clear ht1 ht2
      generalize bstr (numL n) = S at *
      generalize bstr (numL m) = T at *
      generalize (numL n).length = ln at *
      generalize (numL m).length = lm at *
      have hi1 : (ln : Int) ≤ 10 := by omega
      have hi2 : (1 : Int) ≤ (ln : Int) := by omega
      go_wp2
      refine wp_region_quiet_below (by kernel_rfl) (by kernel_rfl) ?_
      repeat (go_big_quiet_step (with_reducible exact Calls.regrown_of (HA.out _ _)))
      refine wpQuiet_nil ?_
      rintro w' ⟨p, rfl⟩
      go_wp2
      go_ret
      exact ⟨rfl, by rw [HBe.out]; exact hb5.trans ((below_regrown w5 p.d p.os).mono hsB)⟩
end Go.Proofs.Ytolkeibmllhacaa
