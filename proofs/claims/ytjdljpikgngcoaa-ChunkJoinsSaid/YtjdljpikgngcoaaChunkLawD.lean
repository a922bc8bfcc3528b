/- The law ChunkJoins, walked. -/
import Derived.Test.YtjdljpikgngcoaaChunkLawA
namespace Go.Proofs.Ytjdljpikgngcoaa
open Go.RowKit Go.ChangeShapes Go.WideShapes
set_option linter.unusedVariables false
set_option linter.unusedSimpArgs false
theorem wpList_wanted {P : Program} {ops : Array Oper} {rest : List Oper} {o : Oper} {a : Act} {w : World} {Q : Exit → Act → World → Prop} (hw : Region.wanted o (yielded ops a.tmps) = true) (h : wpList P ops Q ({ o with guard := none } :: rest) a w) : wpList P ops Q (o :: rest) a w := by
  unfold wpList at h ⊢
  rw [if_pos hw]
  split at h
  · exact h
  · rename_i hn
    exact absurd rfl hn
/-- 'append(out, l...)': a list of texts goes behind an owned row. -/
theorem wpList_glue {P : Program} {ops : Array Oper} {rest : List Oper} {o : Oper} {a : Act} {Q : Exit → Act → World → Prop} (hgd : o.guard = none) (s x : Operand) (t : TypeId) (ho : o.op = .call { callee := .builtin .append, args := #[s, x], argTypes := #[t, t] })
    (B : Nat) (e : TypeId) (z : Value) (bytes : Nat) (ht : P.underlying t = some (.slice e)) (hi : (P.info? e).map (fun i => (i.zero, i.size, i.bytes)) = some (some z, 1, bytes)) (hzs : z.cells.size = 1)
    (w : World) (v : Value) (n : Nat) (xs : List Value) (hs : a.eval s = v) (hown : w.ownsRow B e 1 v n xs) (B2 : Nat) (u : Value) (ys : List ByteArray) (hx : a.eval x = u) (hT : Texts B2 w u ys)
    (hb : (n + ys.length) * bytes ≤ 140737488355328) (hn : n + ys.length ≤ maxLen) (hB : B ≤ w.heap.size)
    (h : ∀ v' w', w'.ownsRow B e 1 v' (n + ys.length) (xs ++ ys.map .string) → Below B w w' → wpList P ops Q rest (a.put o.dst v') w') : wpList P ops Q (o :: rest) a w := by
  obtain ⟨i, hi1, hi2, hi3, hi4⟩ := info_parts hi
  obtain ⟨g, cap, rfl, h1, h2, h3, h4⟩ := hT
  refine wpList_append_own _ hgd s x t ho B e i z 1 bytes ht hi1 hi2 hi3 hi4 hzs (by omega) v n xs hs hown ⟨g, 0, none⟩ ys.length cap (ys.map .string) hx (by simp) ?_ (by simp [Value.oneCell']) hn hb hB ?_
  · intro j y hy
    rw [Addr.add_lit, Nat.zero_add]
    rw [List.getElem?_map] at hy
    cases hj : ys[j]? with
    | none => rw [hj] at hy; cases hy
    | some q => rw [hj] at hy; cases hy; exact h4 j q hj
  · intro v' w' h2 h3 _
    refine h v' w' h2 ((Below.refl B w).grown h3 hB ?_)
    intro k hk
    exact (hown.lt k hk).1
theorem cntN_times (q k : Nat) (h : 0 < q) (hk : 0 < k) : cntN (q * k) k = q := by
  obtain ⟨i, rfl⟩ : ∃ i, q = i + 1 := ⟨q - 1, by omega⟩
  exact cntN_last _ k i hk (Nat.le_refl _) (Or.inl (by rw [Nat.add_mul, Nat.one_mul]; omega))
theorem cntN_plus (q k t : Nat) (hk : 0 < k) (h : 0 < t) : cntN (q * k + t) k = q + cntN t k := by
  unfold cntN
  rw [if_neg (by omega), if_neg (by omega), show q * k + t - 1 = (t - 1) + q * k by omega, Nat.add_mul_div_right _ _ hk]
  omega
theorem chs_split (h t : ByteArray) (q k : Nat) (hk : 0 < k) (hq : 0 < q) (hh : h.size = q * k) (ht : 0 < t.size) :
    chs (h ++ t) k (cntN (h ++ t).size k) = chs h k (cntN h.size k) ++ chs t k (cntN t.size k) := by
  rw [ByteArray.size_append, hh, cntN_plus q k _ hk ht, cntN_times q k hq hk]
  apply List.ext_getElem?
  intro i
  by_cases c : i < q
  · rw [List.getElem?_append_left (by rw [chs_length]; exact c), chs_get _ _ _ _ (by omega), chs_get _ _ _ _ c]
    congr 1
    have m : (i + 1) * k ≤ q * k := Nat.mul_le_mul_right k c
    rw [Nat.add_mul, Nat.one_mul] at m
    rw [ByteArray.size_append, hh, Nat.min_eq_right (by omega), Nat.min_eq_right (by omega)]
    apply bytes_ext
    have lh : h.data.toList.length = q * k := hh
    rw [extract_list, extract_list, ByteArray.data_append, Array.toList_append, List.take_append_of_le_length (by omega)]
  · obtain ⟨j, rfl⟩ : ∃ j, i = q + j := ⟨i - q, by omega⟩
    rw [List.getElem?_append_right (by rw [chs_length]; omega), chs_length, show q + j - q = j by omega]
    by_cases d : j < cntN t.size k
    · rw [chs_get _ _ _ _ (by omega), chs_get _ _ _ _ d]
      congr 1
      apply bytes_ext
      have lh : h.data.toList.length = q * k := hh
      have e1 : (q + j) * k = q * k + j * k := Nat.add_mul _ _ _
      rw [extract_list, extract_list, ByteArray.data_append, Array.toList_append, ByteArray.size_append, hh, e1, show min (q * k + t.size) (q * k + j * k + k) = q * k + min t.size (j * k + k) by omega]
      rw [List.take_append, List.drop_append, lh, List.length_take, lh, List.drop_of_length_le (by rw [List.length_take, lh]; omega)]
      rw [show q * k + min t.size (j * k + k) - q * k = min t.size (j * k + k) by omega, Nat.min_eq_right (by omega), show q * k + j * k - q * k = j * k by omega, List.nil_append]
    · rw [List.getElem?_eq_none (by rw [chs_length]; omega), List.getElem?_eq_none (by rw [chs_length]; omega)]
set_option maxRecDepth 100000 in
set_option maxHeartbeats 4000000 in
theorem ChunkJoins_walk (a0 a1 : ByteArray) (a2 : Int) (w0 : a0.size ≤ 140737488351232) (w1 : a1.size ≤ 140737488351232) (w2 : (Lit.int .i64 a2).wf = true) (w : World) :
    Calls Try.prog 6 #[.string a0, .string a1, .int .i64 a2] w fun e w' => e = .returned (.bool true) ∧ Below w.heap.size w w' := by
  obtain ⟨c0, c1⟩ := bounds_i64 w2
  clear w2
  by_cases hbig : 5000 < (a0.size : Int) + a1.size
  · go_enter Try.func6, Try.ntmps6
    go_wp2_with fail
    refine (awake_calls _).mono ?_
    rintro e w1 ⟨rfl, hb1⟩
    go_wp2_with fail
    refine (awake_calls _).mono ?_
    rintro e w2 ⟨rfl, hb2⟩
    go_wp2
    go_ret
    exact ⟨rfl, bn hb1 hb2⟩
  · rcases cut_cases a0.size a2 with ⟨k0, k1⟩ | ⟨k1, k0, kc, k, hk, k45, k1000, hn⟩ | ⟨k, hk, k45, k1000, hE, hn⟩
    · have K1 := Lib.hid k1
      clear k1
      go_enter Try.func6, Try.ntmps6
      go_wp2_with fail
      refine (awake_calls _).mono ?_
      rintro e w1 ⟨rfl, hb1⟩
      go_wp2_with fail
      with_reducible refine (Size_calls _ a2 c0 c1).mono ?_
      rintro e w2 ⟨rfl, rfl⟩
      rw [K1.out]
      go_wp2
      go_ret
      exact ⟨rfl, hb1⟩
    · omega
    · have HE := Lib.hid hE; clear hE
      have HK := Lib.hid hk; clear hk
      have kpos : 0 < k := by omega
      by_cases hs : a0.size < k
      · go_enter Try.func6, Try.ntmps6
        go_wp2_with fail
        refine (awake_calls _).mono ?_
        rintro e w1 ⟨rfl, hb1⟩
        go_wp2_with fail
        with_reducible refine (Size_calls _ a2 c0 c1).mono ?_
        rintro e w2 ⟨rfl, rfl⟩
        rw [HE.out, HK.out]
        go_wp2
        go_ret
        exact ⟨rfl, hb1⟩
      · by_cases ht : a1.size = 0
        · have hte : a1 = ⟨#[]⟩ := by
            apply bytes_ext
            exact List.eq_nil_of_length_eq_zero ht
          have htq : a1.toList.isEmpty = true := by rw [hte]; rw [ByteArray.toList_eq]; rfl
          go_enter Try.func6, Try.ntmps6
          go_wp2_with fail
          refine (awake_calls _).mono ?_
          rintro e w1 ⟨rfl, hb1⟩
          go_wp2_with fail
          with_reducible refine (Size_calls _ a2 c0 c1).mono ?_
          rintro e w2 ⟨rfl, rfl⟩
          rw [HE.out, HK.out]
          go_wp2
          go_ret
          exact ⟨rfl, hb1⟩
        · have htq : a1.toList.isEmpty = false := by
            rw [ByteArray.toList_eq]
            cases h : a1.data.toList with
            | nil => exact absurd (congrArg List.length h) ht
            | cons x l => rfl
          obtain ⟨q, hq⟩ : ∃ q, a0.size / k = q := ⟨_, rfl⟩
          have hq1 : 0 < q := by rw [← hq]; exact Nat.div_pos (by omega) kpos
          have hq2 : q * k ≤ a0.size := by rw [← hq]; exact Nat.div_mul_le_self _ _
          have hqi : ((a0.size : Int) / (k : Int)) = (q : Int) := by rw [← hq]; simp
          have hk0 : ((k : Int) == 0) = false := by simp; omega
          clear hq
          have hqQ : q ≤ q * k := Nat.le_mul_of_pos_right q kpos
          have hmul : (q : Int) * (k : Int) = ((q * k : Nat) : Int) := by simp
          have hsz : (a0.extract 0 (q * k)).size = q * k := by rw [ByteArray.size_extract]; omega
          have hsp := chs_split (a0.extract 0 (q * k)) a1 q k kpos hq1 hsz (by omega)
          have hsa : (a0.extract 0 (q * k) ++ a1).size = q * k + a1.size := by rw [ByteArray.size_append, hsz]
          generalize hQ : q * k = Q at *
          have l1 := cntN_le (a0.extract 0 Q).size k kpos (by omega)
          have l2 := cntN_le a1.size k kpos (by omega)
          have l3 := cntN_le (a0.extract 0 Q ++ a1).size k kpos (by omega)
          have Hsp := Lib.hid hsp; clear hsp
          go_enter Try.func6, Try.ntmps6
          go_wp2_with fail
          refine (awake_calls _).mono ?_
          rintro e w1 ⟨rfl, hb1⟩
          go_wp2_with fail
          with_reducible refine (Size_calls _ a2 c0 c1).mono ?_
          rintro e w2 ⟨rfl, rfl⟩
          rw [HE.out, HK.out]
          go_wp2_with fail
          with_reducible refine (Cut_ok _ (a0.extract 0 Q ++ a1) a2 k c0 c1 HK.out kpos HE.out (by omega) k1000).mono ?_
          rintro e w2 ⟨v2, rfl, hb2, T2⟩
          go_wp2_with fail
          with_reducible refine (Cut_ok _ (a0.extract 0 Q) a2 k c0 c1 HK.out kpos HE.out (by omega) k1000).mono ?_
          rintro e w3 ⟨v3, rfl, hb3, T3⟩
          go_wp2_with fail
          with_reducible refine (Cut_ok _ a1 a2 k c0 c1 HK.out kpos HE.out (by omega) k1000).mono ?_
          rintro e w4 ⟨v4, rfl, hb4, T4⟩
          rw [Hsp.out] at T2
          have T2' := Lib.hid ((T2.mono hb3).mono hb4)
          have T3' := Lib.hid (T3.mono hb4)
          have T4' := Lib.hid T4
          clear T2 T3 T4
          go_wp2_with (with_reducible refine wpList_mark (o := ⟨some 86, _, _, _, _, _⟩) ?_)
          refine Marked.intro ?_
          refine wpList_wanted (by rfl) ?_
          have own0 : (w4.alloc (.cells #[] 9)).ownsRow w4.heap.size 9 1 (.slice (some ⟨w4.heap.size, 0, none⟩) 0 0) 0 [] :=
            ⟨rfl, Or.inr ⟨w4.heap.size, 0, #[], rfl, Nat.le_refl _, heap_alloc_new _ _, Nat.le_refl _, Nat.zero_le _, rfl, rfl⟩⟩
          have bel0 := (Below.refl w4.heap.size w4).alloc (Nat.le_refl _) (.cells #[] 9)
          generalize w4.alloc (.cells #[] 9) = w5 at own0 bel0 ⊢
          have bel0s := bel0.size
          refine wpList_glue rfl _ _ 23 rfl w4.heap.size 9 (.string ⟨#[]⟩) 16 Try.underlying23 info_str rfl w5 _ 0 [] (by rfl) own0 _ v3 _ (by rfl) (T3'.out.mono bel0) (by rw [chs_length]; omega) (by rw [chs_length]; unfold maxLen; omega) bel0s ?_
          intro v6 w6 own1 bel1
          have bel1s := bel1.size
          go_wp2_with (with_reducible refine wpList_mark (o := ⟨some 88, _, _, _, _, _⟩) ?_)
          refine Marked.intro ?_
          refine wpList_wanted (by rfl) ?_
          refine wpList_glue rfl _ _ 23 rfl w4.heap.size 9 (.string ⟨#[]⟩) 16 Try.underlying23 info_str rfl w6 _ _ _ (by rfl) own1 _ v4 _ (by rfl) (T4'.out.mono (bel0.trans bel1)) (by rw [chs_length, chs_length]; omega) (by rw [chs_length, chs_length]; unfold maxLen; omega) (by omega) ?_
          intro v7 w7 own2 bel2
          have bel3 := (bel0.trans bel1).trans bel2
          have T7 : Texts w4.heap.size w7 v7 (chs (a0.extract 0 Q) k (cntN (a0.extract 0 Q).size k) ++ chs a1 k (cntN a1.size k)) := by
            refine texts_of_own ?_ ?_
            · rw [List.length_append, List.map_append]
              simpa using own2
            · intro e
              have := congrArg List.length e
              have p := cntN_pos (a0.extract 0 Q).size k
              rw [List.length_append, chs_length, chs_length, List.length_nil] at this; omega
          have T2'' := T2'.out.mono bel3
          clear own0 own1 own2
          have hlen : (chs (a0.extract 0 Q) k (cntN (a0.extract 0 Q).size k) ++ chs a1 k (cntN a1.size k)).length ≤ 512 := by
            rw [List.length_append, chs_length, chs_length]; omega
          generalize chs (a0.extract 0 Q) k (cntN (a0.extract 0 Q).size k) ++ chs a1 k (cntN a1.size k) = xs at T7 T2'' hlen
          obtain ⟨g2, cap2, rfl, -, -, -, a4'⟩ := T2''
          obtain ⟨g7, cap7, rfl, -, -, -, b4'⟩ := T7
          clear T2'
          have A4 := Lib.hid a4'; clear a4'
          have B4 := Lib.hid b4'; clear b4'
          go_wp2_with fail
          with_reducible refine (Same_true _ xs (by omega) g2 cap2 g7 cap7 A4.out B4.out).mono ?_
          rintro e w8 ⟨rfl, hb8⟩
          go_wp2
          go_ret
          exact ⟨rfl, bn (bn (bn (bn (bn hb1 hb2) hb3) hb4) bel3) hb8⟩
end Go.Proofs.Ytjdljpikgngcoaa
