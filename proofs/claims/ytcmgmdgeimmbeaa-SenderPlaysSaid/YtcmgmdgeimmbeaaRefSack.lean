/- The walks of the reference's Base, Count, Merge, Behind, Missing. -/
import Derived.Test.YtcmgmdgeimmbeaaSackRef0
import Derived.Deep.AppendLies
namespace Go.Proofs.Ytcmgmdgeimmbeaa
open Go.RowKit
set_option linter.unusedVariables false
set_option linter.unusedSimpArgs false
theorem info_bool : (Try.prog.info? 4).map (fun i => (i.zero, i.size, i.bytes)) = some (some (.bool false), 1, 1) := by kernel_rfl
/-- A row of bools lies there. -/
def BRow (B : List Bool) (g cap : Nat) (w : World) : Prop := ∃ cur, w.heap[g]? = some (.cells cur 4 (0, 0)) ∧ cur.size = cap ∧ B.length ≤ cap ∧ ∀ (j : Nat) b, B[j]? = some b → cur[j]? = some (.bool b)
theorem BRow.lt {B : List Bool} {g cap : Nat} {w : World} (h : BRow B g cap w) : g < w.heap.size := by
  obtain ⟨cur, h1, -⟩ := h
  exact (Array.getElem?_eq_some_iff.1 h1).1
theorem BRow.keep {B : List Bool} {g cap : Nat} {w w' : World} (h : BRow B g cap w) (hk : w'.heap[g]? = w.heap[g]?) : BRow B g cap w' := by
  obtain ⟨cur, h1, h2⟩ := h
  exact ⟨cur, hk.trans h1, h2⟩
theorem BRow.below {B : List Bool} {g cap : Nat} {w w' : World} (h : BRow B g cap w) (hb : Below w.heap.size w w') : BRow B g cap w' := h.keep (hb.block g h.lt)
theorem BRow.cell {B : List Bool} {g cap : Nat} {w : World} (h : BRow B g cap w) (i : Nat) (hi : i < B.length) : w.cell? ⟨g, i, none⟩ = some (.bool (B.getD i false)) := by
  obtain ⟨cur, h1, h2, h3, h4⟩ := h
  rw [cell_of_row _ _ _ _ _ _ h1]
  apply h4
  rw [List.getD_eq_getElem?_getD, List.getElem?_eq_getElem hi]; rfl
theorem BRow.frozen {B : List Bool} {g cap : Nat} {w : World} (h : BRow B g cap w) (i : Nat) : w.frozen? ⟨g, i, none⟩ = false := by
  obtain ⟨cur, h1, -⟩ := h
  simp [World.frozen?, h1]
theorem BRow.set {B : List Bool} {g cap : Nat} {w : World} (h : BRow B g cap w) (i : Nat) (b : Bool) (hi : i < B.length) : BRow (B.set i b) g cap (w.setCell ⟨g, i, none⟩ (.bool b)) := by
  obtain ⟨cur, h1, h2, h3, h4⟩ := h
  refine ⟨cur.setIfInBounds i (.bool b), row_setCell _ _ _ _ _ _ _ h1, by simp [h2], by simp [h3], fun j x hj => ?_⟩
  rw [List.getElem?_set] at hj
  by_cases e : i = j
  · subst e
    rw [if_pos rfl, if_pos hi] at hj
    obtain rfl : b = x := by simpa using hj
    rw [Array.getElem?_setIfInBounds_self_of_lt (by omega)]
  · rw [if_neg e] at hj
    rw [Array.getElem?_setIfInBounds_ne e]
    exact h4 j x hj
theorem set_same (B : List Bool) (j : Nat) (h : B.getD j false = true) : B.set j true = B := by
  refine list_ext_getD _ _ (by simp) fun i hi => ?_
  rw [getD_set _ _ _ _ (getD_lt h)]
  split
  · next e => rw [e, h]
  · rfl
set_option maxHeartbeats 4000000 in
theorem RBase_calls (w : World) (B : List Bool) (g cap : Nat) (h : BRow B g cap w) (hl : B.length ≤ 1000) :
    Calls Try.prog 26 #[.slice (some ⟨g, 0, none⟩) B.length cap] w fun e w' => e = .returned (.int .i64 (baseB B : Nat)) ∧ w = w' := by
  have hcell := h.cell
  have hun := baseB_unique B
  have hbl := baseB_below B
  have HC := Lib.hid hcell; have HU := Lib.hid hun
  clear hcell hun h hbl
  obtain ⟨N, hN⟩ : ∃ N, B.length = N := ⟨_, rfl⟩
  rw [hN] at hl HC ⊢
  have HN := Lib.hid hN; clear hN
  go_enter Try.func26, Try.ntmps26
  go_wp2
  go_loop [3] (fun i => ∃ j : Nat, j ≤ N ∧ i = .int .i64 j ∧ Hid (∀ k, k < j → B.getD k false = true)) (fun i => N - (intOf i).toNat)
  case atStart => exact ⟨0, by omega, rfl, Lib.hid fun k hk => absurd hk (Nat.not_lt_zero _)⟩
  case round =>
    obtain ⟨j, hj, rfl, hk⟩ := hrel
    by_cases hlt : j < N
    · have hc := HC.out j hlt
      cases hB : B.getD j false with
      | false =>
        rw [hB] at hc
        have hb := HU.out j hk.out hB
        have HB := Lib.hid hb
        clear hb hB
        go_wp2
        go_ret
        exact ⟨by rw [HB.out]; rfl, rfl⟩
      | true =>
        rw [hB] at hc
        have HB := Lib.hid hB; clear hB
        go_wp2
        exact ⟨⟨j + 1, by omega, by go_num, Lib.hid fun k hk2 => by
          by_cases e : k = j
          · rw [e]; exact HB.out
          · exact hk.out k (by omega)⟩, by simp only [intOf]; omega⟩
    · obtain rfl : j = N := by omega
      have hb := HU.out j hk.out (getD_ge (by rw [HN.out]; exact Nat.le_refl _))
      have HB := Lib.hid hb; clear hb
      go_wp2
      go_ret
      exact ⟨by rw [HB.out]; rfl, rfl⟩
theorem count_take_succ (B : List Bool) (j : Nat) (h : j < B.length) : (B.take (j + 1)).count true = (B.take j).count true + (B.getD j false).toNat := by
  rw [List.take_succ_eq_append_getElem h, List.count_append]
  have : B.getD j false = B[j] := by simp [List.getD_eq_getElem?_getD, h]
  rw [this]
  cases B[j] <;> simp
set_option maxHeartbeats 4000000 in
theorem RCount_calls (w : World) (B : List Bool) (g cap : Nat) (h : BRow B g cap w) (hl : B.length ≤ 1000) :
    Calls Try.prog 28 #[.slice (some ⟨g, 0, none⟩) B.length cap] w fun e w' => e = .returned (.int .i64 (B.count true : Nat)) ∧ w = w' := by
  have hcell := h.cell
  have hct := count_take_succ B
  have HC := Lib.hid hcell; have HT := Lib.hid hct
  clear hcell hct h
  obtain ⟨N, hN⟩ : ∃ N, B.length = N := ⟨_, rfl⟩
  rw [hN] at hl HC HT ⊢
  have hfin : (B.take N).count true = B.count true := by rw [← hN, List.take_length]
  have HF := Lib.hid hfin; clear hfin hN
  have hle : ∀ j, (B.take j).count true ≤ j := fun j => by
    have h1 := List.count_le_length (a := true) (l := B.take j)
    have h2 := List.length_take_le j B
    omega
  have HL := Lib.hid hle; clear hle
  go_enter Try.func28, Try.ntmps28
  go_wp2
  go_loop [3, 4] (fun n i => ∃ j : Nat, j ≤ N ∧ i = .int .i64 j ∧ n = .int .i64 ((B.take j).count true : Nat)) (fun _ i => N - (intOf i).toNat)
  case atStart => exact ⟨0, by omega, rfl, by simp⟩
  case round =>
    obtain ⟨j, hj, rfl, rfl⟩ := hrel
    have hlj := HL.out j
    by_cases hlt : j < N
    · have hc := HC.out j hlt
      have ht := HT.out j hlt
      have HTj := Lib.hid ht; clear ht
      generalize (B.take j).count true = c at *
      cases hB : B.getD j false with
      | false =>
        rw [hB] at hc HTj
        clear hB
        go_wp2
        exact ⟨⟨j + 1, by omega, by go_num, by rw [HTj.out]; rfl⟩, by simp only [intOf]; omega⟩
      | true =>
        rw [hB] at hc HTj
        clear hB
        go_wp2
        exact ⟨⟨j + 1, by omega, by go_num, by rw [HTj.out]; go_num⟩, by simp only [intOf]; omega⟩
    · obtain rfl : j = N := by omega
      go_wp2
      go_ret
      exact ⟨by rw [← HF.out]; rfl, rfl⟩
set_option maxRecDepth 100000 in
set_option maxHeartbeats 8000000 in
theorem RMerge_calls (w : World) (B : List Bool) (g cap : Nat) (base : Int) (s : ByteArray) (h : BRow B g cap w) (h1 : 1 ≤ B.length) (hl : B.length ≤ 256) (hb0 : -9223372036854775808 ≤ base) (hb1 : base < 9223372036854775808) (hs : s.size ≤ 140737488351232) :
    Calls Try.prog 40 #[.slice (some ⟨g, 0, none⟩) B.length cap, .int .i64 base, .string s] w fun e w' => ∃ g' cap', e = .returned (.tuple #[.slice (some ⟨g', 0, none⟩) B.length cap', .int .i64 (newB B (toldB base s) B.length : Nat)]) ∧ BRow (withB B (toldB base s) B.length) g' cap' w' ∧ w.heap.size ≤ g' ∧ Below w.heap.size w w' := by
  obtain ⟨i0, hi0, hz0, hz1, hz2⟩ := info_parts info_bool
  have ht1 := toldB_below base s
  have ht2 := toldB_same base s
  have ht3 := toldB_above base s
  generalize toldB base s = t at *
  have hc : ∀ (j : Nat) u, (B.map Value.bool)[j]? = some u → (w.alloc (.cells #[] 4)).cell? ((⟨g, 0, none⟩ : Addr).add j) = some u := fun j u hj => by
    rw [List.getElem?_map] at hj
    cases hx : B[j]? with
    | none => rw [hx] at hj; simp at hj
    | some b =>
      rw [hx] at hj
      obtain rfl : Value.bool b = u := by simpa using hj
      have hjl : j < B.length := (List.getElem?_eq_some_iff.1 hx).1
      have hcc := h.cell j hjl
      rw [List.getD_eq_getElem?_getD, hx] at hcc
      rw [Addr.add_lit, Nat.zero_add]; exact Lib.cell?_alloc_some (W := w) _ hcc
  have hown0 : (w.alloc (.cells #[] 4)).ownsRow w.heap.size 4 1 (.slice (some ⟨w.heap.size, 0, none⟩) 0 0) 0 [] := ⟨rfl, Or.inr ⟨w.heap.size, 0, #[], rfl, Nat.le_refl _, heap_alloc_new w _, Nat.le_refl _, by unfold maxLen; omega, rfl, rfl⟩⟩
  have HC := Lib.hid hc; have HO := Lib.hid hown0
  clear hc hown0 h
  obtain ⟨N, hN⟩ : ∃ N : Nat, B.length = N := ⟨_, rfl⟩
  have hz : withB B t 0 = B := withB_zero B t
  have hlen := fun j => withB_length B t j
  have hat := withB_at B t
  have htold := withB_told B t
  have hunt := withB_untold B t
  have hnl := newB_le B t
  have hns : ∀ j, newB B t (j + 1) = newB B t j + (t j && !B.getD j false).toNat := fun _ => rfl
  rw [hN] at h1 hl htold hunt hlen ⊢
  obtain ⟨nb, hnb⟩ : ∃ nb : Nat → Nat, nb = newB B t := ⟨_, rfl⟩
  have hn0 : nb 0 = 0 := by rw [hnb]; rfl
  rw [← hnb] at hns hnl ⊢
  clear hnb
  have HZ := Lib.hid hz; have HLen := Lib.hid hlen; have HAt := Lib.hid hat
  have HT1 := Lib.hid ht1; have HT2 := Lib.hid ht2; have HT3 := Lib.hid ht3; have HTold := Lib.hid htold; have HUn := Lib.hid hunt; have HNl := Lib.hid hnl; have HNs := Lib.hid hns; have HN0 := Lib.hid hn0
  clear hz hlen hat ht1 ht2 ht3 htold hunt hnl hns hn0
  have HN := Lib.hid hN; clear hN
  go_enter Try.func40, Try.ntmps40
  go_wp2_with (with_reducible refine wpList_mark (o := ⟨some 15, _, _, _, _, _⟩) ?_)
  refine Marked.intro ?_
  refine wpList_append_lies _ rfl _ _ _ (by rfl) w.heap.size 4 i0 _ 1 1 Try.underlying56 hi0 hz0 hz1 hz2 rfl (by omega) (.slice (some ⟨w.heap.size, 0, none⟩) 0 0) 0 [] (by rfl) HO.out ⟨g, 0, none⟩ N cap (B.map .bool) (by rfl) (by simp [HN.out]) HC.out (fun u hu => by obtain ⟨b, -, rfl⟩ := List.mem_map.1 hu; rfl) h1 (by unfold maxLen; omega) (by omega) (by simp) (w.heap.size + 1) (by simp) ?_
  intro g1 cap1 w1 hown hgrow hat1 hg1
  have hb : Below w.heap.size w w1 := ((Below.refl w.heap.size w).alloc (Nat.le_refl _) (.cells #[] 4)).grown hgrow (by simp) (fun k hk => by
    have : w.heap.size = k := by simpa [Value.ownBlock] using hk
    omega)
  rw [Nat.zero_add, List.nil_append] at hown
  rw [Nat.zero_add]
  have hrow : BRow B g1 cap1 w1 ∧ w.heap.size ≤ g1 := by
    rcases hown.2 with ⟨h0, -⟩ | ⟨g', cap', cur, h0, q1, q2, q3, q4, q5, q6⟩
    · simp at h0
    · simp only [Value.slice.injEq, Option.some.injEq, Addr.mk.injEq, and_true] at h0
      obtain ⟨rfl, -, rfl⟩ := h0
      refine ⟨⟨cur, q2, by omega, by rw [HN.out]; exact q3, fun j b hj => ?_⟩, q1⟩
      have hjl : j < N := by rw [← HN.out]; exact (List.getElem?_eq_some_iff.1 hj).1
      have : (cur.toList.take (N * 1))[j]? = some (.bool b) := by rw [q6, List.getElem?_map, hj]; rfl
      rw [List.getElem?_take, if_pos (by omega)] at this
      simpa using this
  obtain ⟨hrow, hg1'⟩ := hrow
  rw [← HZ.out] at hrow
  have HR0 := Lib.hid hrow; have HB0 := Lib.hid hb
  clear hrow hb hown hgrow hat1 hg1 HO HC
  go_wp2
  go_loopw [9, 10] (fun n i wr => ∃ (j : Nat), j ≤ N ∧ n = .int .i64 (nb j : Nat) ∧ i = .int .i64 j ∧ Hid (BRow (withB B t j) g1 cap1 wr) ∧ Below w.heap.size w wr) (fun _ i _ => N - (intOf i).toNat)
  case atStart => exact ⟨0, by omega, by rw [HN0.out]; rfl, rfl, HR0, HB0.out⟩
  case round =>
    clear HR0 HB0
    obtain ⟨j, hj, rfl, rfl, hm, hu⟩ := hrel
    have HU := Lib.hid hu; clear hu
    have hnj := HNl.out j
    have hns := HNs.out j
    by_cases hlt : j < N
    · have hjN : (j : Int) < (N : Int) := by omega
      have c0 := hm.out.cell j (by rw [HLen.out]; exact hlt)
      rw [HAt.out] at c0
      have f0 := hm.out.frozen j
      have hset := hm.out.set j true (by rw [HLen.out]; exact hlt)
      have HSet := Lib.hid hset
      have HSame := Lib.hid (set_same (withB B t j) j)
      have HAtj := Lib.hid (HAt.out j)
      clear hset
      rcases Int.lt_trichotomy (j : Int) base with hlb | hlb | hlb
      · have hgt : ¬ base < (j : Int) := by omega
        have ht : t j = true := HT1.out j hlb
        have hw0 : decide ((j : Int) < base) = true := by simpa using hlb
        have hw1 : decide (base < (j : Int)) = false := by simpa using hgt
        have htd := HTold.out j hlt ht
        rw [ht] at hns
        have Hns := Lib.hid hns; have HTD := Lib.hid htd
        clear hns htd ht
        cases hB : B.getD j false with
        | false =>
          rw [hB] at c0
          have hn : nb (j + 1) = nb j + 1 := by rw [Hns.out, hB]; rfl
          have Hn := Lib.hid hn; clear hn hB
          have HU2 := Lib.hid (HU.out.setCell (p := ⟨g1, j, none⟩) hg1' (.bool true))
          go_wp2
          exact ⟨⟨j + 1, by omega, by rw [Hn.out]; go_num, by go_num, by rw [HTD.out]; exact HSet, HU2.out⟩, by simp only [intOf]; omega⟩
        | true =>
          rw [hB] at c0
          have hn : nb (j + 1) = nb j := by rw [Hns.out, hB]; rfl
          have hsm := HSame.out (by rw [HAtj.out]; exact hB)
          have Hn := Lib.hid hn; have HSM := Lib.hid hsm; clear hn hB hsm
          go_wp2
          exact ⟨⟨j + 1, by omega, by rw [Hn.out], by go_num, by rw [HTD.out, HSM.out]; exact hm, HU.out⟩, by simp only [intOf]; omega⟩
      · obtain rfl : base = (j : Int) := hlb.symm
        have ht : t j = false := HT2.out j rfl
        have htd := HUn.out j hlt ht
        have hn : nb (j + 1) = nb j := by rw [hns, ht]; rfl
        have HTD := Lib.hid htd; have Hn := Lib.hid hn
        clear htd hn hns ht
        go_wp2
        exact ⟨⟨j + 1, by omega, by rw [Hn.out], by go_num, by rw [HTD.out]; exact hm, HU.out⟩, by simp only [intOf]; omega⟩
      · have hgt2 : ¬ (j : Int) < base := by omega
        obtain ⟨d, hd⟩ : ∃ d : Nat, (j : Int) - base - 1 = d := ⟨((j : Int) - base - 1).toNat, by omega⟩
        have htj := HT3.out j d hd
        have hw0 : decide ((j : Int) < base) = false := by simpa using hgt2
        have hw1 : decide (base < (j : Int)) = true := by simpa using hlb
        by_cases hov : (j : Int) - base < 9223372036854775808
        · have hda : wrap64 (wrap64 ((j : Int) - base) - 1) = (d : Int) := by unfold wrap64; omega
          have hdb : (j : Int) - base - 1 = (d : Int) := hd
          have hd0 : decide ((0 : Int) ≤ (d : Int)) = true := by simp
          by_cases hq : d < 8 * s.size
          · have hq8 : d / 8 < s.size := by omega
            have hbit := bitS_in s d hq8
            have hby : ((((s[d / 8].toNat : Int) / 2 ^ (d % 8)).tmod 2 == 1) = (s[d / 8].toNat).testBit (d % 8)) := by
              rw [Int.tmod_eq_emod_of_nonneg (Int.ediv_nonneg (by omega) (Int.le_of_lt (Int.pow_pos (by decide))))]
              have h1 := bit_div s[d / 8].toNat (d % 8)
              cases hT : (s[d / 8].toNat).testBit (d % 8) with
              | true => rw [hT] at h1; rw [beq_iff_eq]; simp at h1; exact_mod_cast h1
              | false => rw [hT] at h1; rw [beq_eq_false_iff_ne]; simp at h1; intro e; have : s[d / 8].toNat / 2 ^ (d % 8) % 2 = 1 := by exact_mod_cast e
                         omega
            rw [hbit] at htj
            rw [← htj] at hby
            have hqi : (d : Int) < 8 * (s.size : Int) := by omega
            have hqj : (d : Int) / 8 < (s.size : Int) := by omega
            clear hov hd hbit hq
            cases hT : t j with
            | true =>
              rw [hT] at hby
              have ht : t j = true := hT
              have htd := HTold.out j hlt ht
              rw [ht] at hns
              have Hns := Lib.hid hns; have HTD := Lib.hid htd
              clear hns htd ht
              cases hB : B.getD j false with
              | false =>
                rw [hB] at c0
                have hn : nb (j + 1) = nb j + 1 := by rw [Hns.out, hB]; rfl
                have Hn := Lib.hid hn; clear hn hB
                have HU2 := Lib.hid (HU.out.setCell (p := ⟨g1, j, none⟩) hg1' (.bool true))
                go_wp2
                exact ⟨⟨j + 1, by omega, by rw [Hn.out]; go_num, by go_num, by rw [HTD.out]; exact HSet, HU2.out⟩, by simp only [intOf]; omega⟩
              | true =>
                rw [hB] at c0
                have hn : nb (j + 1) = nb j := by rw [Hns.out, hB]; rfl
                have hsm := HSame.out (by rw [HAtj.out]; exact hB)
                have Hn := Lib.hid hn; have HSM := Lib.hid hsm; clear hn hB hsm
                go_wp2
                exact ⟨⟨j + 1, by omega, by rw [Hn.out], by go_num, by rw [HTD.out, HSM.out]; exact hm, HU.out⟩, by simp only [intOf]; omega⟩
            | false =>
              rw [hT] at hby
              have ht : t j = false := hT
              have htd := HUn.out j hlt ht
              have hn : nb (j + 1) = nb j := by rw [hns, ht]; rfl
              have HTD := Lib.hid htd; have Hn := Lib.hid hn
              clear htd hn hns ht
              go_wp2
              exact ⟨⟨j + 1, by omega, by rw [Hn.out], by go_num, by rw [HTD.out]; exact hm, HU.out⟩, by simp only [intOf]; omega⟩
          · have hqi : ¬ (d : Int) < 8 * (s.size : Int) := by omega
            have hout := bitS_out s d (by omega)
            have ht : t j = false := by rw [htj]; exact hout
            clear hout htj hov hd
            have htd := HUn.out j hlt ht
            have hn : nb (j + 1) = nb j := by rw [hns, ht]; rfl
            have HTD := Lib.hid htd; have Hn := Lib.hid hn
            clear htd hn hns ht
            go_wp2
            exact ⟨⟨j + 1, by omega, by rw [Hn.out], by go_num, by rw [HTD.out]; exact hm, HU.out⟩, by simp only [intOf]; omega⟩
        · have hout := bitS_out s d (by omega)
          have ht : t j = false := by rw [htj]; exact hout
          by_cases h63 : (j : Int) - base = 9223372036854775808
          · have haw : wrap64 (wrap64 ((j : Int) - base) - 1) = 9223372036854775807 := by rw [h63]; unfold wrap64; decide
            have hbig : ¬ (9223372036854775807 : Int) < 8 * (s.size : Int) := by omega
            clear hov hd h63 hout htj
            have htd := HUn.out j hlt ht
            have hn : nb (j + 1) = nb j := by rw [hns, ht]; rfl
            have HTD := Lib.hid htd; have Hn := Lib.hid hn
            clear htd hn hns ht
            go_wp2
            exact ⟨⟨j + 1, by omega, by rw [Hn.out], by go_num, by rw [HTD.out]; exact hm, HU.out⟩, by simp only [intOf]; omega⟩
          · obtain ⟨A, haw⟩ : ∃ A : Int, wrap64 (wrap64 ((j : Int) - base) - 1) = A := ⟨_, rfl⟩
            have hneg : A < 0 := by
              have h1 : wrap64 ((j : Int) - base) = (j : Int) - base - 18446744073709551616 := by unfold wrap64; omega
              rw [h1] at haw
              have h2 : wrap64 ((j : Int) - base - 18446744073709551616 - 1) = (j : Int) - base - 18446744073709551616 - 1 := by unfold wrap64; omega
              rw [h2] at haw
              omega
            have hneg2 : decide ((0 : Int) ≤ A) = false := by simpa using hneg
            clear hov hd h63 hout htj
            have htd := HUn.out j hlt ht
            have hn : nb (j + 1) = nb j := by rw [hns, ht]; rfl
            have HTD := Lib.hid htd; have Hn := Lib.hid hn
            clear htd hn hns ht
            go_wp2
            exact ⟨⟨j + 1, by omega, by rw [Hn.out], by go_num, by rw [HTD.out]; exact hm, HU.out⟩, by simp only [intOf]; omega⟩
    · obtain rfl : j = N := by omega
      go_wp2
      go_ret2
      exact ⟨g1, cap1, rfl, hm.out, hg1', HU.out⟩
end Go.Proofs.Ytcmgmdgeimmbeaa
