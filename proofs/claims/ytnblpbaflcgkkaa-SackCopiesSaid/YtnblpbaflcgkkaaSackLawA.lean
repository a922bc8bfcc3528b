/- The walks of the laws SackNil, SackCopies: each answers true. -/
import Derived.Test.YtnblpbaflcgkkaaSackMore
namespace Go.Proofs.Ytnblpbaflcgkkaa
open Go.RowKit
set_option linter.unusedVariables false
set_option linter.unusedSimpArgs false
set_option maxRecDepth 100000 in
set_option maxHeartbeats 8000000 in
theorem SackNil_walk (a0 : Int) (a1 : ByteArray) (w0 : (Lit.int .i64 a0).wf = true) (w1 : a1.size ≤ 140737488351232) (w : World) :
    Calls Try.prog 8 #[.int .i64 a0, .string a1] w fun e w' => e = .returned (.bool true) ∧ Below w.heap.size w w' := by
  go_enter Try.func8, Try.ntmps8
  go_wp2_with fail
  refine (New_bad _ 257 (by omega)).mono ?_
  rintro e' w' ⟨rfl, rfl⟩
  go_wp2_with fail
  refine (awake_calls _).mono ?_
  rintro e' w1 ⟨rfl, hb1⟩
  have hc1 := hb1
  clear hb1
  go_wp2_with fail
  refine (Set_nil _ _).mono ?_
  rintro e' w' ⟨rfl, rfl⟩
  go_wp2_with fail
  refine (Has_nil _ _).mono ?_
  rintro e' w' ⟨rfl, rfl⟩
  go_wp2_with fail
  refine (Len_nil _).mono ?_
  rintro e' w' ⟨rfl, rfl⟩
  go_wp2_with fail
  refine (Count_nil _).mono ?_
  rintro e' w' ⟨rfl, rfl⟩
  go_wp2_with fail
  refine (Base_nil _).mono ?_
  rintro e' w' ⟨rfl, rfl⟩
  go_wp2_with fail
  refine (Full_nil _).mono ?_
  rintro e' w2 ⟨rfl, hb2⟩
  have hc2 := bn hc1 hb2
  clear hc1 hb2
  go_wp2_with fail
  refine (Behind_nil _ 8).mono ?_
  rintro e' w' ⟨rfl, rfl⟩
  go_wp2_with fail
  refine (Merge_nil _ _ _).mono ?_
  rintro e' w' ⟨rfl, rfl⟩
  go_wp2_with fail
  refine (Missing_nil _).mono ?_
  rintro e' w' ⟨rfl, rfl⟩
  go_wp2_with fail
  refine (Copy_nil _).mono ?_
  rintro e' w' ⟨rfl, rfl⟩
  go_wp2
  go_ret
  exact ⟨rfl, hc2⟩
set_option maxRecDepth 100000 in
set_option maxHeartbeats 8000000 in
theorem SackCopies_walk (a0 : Int) (v1 : Value) (xs1 : List Nat) (v2 : Value) (xs2 : List Nat) (w : World)
    (w0 : (Lit.int .i64 a0).wf = true) (w1 : ∃ ad cap, v1 = .slice ad xs1.length cap ∧ (∀ (j : Nat) x, xs1[j]? = some x → x < 256) ∧ xs1.length ≤ 140737488351232 ∧ (xs1 ≠ [] → ∃ g o, ad = some ⟨g, o, none⟩ ∧ ∀ (j : Nat) x, xs1[j]? = some x → w.cell? ⟨g, o + j, none⟩ = some (.int .u8 (x : Int)))) (w2 : ∃ ad cap, v2 = .slice ad xs2.length cap ∧ (∀ (j : Nat) x, xs2[j]? = some x → x < 256) ∧ xs2.length ≤ 140737488351232 ∧ (xs2 ≠ [] → ∃ g o, ad = some ⟨g, o, none⟩ ∧ ∀ (j : Nat) x, xs2[j]? = some x → w.cell? ⟨g, o + j, none⟩ = some (.int .u8 (x : Int)))) :
    Calls Try.prog 9 #[.int .i64 a0, v1, v2] w fun e w' => e = .returned (.bool true) ∧ Below w.heap.size w w' := by
  obtain ⟨c0, c1⟩ := bounds_i64 w0
  obtain ⟨U, hU⟩ : ∃ U : Nat, IntKind.u64.wrap a0 = U := by
    rw [IntKind.wrap_u64]; exact ⟨(a0 % 18446744073709551616).toNat, by omega⟩
  obtain ⟨n, hn⟩ : ∃ n : Nat, (1 + (U : Int) % 256) = (n : Int) := ⟨1 + U % 256, by omega⟩
  have hn1 : 1 ≤ n := by omega
  have hn2 : n ≤ 256 := by omega
  obtain ⟨ad1, cap1, rfl, hx1, hl1_, hr1⟩ := w1
  have HX1 := Lib.hid hx1; clear hx1
  have HR1 := Lib.hid hr1; clear hr1
  obtain ⟨ad2, cap2, rfl, hx2, hl2_, hr2⟩ := w2
  have HX2 := Lib.hid hx2; clear hx2
  have HR2 := Lib.hid hr2; clear hr2
  by_cases hbig : 400 < (xs1.length : Int) + xs2.length
  · skip
    go_enter Try.func9, Try.ntmps9
    go_wp2_with fail
    refine (New_calls _ n hn1 hn2).mono ?_
    rintro e' w1 ⟨rfl, hm1, hb1, hsz1⟩
    have hgm : w.heap.size < w1.heap.size := by omega
    have hgem : w.heap.size ≤ w.heap.size := Nat.le_refl _
    have hc1 := hb1
    clear hb1 hsz1 hgm
    go_wp2_with fail
    refine (awake_calls _).mono ?_
    rintro e' w2 ⟨rfl, hb2⟩
    have hm2 := hm1.below hb2
    have hc2 := bn hc1 hb2
    clear hm1 hc1 hb2
    go_wp2_with fail
    refine (awake_calls _).mono ?_
    rintro e' w3 ⟨rfl, hb3⟩
    have hm3 := hm2.below hb3
    have hc3 := bn hc2 hb3
    clear hm2 hc2 hb3
    go_wp2
    go_ret
    exact ⟨rfl, hc3⟩
  · skip
    go_enter Try.func9, Try.ntmps9
    go_wp2_with fail
    refine (New_calls _ n hn1 hn2).mono ?_
    rintro e' w1 ⟨rfl, hm1, hb1, hsz1⟩
    have hgm : w.heap.size < w1.heap.size := by omega
    have hgem : w.heap.size ≤ w.heap.size := Nat.le_refl _
    have hc1 := hb1
    clear hb1 hsz1 hgm
    go_wp2_with fail
    refine (awake_calls _).mono ?_
    rintro e' w2 ⟨rfl, hb2⟩
    have hm2 := hm1.below hb2
    have hc2 := bn hc1 hb2
    clear hm1 hc1 hb2
    have hlm : (List.replicate n false).length = n := List.length_replicate
    generalize List.replicate n false = Cm at *
    go_wp2
    go_loopw [47] (fun i wr => ∃ (j : Nat) (Cm : List Bool), j ≤ xs1.length ∧ i = .int .i64 j ∧ Cm.length = n ∧ Mp Cm w.heap.size wr ∧ Below w.heap.size w wr) (fun i _ => xs1.length - (intOf i).toNat)
    case atStart => exact ⟨0, _, by omega, rfl, hlm, hm2, hc2⟩
    case round =>
      clear hlm hc2 hm2
      obtain ⟨j, Cm, hj, rfl, hlm, hm3, hc3⟩ := hrel
      by_cases hlt : j < xs1.length
      · obtain ⟨g0, o0, rfl, hcl⟩ := HR1.out (by intro e; rw [e] at hlt; simp at hlt)
        have hxj : xs1[j]? = some xs1[j] := by simp [hlt]
        have hcj := hcl j _ hxj
        have hcr := (hc3.cell (World.block_lt_of_cell? w _ hcj)).trans hcj
        have hx256 := HX1.out j _ hxj
        clear hcj hcl hxj
        generalize xs1[j] = x at *
        go_wp2_with fail
        refine (Set_calls _ w.heap.size Cm (x : Int) hm3).mono ?_
        rintro e' w' ⟨rfl, hset', hu'⟩
        have hl2 : (setB Cm (x : Int)).length = n := by rw [setB_length]; exact hlm
        have hc' := hc3.trans (hu'.below hgem)
        clear hu' hm3 hc3
        go_wp2
        exact ⟨⟨j + 1, _, by omega, rfl, hl2, hset', hc'⟩, by simp only [intOf]; omega⟩
      · obtain rfl : j = xs1.length := by omega
        go_wp2_with fail
        refine (Copy_calls _ w.heap.size _ hm3).mono ?_
        rintro e' w4 ⟨rfl, hz4, hb4, hsz4⟩
        have hm4 := hm3.below hb4
        have hnemz : w.heap.size ≠ wr.heap.size := Nat.ne_of_lt hm3.lt
        have hgez : w.heap.size ≤ wr.heap.size := hc3.size
        have hc4 := bn hc3 hb4
        have hlz := hlm
        clear hm3 hc3 hb4 hsz4
        generalize wr.heap.size = gz at *
        go_wp2_with fail
        refine (Count_calls _ w.heap.size _ hm4).mono ?_
        rintro e' w' ⟨rfl, rfl⟩
        go_wp2
        go_loopw [62] (fun i wr => ∃ (j : Nat) (Cz : List Bool), j ≤ xs2.length ∧ i = .int .i64 j ∧ Cz.length = n ∧ Mp Cz gz wr ∧ Below w.heap.size w wr ∧ Mp Cm w.heap.size wr ∧ Cm.count true ≤ Cz.count true) (fun i _ => xs2.length - (intOf i).toNat)
        case atStart => exact ⟨0, _, by omega, rfl, hlz, hz4, hc4, hm4, Nat.le_refl _⟩
        case round =>
          clear hlz hc4 hm4 hz4
          obtain ⟨j, Cz, hj, rfl, hlz, hz5, hc5, hm5, hk⟩ := hrel
          by_cases hlt : j < xs2.length
          · obtain ⟨g0, o0, rfl, hcl⟩ := HR2.out (by intro e; rw [e] at hlt; simp at hlt)
            have hxj : xs2[j]? = some xs2[j] := by simp [hlt]
            have hcj := hcl j _ hxj
            have hcr := (hc5.cell (World.block_lt_of_cell? w _ hcj)).trans hcj
            have hx256 := HX2.out j _ hxj
            clear hcj hcl hxj
            generalize xs2[j] = x at *
            go_wp2_with fail
            refine (Set_calls _ gz Cz (x : Int) hz5).mono ?_
            rintro e' w' ⟨rfl, hset', hu'⟩
            have hl2 : (setB Cz (x : Int)).length = n := by rw [setB_length]; exact hlz
            have hm' := hu'.mp (by omega) hm5
            have hc' := hc5.trans (hu'.below hgez)
            clear hu' hz5 hc5
            go_wp2
            exact ⟨⟨j + 1, _, by omega, rfl, hl2, hset', hc', hm', Nat.le_trans hk (count_setB_le _ _)⟩, by simp only [intOf]; omega⟩
          · obtain rfl : j = xs2.length := by omega
            go_wp2_with fail
            refine (Copy_calls _ w.heap.size _ hm5).mono ?_
            rintro e' w6 ⟨rfl, hx6, hb6, hsz6⟩
            have hm6 := hm5.below hb6
            have hnemx : w.heap.size ≠ wr.heap.size := Nat.ne_of_lt hm5.lt
            have hz6 := hz5.below hb6
            have hnezx : gz ≠ wr.heap.size := Nat.ne_of_lt hz5.lt
            have hgex : w.heap.size ≤ wr.heap.size := hc5.size
            have hc6 := bn hc5 hb6
            have hlx := hlm
            clear hm5 hz5 hc5 hb6 hsz6
            generalize wr.heap.size = gx at *
            go_wp2_with fail
            refine (Merge_calls _ gx _ (n : Int) ⟨#[]⟩ hx6 (by omega) (by omega) (by decide)).mono ?_
            rintro e' w7 ⟨rfl, hx7, hu7⟩
            have hm7 := hu7.mp (by omega) hm6
            have hz7 := hu7.mp (by omega) hz6
            have hc7 := hc6.trans (hu7.below hgex)
            clear hx6 hm6 hz6 hc6 hu7
            have hful : decide (baseB (withB Cm (toldB (n : Int) ⟨#[]⟩) Cm.length) = (withB Cm (toldB (n : Int) ⟨#[]⟩) Cm.length).length) = true := by
              refine decide_eq_true ?_
              rw [withB_length]
              have := with_full Cm ⟨#[]⟩
              rw [hlm] at this ⊢; exact this
            have Hful := Lib.hid hful; clear hful
            go_wp2_with fail
            refine (Count_calls _ w.heap.size _ hm7).mono ?_
            rintro e' w' ⟨rfl, rfl⟩
            go_wp2_with fail
            refine (Count_calls _ gz _ hz7).mono ?_
            rintro e' w' ⟨rfl, rfl⟩
            go_wp2_with fail
            refine (Full_calls _ gx _ hx7).mono ?_
            rintro e' w8 ⟨rfl, hb8⟩
            have hm8 := hm7.below hb8
            have hz8 := hz7.below hb8
            have hx8 := hx7.below hb8
            have hc8 := bn hc7 hb8
            clear hm7 hz7 hx7 hc7 hb8
            rw [Hful.out]
            go_wp2_with fail
            refine (Len_calls _ gz _ hz8).mono ?_
            rintro e' w' ⟨rfl, rfl⟩
            rw [hlz]
            go_wp2
            go_ret
            exact ⟨rfl, hc8⟩
end Go.Proofs.Ytnblpbaflcgkkaa
