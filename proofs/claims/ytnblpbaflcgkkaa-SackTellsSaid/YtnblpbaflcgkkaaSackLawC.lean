/- The walk of the law SackTells: it answers true. -/
import Derived.Test.YtnblpbaflcgkkaaSackMore
namespace Go.Proofs.Ytnblpbaflcgkkaa
open Go.RowKit
set_option linter.unusedVariables false
set_option linter.unusedSimpArgs false
theorem tellB_small (B : List Bool) (k : Int) : (tellB B k).size ≤ 140737488351232 := by
  have := upTo_le k
  have e : (tellB B k).size = (upTo k + 7) / 8 := by
    show ((bytesV (behindF B) (upTo k) ((upTo k + 7) / 8)).map UInt8.ofNat).length = _
    rw [List.length_map, bytesV_length]
  rw [e]; omega
set_option maxRecDepth 100000 in
set_option maxHeartbeats 8000000 in
theorem SackTells_walk (a0 : Int) (v1 : Value) (xs1 : List Nat) (v2 : Value) (xs2 : List Nat) (w : World)
    (w0 : (Lit.int .i64 a0).wf = true) (w1 : ∃ ad cap, v1 = .slice ad xs1.length cap ∧ (∀ (j : Nat) x, xs1[j]? = some x → x < 256) ∧ xs1.length ≤ 140737488351232 ∧ (xs1 ≠ [] → ∃ g o, ad = some ⟨g, o, none⟩ ∧ ∀ (j : Nat) x, xs1[j]? = some x → w.cell? ⟨g, o + j, none⟩ = some (.int .u8 (x : Int)))) (w2 : ∃ ad cap, v2 = .slice ad xs2.length cap ∧ (∀ (j : Nat) x, xs2[j]? = some x → x < 256) ∧ xs2.length ≤ 140737488351232 ∧ (xs2 ≠ [] → ∃ g o, ad = some ⟨g, o, none⟩ ∧ ∀ (j : Nat) x, xs2[j]? = some x → w.cell? ⟨g, o + j, none⟩ = some (.int .u8 (x : Int)))) :
    Calls Try.prog 7 #[.int .i64 a0, v1, v2] w fun e w' => e = .returned (.bool true) ∧ Below w.heap.size w w' := by
  obtain ⟨c0, c1⟩ := bounds_i64 w0
  obtain ⟨U, hU⟩ : ∃ U : Nat, IntKind.u64.wrap a0 = U := by
    rw [IntKind.wrap_u64]; exact ⟨(a0 % 18446744073709551616).toNat, by omega⟩
  obtain ⟨n, hn⟩ : ∃ n : Nat, (1 + (U : Int) % 256) = (n : Int) := ⟨1 + U % 256, by omega⟩
  have hn1 : 1 ≤ n := by omega
  have hn2 : n ≤ 256 := by omega
  obtain ⟨ad1, cap1, rfl, hx1, hl1_, hr1⟩ := w1
  have HX1 := Lib.hid hx1; clear hx1
  have HR1 := Lib.hid hr1; clear hr1
  obtain ⟨ad2, cap2, rfl, hx2, hl2_, hr2⟩ := w2
  have HX2 := Lib.hid hx2; clear hx2
  have HR2 := Lib.hid hr2; clear hr2
  by_cases hbig1 : 300 < (xs1.length : Int)
  · skip
    go_enter Try.func7, Try.ntmps7
    go_wp2_with fail
    refine (New_calls _ n hn1 hn2).mono ?_
    rintro e' w1 ⟨rfl, hx1, hb1, hsz1⟩
    have hgx : w.heap.size < w1.heap.size := by omega
    have hgex : w.heap.size ≤ w.heap.size := Nat.le_refl _
    have hc1 := hb1
    clear hb1 hsz1 hgx
    go_wp2_with fail
    refine (New_calls _ n hn1 hn2).mono ?_
    rintro e' w2 ⟨rfl, hy2, hb2, hsz2⟩
    have hgy : w1.heap.size < w2.heap.size := by omega
    have hx2 := hx1.below hb2
    have hnexy : w.heap.size ≠ w1.heap.size := Nat.ne_of_lt hx1.lt
    have hgey : w.heap.size ≤ w1.heap.size := hc1.size
    have hc2 := bn hc1 hb2
    clear hx1 hc1 hb2 hsz2 hgy
    generalize w1.heap.size = gy at *
    go_wp2_with fail
    refine (awake_calls _).mono ?_
    rintro e' w3 ⟨rfl, hb3⟩
    have hx3 := hx2.below hb3
    have hy3 := hy2.below hb3
    have hc3 := bn hc2 hb3
    clear hx2 hy2 hc2 hb3
    go_wp2_with fail
    refine (awake_calls _).mono ?_
    rintro e' w4 ⟨rfl, hb4⟩
    have hx4 := hx3.below hb4
    have hy4 := hy3.below hb4
    have hc4 := bn hc3 hb4
    clear hx3 hy3 hc3 hb4
    go_wp2
    go_ret
    exact ⟨rfl, hc4⟩
  by_cases hbig2 : 300 < (xs2.length : Int)
  · skip
    go_enter Try.func7, Try.ntmps7
    go_wp2_with fail
    refine (New_calls _ n hn1 hn2).mono ?_
    rintro e' w1 ⟨rfl, hx1, hb1, hsz1⟩
    have hgx : w.heap.size < w1.heap.size := by omega
    have hgex : w.heap.size ≤ w.heap.size := Nat.le_refl _
    have hc1 := hb1
    clear hb1 hsz1 hgx
    go_wp2_with fail
    refine (New_calls _ n hn1 hn2).mono ?_
    rintro e' w2 ⟨rfl, hy2, hb2, hsz2⟩
    have hgy : w1.heap.size < w2.heap.size := by omega
    have hx2 := hx1.below hb2
    have hnexy : w.heap.size ≠ w1.heap.size := Nat.ne_of_lt hx1.lt
    have hgey : w.heap.size ≤ w1.heap.size := hc1.size
    have hc2 := bn hc1 hb2
    clear hx1 hc1 hb2 hsz2 hgy
    generalize w1.heap.size = gy at *
    go_wp2_with fail
    refine (awake_calls _).mono ?_
    rintro e' w3 ⟨rfl, hb3⟩
    have hx3 := hx2.below hb3
    have hy3 := hy2.below hb3
    have hc3 := bn hc2 hb3
    clear hx2 hy2 hc2 hb3
    go_wp2_with fail
    refine (awake_calls _).mono ?_
    rintro e' w4 ⟨rfl, hb4⟩
    have hx4 := hx3.below hb4
    have hy4 := hy3.below hb4
    have hc4 := bn hc3 hb4
    clear hx3 hy3 hc3 hb4
    go_wp2
    go_ret
    exact ⟨rfl, hc4⟩
  go_enter Try.func7, Try.ntmps7
  go_wp2_with fail
  refine (New_calls _ n hn1 hn2).mono ?_
  rintro e' w1 ⟨rfl, hx1, hb1, hsz1⟩
  have hgx : w.heap.size < w1.heap.size := by omega
  have hgex : w.heap.size ≤ w.heap.size := Nat.le_refl _
  have hc1 := hb1
  clear hb1 hsz1 hgx
  go_wp2_with fail
  refine (New_calls _ n hn1 hn2).mono ?_
  rintro e' w2 ⟨rfl, hy2, hb2, hsz2⟩
  have hgy : w1.heap.size < w2.heap.size := by omega
  have hx2 := hx1.below hb2
  have hnexy : w.heap.size ≠ w1.heap.size := Nat.ne_of_lt hx1.lt
  have hgey : w.heap.size ≤ w1.heap.size := hc1.size
  have hc2 := bn hc1 hb2
  clear hx1 hc1 hb2 hsz2 hgy
  generalize w1.heap.size = gy at *
  go_wp2_with fail
  refine (awake_calls _).mono ?_
  rintro e' w3 ⟨rfl, hb3⟩
  have hx3 := hx2.below hb3
  have hy3 := hy2.below hb3
  have hc3 := bn hc2 hb3
  clear hx2 hy2 hc2 hb3
  have hly : (List.replicate n false).length = n := List.length_replicate
  generalize List.replicate n false = Cy at *
  have hlx := hly
  go_wp2
  go_loopw [64] (fun i wr => ∃ (j : Nat) (Cx : List Bool), j ≤ xs1.length ∧ i = .int .i64 j ∧ Cx.length = n ∧ Mp Cx w.heap.size wr ∧ Below w.heap.size w wr ∧ Mp Cy gy wr) (fun i _ => xs1.length - (intOf i).toNat)
  case atStart => exact ⟨0, _, by omega, rfl, hlx, hx3, hc3, hy3⟩
  case round =>
    clear hlx hc3 hx3 hy3
    obtain ⟨j, Cx, hj, rfl, hlx, hx4, hc4, hy4⟩ := hrel
    by_cases hlt : j < xs1.length
    · obtain ⟨g0, o0, rfl, hcl⟩ := HR1.out (by intro e; rw [e] at hlt; simp at hlt)
      have hxj : xs1[j]? = some xs1[j] := by simp [hlt]
      have hcj := hcl j _ hxj
      have hcr := (hc4.cell (World.block_lt_of_cell? w _ hcj)).trans hcj
      have hx256 := HX1.out j _ hxj
      clear hcj hcl hxj
      generalize xs1[j] = x at *
      go_wp2_with fail
      refine (Set_calls _ w.heap.size Cx (x : Int) hx4).mono ?_
      rintro e' w' ⟨rfl, hset', hu'⟩
      have hl2 : (setB Cx (x : Int)).length = n := by rw [setB_length]; exact hlx
      have hy' := hu'.mp (by omega) hy4
      have hc' := hc4.trans (hu'.below hgex)
      clear hu' hx4 hc4
      go_wp2
      exact ⟨⟨j + 1, _, by omega, rfl, hl2, hset', hc', hy'⟩, by simp only [intOf]; omega⟩
    · obtain rfl : j = xs1.length := by omega
      go_wp2
      go_loopw [75] (fun i wr => ∃ (j : Nat) (Cy : List Bool), j ≤ xs2.length ∧ i = .int .i64 j ∧ Cy.length = n ∧ Mp Cy gy wr ∧ Below w.heap.size w wr ∧ Mp Cx w.heap.size wr) (fun i _ => xs2.length - (intOf i).toNat)
      case atStart => exact ⟨0, _, by omega, rfl, hly, hy4, hc4, hx4⟩
      case round =>
        clear hly hc4 hx4 hy4
        obtain ⟨j, Cy, hj, rfl, hly, hy5, hc5, hx5⟩ := hrel
        by_cases hlt : j < xs2.length
        · obtain ⟨g0, o0, rfl, hcl⟩ := HR2.out (by intro e; rw [e] at hlt; simp at hlt)
          have hxj : xs2[j]? = some xs2[j] := by simp [hlt]
          have hcj := hcl j _ hxj
          have hcr := (hc5.cell (World.block_lt_of_cell? w _ hcj)).trans hcj
          have hx256 := HX2.out j _ hxj
          clear hcj hcl hxj
          generalize xs2[j] = x at *
          go_wp2_with fail
          refine (Set_calls _ gy Cy (x : Int) hy5).mono ?_
          rintro e' w' ⟨rfl, hset', hu'⟩
          have hl2 : (setB Cy (x : Int)).length = n := by rw [setB_length]; exact hly
          have hx' := hu'.mp (by omega) hx5
          have hc' := hc5.trans (hu'.below hgey)
          clear hu' hy5 hc5
          go_wp2
          exact ⟨⟨j + 1, _, by omega, rfl, hl2, hset', hc', hx'⟩, by simp only [intOf]; omega⟩
        · obtain rfl : j = xs2.length := by omega
          go_wp2_with fail
          refine (Copy_calls _ gy _ hy5).mono ?_
          rintro e' w6 ⟨rfl, hz6, hb6, hsz6⟩
          have hx6 := hx5.below hb6
          have hnexz : w.heap.size ≠ wr.heap.size := Nat.ne_of_lt hx5.lt
          have hy6 := hy5.below hb6
          have hneyz : gy ≠ wr.heap.size := Nat.ne_of_lt hy5.lt
          have hgez : w.heap.size ≤ wr.heap.size := hc5.size
          have hc6 := bn hc5 hb6
          have hlz := hly
          clear hx5 hy5 hc5 hb6 hsz6
          generalize wr.heap.size = gz at *
          have hlex : Cx.length ≤ 256 := by omega
          go_wp2_with fail
          refine (Base_calls _ w.heap.size _ hx6).mono ?_
          rintro e' w' ⟨rfl, rfl⟩
          go_wp2_with fail
          refine (Behind_calls _ w.heap.size _ 256 hx6).mono ?_
          rintro e' w7 ⟨rfl, hb7⟩
          have hx7 := hx6.below hb7
          have hy7 := hy6.below hb7
          have hz7 := hz6.below hb7
          have hc7 := bn hc6 hb7
          clear hx6 hy6 hz6 hc6 hb7
          go_wp2_with fail
          refine (Merge_calls _ gz Cy _ _ hz7 (by have := baseB_le Cx; omega) (by have := baseB_le Cx; omega) (tellB_small _ _)).mono ?_
          rintro e' w8 ⟨rfl, hz8, hu8⟩
          have hx8 := hu8.mp (by omega) hx7
          have hy8 := hu8.mp (by omega) hy7
          have hc8 := hc7.trans (hu8.below hgez)
          clear hz7 hx7 hy7 hc7 hu8
          rw [hly] at hz8
          rw [hly]
          have hz1 : ∀ i, i < n → (withB Cy (toldB (baseB Cx : Nat) (tellB Cx 256)) n).getD i false = (Cx.getD i false || Cy.getD i false) := fun i hi => by
            rw [withB_get _ _ _ _ (by omega), told_256 Cx i hlex (by omega), decide_eq_true hi, Bool.true_and, Bool.or_comm]
          have hz2 : (withB Cy (toldB (baseB Cx : Nat) (tellB Cx 256)) n).count true = Cy.count true + newB Cy (toldB (baseB Cx : Nat) (tellB Cx 256)) n := count_with _ _ _ (by omega)
          have hz3 : newB (withB Cy (toldB (baseB Cx : Nat) (tellB Cx 256)) n) (toldB (baseB Cx : Nat) (tellB Cx 256)) n = 0 := newB_none _ _ _ (fun i hi ht => by
            rw [withB_get _ _ _ _ (by omega), ht]; simp [hi])
          have hlz2 : (withB Cy (toldB (baseB Cx : Nat) (tellB Cx 256)) n).length = n := by rw [withB_length]; exact hly
          have hnl := newB_le Cy (toldB (baseB Cx : Nat) (tellB Cx 256)) n
          have hcl : Cy.count true ≤ n := by have := List.count_le_length (a := true) (l := Cy); omega
          generalize withB Cy (toldB (baseB Cx : Nat) (tellB Cx 256)) n = Cz at *
          obtain ⟨kk, hkk⟩ : ∃ kk, newB Cy (toldB (baseB Cx : Nat) (tellB Cx 256)) n = kk := ⟨_, rfl⟩
          rw [hkk] at hz2 hnl ⊢
          have hsum : ((Cy.count true : Nat) : Int) + (kk : Int) = ((Cz.count true : Nat) : Int) := by omega
          have hcz : Cz.count true ≤ 512 := by omega
          have Hz1 := Lib.hid hz1; clear hz1 hz2 hkk
          have Hz3 := Lib.hid hz3; clear hz3
          clear hlz hlex
          go_wp2
          go_loopw [93] (fun i wr => ∃ (j : Nat), j ≤ n ∧ i = .int .i64 j ∧ wr = w8) (fun i _ => n - (intOf i).toNat)
          case atStart => exact ⟨0, by omega, rfl, rfl⟩
          case round =>
            obtain ⟨j, hj, rfl, rfl⟩ := hrel
            by_cases hlt : j < n
            · have hzj := Hz1.out j hlt
              have q1 := fun w h => Has_calls w gz Cz (j : Int) h
              have q2 := fun u h => Has_calls u w.heap.size Cx (j : Int) h
              have q3 := fun w h => Has_calls w gy Cy (j : Int) h
              simp only [hasB_nat] at q1 q2 q3
              rw [hzj] at q1
              have Q1 := Lib.hid q1; have Q2 := Lib.hid q2; have Q3 := Lib.hid q3
              clear q1 q2 q3 hzj
              cases hbx : Cx.getD j false <;> cases hby : Cy.getD j false <;> rw [hbx] at Q2 <;> rw [hby] at Q3 <;> rw [hbx, hby] at Q1 <;> clear hbx hby
              · go_wp2_with fail
                refine (Q1.out _ hz8).mono ?_
                rintro e' w' ⟨rfl, rfl⟩
                go_wp2_with fail
                refine (Q2.out _ hx8).mono ?_
                rintro e' w' ⟨rfl, rfl⟩
                go_wp2_with fail
                refine (Q3.out _ hy8).mono ?_
                rintro e' w' ⟨rfl, rfl⟩
                go_wp2
                exact ⟨⟨j + 1, by omega, rfl, trivial⟩, by simp only [intOf]; omega⟩
              · go_wp2_with fail
                refine (Q1.out _ hz8).mono ?_
                rintro e' w' ⟨rfl, rfl⟩
                go_wp2_with fail
                refine (Q2.out _ hx8).mono ?_
                rintro e' w' ⟨rfl, rfl⟩
                go_wp2_with fail
                refine (Q3.out _ hy8).mono ?_
                rintro e' w' ⟨rfl, rfl⟩
                go_wp2
                exact ⟨⟨j + 1, by omega, rfl, trivial⟩, by simp only [intOf]; omega⟩
              · go_wp2_with fail
                refine (Q1.out _ hz8).mono ?_
                rintro e' w' ⟨rfl, rfl⟩
                go_wp2_with fail
                refine (Q2.out _ hx8).mono ?_
                rintro e' w' ⟨rfl, rfl⟩
                go_wp2
                exact ⟨⟨j + 1, by omega, rfl, trivial⟩, by simp only [intOf]; omega⟩
              · go_wp2_with fail
                refine (Q1.out _ hz8).mono ?_
                rintro e' w' ⟨rfl, rfl⟩
                go_wp2_with fail
                refine (Q2.out _ hx8).mono ?_
                rintro e' w' ⟨rfl, rfl⟩
                go_wp2
                exact ⟨⟨j + 1, by omega, rfl, trivial⟩, by simp only [intOf]; omega⟩
            · obtain rfl : j = n := by omega
              go_wp2_with fail
              refine (Count_calls _ gz _ hz8).mono ?_
              rintro e' w' ⟨rfl, rfl⟩
              go_wp2_with fail
              refine (Count_calls _ gy _ hy8).mono ?_
              rintro e' w' ⟨rfl, rfl⟩
              go_wp2_with fail
              refine (Base_calls _ w.heap.size _ hx8).mono ?_
              rintro e' w' ⟨rfl, rfl⟩
              go_wp2_with fail
              refine (Behind_calls _ w.heap.size _ 256 hx8).mono ?_
              rintro e' w9 ⟨rfl, hb9⟩
              have hx9 := hx8.below hb9
              have hy9 := hy8.below hb9
              have hz9 := hz8.below hb9
              have hc9 := bn hc8 hb9
              clear hx8 hy8 hz8 hc8 hb9
              go_wp2_with fail
              refine (Merge_calls _ gz Cz _ _ hz9 (by have := baseB_le Cx; omega) (by have := baseB_le Cx; omega) (tellB_small _ _)).mono ?_
              rintro e' w10 ⟨rfl, hz10, hu10⟩
              have hx10 := hu10.mp (by omega) hx9
              have hy10 := hu10.mp (by omega) hy9
              have hc10 := hc9.trans (hu10.below hgez)
              clear hz9 hx9 hy9 hc9 hu10
              rw [hlz2, Hz3.out]
              go_wp2
              go_ret
              exact ⟨rfl, hc10⟩
end Go.Proofs.Ytnblpbaflcgkkaa
