/- The walk of the law SackShort: it answers true. -/
import Derived.Test.YtnblpbaflcgkkaaSackLawC
namespace Go.Proofs.Ytnblpbaflcgkkaa
open Go.RowKit
set_option linter.unusedVariables false
set_option linter.unusedSimpArgs false
set_option maxRecDepth 100000 in
set_option maxHeartbeats 8000000 in
theorem SackShort_walk (a0 : Int) (a1 : Int) (v2 : Value) (xs2 : List Nat) (w : World)
    (w0 : (Lit.int .i64 a0).wf = true) (w1 : (Lit.int .i64 a1).wf = true) (w2 : ∃ ad cap, v2 = .slice ad xs2.length cap ∧ (∀ (j : Nat) x, xs2[j]? = some x → x < 256) ∧ xs2.length ≤ 140737488351232 ∧ (xs2 ≠ [] → ∃ g o, ad = some ⟨g, o, none⟩ ∧ ∀ (j : Nat) x, xs2[j]? = some x → w.cell? ⟨g, o + j, none⟩ = some (.int .u8 (x : Int)))) :
    Calls Try.prog 6 #[.int .i64 a0, .int .i64 a1, v2] w fun e w' => e = .returned (.bool true) ∧ Below w.heap.size w w' := by
  obtain ⟨c0, c1⟩ := bounds_i64 w0
  obtain ⟨U, hU⟩ : ∃ U : Nat, IntKind.u64.wrap a0 = U := by
    rw [IntKind.wrap_u64]; exact ⟨(a0 % 18446744073709551616).toNat, by omega⟩
  obtain ⟨n, hn⟩ : ∃ n : Nat, (1 + (U : Int) % 256) = (n : Int) := ⟨1 + U % 256, by omega⟩
  have hn1 : 1 ≤ n := by omega
  have hn2 : n ≤ 256 := by omega
  obtain ⟨U2, hU2⟩ : ∃ U : Nat, IntKind.u64.wrap a1 = U := by
    rw [IntKind.wrap_u64]; exact ⟨(a1 % 18446744073709551616).toNat, by omega⟩
  obtain ⟨kk, hkk⟩ : ∃ kk : Nat, ((U2 : Int) % 300) = (kk : Int) := ⟨U2 % 300, by omega⟩
  have hk3 : kk < 300 := by omega
  obtain ⟨ad2, cap2, rfl, hx2, hl2_, hr2⟩ := w2
  have HX2 := Lib.hid hx2; clear hx2
  have HR2 := Lib.hid hr2; clear hr2
  by_cases hbig : 300 < (xs2.length : Int)
  · skip
    go_enter Try.func6, Try.ntmps6
    go_wp2_with fail
    refine (New_calls _ n hn1 hn2).mono ?_
    rintro e' w1 ⟨rfl, hx1, hb1, hsz1⟩
    have hgx : w.heap.size < w1.heap.size := by omega
    have hgex : w.heap.size ≤ w.heap.size := Nat.le_refl _
    have hc1 := hb1
    clear hb1 hsz1 hgx
    go_wp2_with fail
    refine (New_calls _ n hn1 hn2).mono ?_
    rintro e' w2 ⟨rfl, hy2, hb2, hsz2⟩
    have hgy : w1.heap.size < w2.heap.size := by omega
    have hx2 := hx1.below hb2
    have hnexy : w.heap.size ≠ w1.heap.size := Nat.ne_of_lt hx1.lt
    have hgey : w.heap.size ≤ w1.heap.size := hc1.size
    have hc2 := bn hc1 hb2
    clear hx1 hc1 hb2 hsz2 hgy
    generalize w1.heap.size = gy at *
    go_wp2_with fail
    refine (awake_calls _).mono ?_
    rintro e' w3 ⟨rfl, hb3⟩
    have hx3 := hx2.below hb3
    have hy3 := hy2.below hb3
    have hc3 := bn hc2 hb3
    clear hx2 hy2 hc2 hb3
    go_wp2_with fail
    refine (awake_calls _).mono ?_
    rintro e' w4 ⟨rfl, hb4⟩
    have hx4 := hx3.below hb4
    have hy4 := hy3.below hb4
    have hc4 := bn hc3 hb4
    clear hx3 hy3 hc3 hb4
    go_wp2
    go_ret
    exact ⟨rfl, hc4⟩
  go_enter Try.func6, Try.ntmps6
  go_wp2_with fail
  refine (New_calls _ n hn1 hn2).mono ?_
  rintro e' w1 ⟨rfl, hx1, hb1, hsz1⟩
  have hgx : w.heap.size < w1.heap.size := by omega
  have hgex : w.heap.size ≤ w.heap.size := Nat.le_refl _
  have hc1 := hb1
  clear hb1 hsz1 hgx
  go_wp2_with fail
  refine (New_calls _ n hn1 hn2).mono ?_
  rintro e' w2 ⟨rfl, hy2, hb2, hsz2⟩
  have hgy : w1.heap.size < w2.heap.size := by omega
  have hx2 := hx1.below hb2
  have hnexy : w.heap.size ≠ w1.heap.size := Nat.ne_of_lt hx1.lt
  have hgey : w.heap.size ≤ w1.heap.size := hc1.size
  have hc2 := bn hc1 hb2
  clear hx1 hc1 hb2 hsz2 hgy
  generalize w1.heap.size = gy at *
  go_wp2_with fail
  refine (awake_calls _).mono ?_
  rintro e' w3 ⟨rfl, hb3⟩
  have hx3 := hx2.below hb3
  have hy3 := hy2.below hb3
  have hc3 := bn hc2 hb3
  clear hx2 hy2 hc2 hb3
  have hly : (List.replicate n false).length = n := List.length_replicate
  have hfy : ∀ i, (List.replicate n false).getD i false = false := fun i => by rw [List.getD_eq_getElem?_getD, List.getElem?_replicate]; split <;> rfl
  generalize List.replicate n false = Cy at *
  have hlx := hly
  have HFy := Lib.hid hfy; clear hfy
  go_wp2
  go_loopw [59] (fun i wr => ∃ (j : Nat) (Cx : List Bool), j ≤ xs2.length ∧ i = .int .i64 j ∧ Cx.length = n ∧ Mp Cx w.heap.size wr ∧ Below w.heap.size w wr ∧ Mp Cy gy wr) (fun i _ => xs2.length - (intOf i).toNat)
  case atStart => exact ⟨0, _, by omega, rfl, hlx, hx3, hc3, hy3⟩
  case round =>
    clear hlx hc3 hx3 hy3
    obtain ⟨j, Cx, hj, rfl, hlx, hx4, hc4, hy4⟩ := hrel
    by_cases hlt : j < xs2.length
    · obtain ⟨g0, o0, rfl, hcl⟩ := HR2.out (by intro e; rw [e] at hlt; simp at hlt)
      have hxj : xs2[j]? = some xs2[j] := by simp [hlt]
      have hcj := hcl j _ hxj
      have hcr := (hc4.cell (World.block_lt_of_cell? w _ hcj)).trans hcj
      have hx256 := HX2.out j _ hxj
      clear hcj hcl hxj
      generalize xs2[j] = x at *
      go_wp2_with fail
      refine (Set_calls _ w.heap.size Cx (x : Int) hx4).mono ?_
      rintro e' w' ⟨rfl, hset', hu'⟩
      have hl2 : (setB Cx (x : Int)).length = n := by rw [setB_length]; exact hlx
      have hy' := hu'.mp (by omega) hy4
      have hc' := hc4.trans (hu'.below hgex)
      clear hu' hx4 hc4
      go_wp2
      exact ⟨⟨j + 1, _, by omega, rfl, hl2, hset', hc', hy'⟩, by simp only [intOf]; omega⟩
    · obtain rfl : j = xs2.length := by omega
      have hlex : Cx.length ≤ 256 := by omega
      have hbx := baseB_le Cx
      go_wp2_with fail
      refine (Base_calls _ w.heap.size _ hx4).mono ?_
      rintro e' w' ⟨rfl, rfl⟩
      go_wp2_with fail
      refine (Behind_calls _ w.heap.size _ (kk : Int) hx4).mono ?_
      rintro e' w5 ⟨rfl, hb5⟩
      have hx5 := hx4.below hb5
      have hy5 := hy4.below hb5
      have hc5 := bn hc4 hb5
      clear hx4 hy4 hc4 hb5
      go_wp2_with fail
      refine (Merge_calls _ gy Cy _ _ hy5 (by omega) (by omega) (tellB_small _ _)).mono ?_
      rintro e' w6 ⟨rfl, hy6, hu6⟩
      have hx6 := hu6.mp (by omega) hx5
      have hc6 := hc5.trans (hu6.below hgey)
      clear hy5 hx5 hc5 hu6
      rw [hly] at hy6
      rw [hly]
      have hS1 : ∀ i, (withB Cy (toldB (baseB Cx : Nat) (tellB Cx (kk : Int))) n).getD i false = true → Cx.getD i false = true := fun i hi => by
        have hlt := getD_lt hi
        rw [withB_length] at hlt
        rw [withB_get _ _ _ _ hlt, HFy.out, Bool.false_or, Bool.and_eq_true] at hi
        exact told_sub _ _ _ hi.2
      have hS2 : ∀ i, i < n → Cx.getD i false = true → (i < baseB Cx ∨ i < baseB Cx + 1 + upTo (kk : Int)) → (withB Cy (toldB (baseB Cx : Nat) (tellB Cx (kk : Int))) n).getD i false = true := fun i hi hx h => by
        rw [withB_get _ _ _ _ (by omega), told_has Cx _ i hx h, decide_eq_true hi]; simp
      have hlz2 : (withB Cy (toldB (baseB Cx : Nat) (tellB Cx (kk : Int))) n).length = n := by rw [withB_length]; exact hly
      have hup : upTo (kk : Int) = min kk 256 := by unfold upTo; omega
      rw [hup] at hS2
      have hcl := count_le_of _ Cx (by rw [hlz2, hlx]) hS1
      generalize withB Cy (toldB (baseB Cx : Nat) (tellB Cx (kk : Int))) n = Cz at *
      have hcli : ((Cz.count true : Nat) : Int) ≤ ((Cx.count true : Nat) : Int) := by omega
      clear hcl hup hlex
      have HS1 := Lib.hid hS1; clear hS1
      have HS2 := Lib.hid hS2; clear hS2
      go_wp2
      go_loopw [76] (fun i wr => ∃ (j : Nat), j ≤ n ∧ i = .int .i64 j ∧ wr = w6) (fun i _ => n - (intOf i).toNat)
      case atStart => exact ⟨0, by omega, rfl, rfl⟩
      case round =>
        obtain ⟨j, hj, rfl, rfl⟩ := hrel
        by_cases hlt : j < n
        · have hs1 := HS1.out j
          have hs2 := HS2.out j hlt
          have q1 := fun w h => Has_calls w gy Cz (j : Int) h
          have q2 := fun u h => Has_calls u w.heap.size Cx (j : Int) h
          have q3 := fun u h => Base_calls u w.heap.size Cx h
          simp only [hasB_nat] at q1 q2
          generalize Cz.getD j false = bz at *
          generalize Cx.getD j false = bx at *
          have Q1 := Lib.hid q1; have Q2 := Lib.hid q2; have Q3 := Lib.hid q3
          clear q1 q2 q3
          cases bz with
          | true =>
            obtain rfl : bx = true := hs1 rfl
            clear hs1 hs2
            go_wp2_with fail
            refine (Q1.out _ hy6).mono ?_
            rintro e' w' ⟨rfl, rfl⟩
            go_wp2_with fail
            refine (Q2.out _ hx6).mono ?_
            rintro e' w' ⟨rfl, rfl⟩
            go_wp2_with fail
            refine (Q1.out _ hy6).mono ?_
            rintro e' w' ⟨rfl, rfl⟩
            go_wp2
            exact ⟨⟨j + 1, by omega, rfl, trivial⟩, by simp only [intOf]; omega⟩
          | false =>
            cases bx with
            | false =>
              clear hs1 hs2
              go_wp2_with fail
              refine (Q1.out _ hy6).mono ?_
              rintro e' w' ⟨rfl, rfl⟩
              go_wp2_with fail
              refine (Q1.out _ hy6).mono ?_
              rintro e' w' ⟨rfl, rfl⟩
              go_wp2_with fail
              refine (Q2.out _ hx6).mono ?_
              rintro e' w' ⟨rfl, rfl⟩
              go_wp2
              exact ⟨⟨j + 1, by omega, rfl, trivial⟩, by simp only [intOf]; omega⟩
            | true =>
              have hno : ¬ (j < baseB Cx ∨ j < baseB Cx + 1 + min kk 256) := fun h => by have := hs2 rfl h; cases this
              have h1 : ¬ (j : Int) < ((baseB Cx : Nat) : Int) := by omega
              clear hs1 hs2
              rcases Nat.lt_or_ge 256 kk with hk | hk
              · exact absurd (Or.inr (by omega)) hno
              · have h2 : ¬ (j : Int) ≤ ((baseB Cx : Nat) : Int) + (kk : Int) := by omega
                have hki : ¬ (256 : Int) < (kk : Int) := by omega
                clear hno
                go_wp2_with fail
                refine (Q1.out _ hy6).mono ?_
                rintro e' w' ⟨rfl, rfl⟩
                go_wp2_with fail
                refine (Q1.out _ hy6).mono ?_
                rintro e' w' ⟨rfl, rfl⟩
                go_wp2_with fail
                refine (Q2.out _ hx6).mono ?_
                rintro e' w' ⟨rfl, rfl⟩
                go_wp2_with fail
                refine (Q3.out _ hx6).mono ?_
                rintro e' w' ⟨rfl, rfl⟩
                go_wp2_with fail
                refine (Q3.out _ hx6).mono ?_
                rintro e' w' ⟨rfl, rfl⟩
                go_wp2
                exact ⟨⟨j + 1, by omega, rfl, trivial⟩, by simp only [intOf]; omega⟩
        · obtain rfl : j = n := by omega
          go_wp2_with fail
          refine (Count_calls _ gy _ hy6).mono ?_
          rintro e' w' ⟨rfl, rfl⟩
          go_wp2_with fail
          refine (Count_calls _ w.heap.size _ hx6).mono ?_
          rintro e' w' ⟨rfl, rfl⟩
          go_wp2
          go_ret
          exact ⟨rfl, hc6⟩
end Go.Proofs.Ytnblpbaflcgkkaa
