/- The walk of the law SackBase: it answers true. -/
import Derived.Test.YtnblpbaflcgkkaaSackMore
namespace Go.Proofs.Ytnblpbaflcgkkaa
open Go.RowKit
set_option linter.unusedVariables false
set_option linter.unusedSimpArgs false
set_option maxRecDepth 100000 in
set_option maxHeartbeats 8000000 in
theorem SackBase_walk (a0 : Int) (v1 : Value) (xs1 : List Nat) (w : World)
    (w0 : (Lit.int .i64 a0).wf = true) (w1 : ∃ ad cap, v1 = .slice ad xs1.length cap ∧ (∀ (j : Nat) x, xs1[j]? = some x → x < 256) ∧ xs1.length ≤ 140737488351232 ∧ (xs1 ≠ [] → ∃ g o, ad = some ⟨g, o, none⟩ ∧ ∀ (j : Nat) x, xs1[j]? = some x → w.cell? ⟨g, o + j, none⟩ = some (.int .u8 (x : Int)))) :
    Calls Try.prog 5 #[.int .i64 a0, v1] w fun e w' => e = .returned (.bool true) ∧ Below w.heap.size w w' := by
  obtain ⟨c0, c1⟩ := bounds_i64 w0
  obtain ⟨U, hU⟩ : ∃ U : Nat, IntKind.u64.wrap a0 = U := by
    rw [IntKind.wrap_u64]; exact ⟨(a0 % 18446744073709551616).toNat, by omega⟩
  obtain ⟨n, hn⟩ : ∃ n : Nat, (1 + (U : Int) % 256) = (n : Int) := ⟨1 + U % 256, by omega⟩
  have hn1 : 1 ≤ n := by omega
  have hn2 : n ≤ 256 := by omega
  obtain ⟨ad1, cap1, rfl, hx1, hl1_, hr1⟩ := w1
  have HX1 := Lib.hid hx1; clear hx1
  have HR1 := Lib.hid hr1; clear hr1
  by_cases hbig : 400 < (xs1.length : Int)
  · skip
    go_enter Try.func5, Try.ntmps5
    go_wp2_with fail
    refine (New_calls _ n hn1 hn2).mono ?_
    rintro e' w1 ⟨rfl, hm1, hb1, hsz1⟩
    have hgm : w.heap.size < w1.heap.size := by omega
    have hgem : w.heap.size ≤ w.heap.size := Nat.le_refl _
    have hc1 := hb1
    clear hb1 hsz1 hgm
    go_wp2_with fail
    refine (awake_calls _).mono ?_
    rintro e' w2 ⟨rfl, hb2⟩
    have hm2 := hm1.below hb2
    have hc2 := bn hc1 hb2
    clear hm1 hc1 hb2
    go_wp2_with fail
    refine (awake_calls _).mono ?_
    rintro e' w3 ⟨rfl, hb3⟩
    have hm3 := hm2.below hb3
    have hc3 := bn hc2 hb3
    clear hm2 hc2 hb3
    go_wp2
    go_ret
    exact ⟨rfl, hc3⟩
  go_enter Try.func5, Try.ntmps5
  go_wp2_with fail
  refine (New_calls _ n hn1 hn2).mono ?_
  rintro e' w1 ⟨rfl, hm1, hb1, hsz1⟩
  have hgm : w.heap.size < w1.heap.size := by omega
  have hgem : w.heap.size ≤ w.heap.size := Nat.le_refl _
  have hc1 := hb1
  clear hb1 hsz1 hgm
  go_wp2_with fail
  refine (awake_calls _).mono ?_
  rintro e' w2 ⟨rfl, hb2⟩
  have hm2 := hm1.below hb2
  have hc2 := bn hc1 hb2
  clear hm1 hc1 hb2
  have hlm : (List.replicate n false).length = n := List.length_replicate
  generalize List.replicate n false = Cm at *
  go_wp2
  go_loopw [41] (fun i wr => ∃ (j : Nat) (C : List Bool), j ≤ xs1.length ∧ i = .int .i64 j ∧ C.length = n ∧ Mp C w.heap.size wr ∧ Below w.heap.size w wr) (fun i _ => xs1.length - (intOf i).toNat)
  case atStart => exact ⟨0, _, by omega, rfl, hlm, hm2, hc2⟩
  case round =>
    clear hlm hm2 hc2
    obtain ⟨j, C, hj, rfl, hl, hm, hc⟩ := hrel
    by_cases hlt : j < xs1.length
    · obtain ⟨g0, o0, rfl, hcl⟩ := HR1.out (by intro e; rw [e] at hlt; simp at hlt)
      have hxj : xs1[j]? = some xs1[j] := by simp [hlt]
      have hcj := hcl j _ hxj
      have hcr := (hc.cell (World.block_lt_of_cell? w _ hcj)).trans hcj
      have hx256 := HX1.out j _ hxj
      clear hcj hcl hxj
      generalize xs1[j] = x at *
      have hset := Set_calls wr w.heap.size C (x : Int) hm
      have hl2 : (setB C (x : Int)).length = n := by rw [setB_length]; exact hl
      have hmono : baseB C ≤ baseB (setB C (x : Int)) := baseB_mono _ _ (fun i hi => setB_mono C (x : Int) i hi)
      have hris := base_rises C x
      have hbl := baseB_le (setB C (x : Int))
      have hbel := baseB_below (setB C (x : Int))
      have hbat := baseB_at (setB C (x : Int))
      have hhas : newI C (x : Int) = true → hasB (setB C (x : Int)) (x : Int) = true := by
        intro h
        unfold newI at h
        simp only [Bool.and_eq_true, decide_eq_true_eq] at h
        rw [hasB_nat, setB_get _ _ _ (by omega)]; simp
      have hold : newI C (x : Int) = false → baseB (setB C (x : Int)) = baseB C := fun h => by rw [setB_old C (x : Int) h]
      have hbase := fun u h => Base_calls u w.heap.size (setB C (x : Int)) h
      have hhs := fun u i h => Has_calls u w.heap.size (setB C (x : Int)) i h
      rw [hl2] at hbl
      have hbm := baseB_le C
      rw [hl] at hbm
      generalize setB C (x : Int) = D at *
      have hb0 := Base_calls wr w.heap.size C hm
      obtain ⟨b, hb⟩ : ∃ b, baseB C = b := ⟨_, rfl⟩
      obtain ⟨b', hb'⟩ : ∃ b', baseB D = b' := ⟨_, rfl⟩
      rw [hb] at hb0 hmono hris hold hbm
      rw [hb'] at hmono hris hbl hbel hbat hold hbase
      have HSet := Lib.hid hset; clear hset
      have HB0 := Lib.hid hb0; clear hb0 hb hb' hm
      have HBase := Lib.hid hbase; clear hbase
      have HHs := Lib.hid hhs; clear hhs
      have HBel := Lib.hid hbel; clear hbel
      have HBat := Lib.hid hbat; clear hbat
      have HHas := Lib.hid hhas; clear hhas
      have hbb : b' ≤ n := hbl
      have hnlt : ¬ (b' : Int) < (b : Int) := by omega
      cases hnew : newI C (x : Int) with
      | false =>
        obtain rfl : b' = b := hold hnew
        have hngt : ¬ (b' : Int) < (b' : Int) := by omega
        clear hris hold hmono
        go_wp2_with fail
        refine HB0.out.mono ?_
        rintro e' w' ⟨rfl, rfl⟩
        go_wp2_with fail
        refine HSet.out.mono ?_
        rintro e' w2 ⟨rfl, hm2, hu2⟩
        rw [hnew]
        have hc2 := hc.trans (hu2.below (Nat.le_refl _))
        clear hu2 hc
        go_wp2_with fail
        refine (HBase.out _ hm2).mono ?_
        rintro e' w' ⟨rfl, rfl⟩
        clear hnew
        go_wp2
        go_loopw [82] (fun i wr => ∃ (k : Nat), k ≤ b' ∧ i = .int .i64 k ∧ wr = w2) (fun i _ => b' - (intOf i).toNat)
        case atStart => exact ⟨0, by omega, rfl, rfl⟩
        case round =>
          obtain ⟨k, hk, rfl, rfl⟩ := hrel
          by_cases hkb : k < b'
          · have hhk := HBel.out k hkb
            have hq := HHs.out wr (k : Int) hm2
            rw [hasB_nat, hhk] at hq
            have Hq := Lib.hid hq; clear hq hhk
            go_wp2_with fail
            refine Hq.out.mono ?_
            rintro e' w' ⟨rfl, rfl⟩
            go_wp2
            exact ⟨⟨k + 1, by omega, rfl, trivial⟩, by simp only [intOf]; omega⟩
          · obtain rfl : k = b' := by omega
            have hq := HHs.out wr (k : Int) hm2
            rw [hasB_nat, HBat.out] at hq
            have Hq := Lib.hid hq; clear hq
            by_cases hkn : k < n
            · go_wp2_with fail
              refine Hq.out.mono ?_
              rintro e' w' ⟨rfl, rfl⟩
              go_wp2
              exact ⟨⟨j + 1, _, by omega, rfl, hl2, hm2, hc2⟩, by simp only [intOf]; omega⟩
            · go_wp2
              exact ⟨⟨j + 1, _, by omega, rfl, hl2, hm2, hc2⟩, by simp only [intOf]; omega⟩
      | true =>
        by_cases hup : b < b'
        · obtain ⟨-, hxb⟩ := hris hup
          have hgt : (b : Int) < (b' : Int) := by omega
          have hne : (((x : Nat) : Int) != ((b : Nat) : Int)) = false := by rw [hxb]; simp
          have hnlt2 : ¬ b' < b := by omega
          have hgt2 : b < b' := hup
          clear hxb
          clear hris hold hmono hup
          go_wp2_with fail
          refine HB0.out.mono ?_
          rintro e' w' ⟨rfl, rfl⟩
          go_wp2_with fail
          refine HSet.out.mono ?_
          rintro e' w2 ⟨rfl, hm2, hu2⟩
          rw [hnew]
          have hc2 := hc.trans (hu2.below (Nat.le_refl _))
          clear hu2 hc
          go_wp2_with fail
          refine (HBase.out _ hm2).mono ?_
          rintro e' w' ⟨rfl, rfl⟩
          go_wp2_with fail
          refine (HHs.out _ _ hm2).mono ?_
          rintro e' w' ⟨rfl, rfl⟩
          rw [HHas.out hnew]
          clear hnew
          go_wp2
          go_loopw [82] (fun i wr => ∃ (k : Nat), k ≤ b' ∧ i = .int .i64 k ∧ wr = w2) (fun i _ => b' - (intOf i).toNat)
          case atStart => exact ⟨0, by omega, rfl, rfl⟩
          case round =>
            obtain ⟨k, hk, rfl, rfl⟩ := hrel
            by_cases hkb : k < b'
            · have hhk := HBel.out k hkb
              have hq := HHs.out wr (k : Int) hm2
              rw [hasB_nat, hhk] at hq
              have Hq := Lib.hid hq; clear hq hhk
              go_wp2_with fail
              refine Hq.out.mono ?_
              rintro e' w' ⟨rfl, rfl⟩
              go_wp2
              exact ⟨⟨k + 1, by omega, rfl, trivial⟩, by simp only [intOf]; omega⟩
            · obtain rfl : k = b' := by omega
              have hq := HHs.out wr (k : Int) hm2
              rw [hasB_nat, HBat.out] at hq
              have Hq := Lib.hid hq; clear hq
              by_cases hkn : k < n
              · go_wp2_with fail
                refine Hq.out.mono ?_
                rintro e' w' ⟨rfl, rfl⟩
                go_wp2
                exact ⟨⟨j + 1, _, by omega, rfl, hl2, hm2, hc2⟩, by simp only [intOf]; omega⟩
              · go_wp2
                exact ⟨⟨j + 1, _, by omega, rfl, hl2, hm2, hc2⟩, by simp only [intOf]; omega⟩
        · obtain rfl : b' = b := by omega
          have hngt : ¬ (b' : Int) < (b' : Int) := by omega
          clear hris hold hmono hup
          go_wp2_with fail
          refine HB0.out.mono ?_
          rintro e' w' ⟨rfl, rfl⟩
          go_wp2_with fail
          refine HSet.out.mono ?_
          rintro e' w2 ⟨rfl, hm2, hu2⟩
          rw [hnew]
          have hc2 := hc.trans (hu2.below (Nat.le_refl _))
          clear hu2 hc
          go_wp2_with fail
          refine (HBase.out _ hm2).mono ?_
          rintro e' w' ⟨rfl, rfl⟩
          go_wp2_with fail
          refine (HHs.out _ _ hm2).mono ?_
          rintro e' w' ⟨rfl, rfl⟩
          rw [HHas.out hnew]
          clear hnew
          go_wp2
          go_loopw [82] (fun i wr => ∃ (k : Nat), k ≤ b' ∧ i = .int .i64 k ∧ wr = w2) (fun i _ => b' - (intOf i).toNat)
          case atStart => exact ⟨0, by omega, rfl, rfl⟩
          case round =>
            obtain ⟨k, hk, rfl, rfl⟩ := hrel
            by_cases hkb : k < b'
            · have hhk := HBel.out k hkb
              have hq := HHs.out wr (k : Int) hm2
              rw [hasB_nat, hhk] at hq
              have Hq := Lib.hid hq; clear hq hhk
              go_wp2_with fail
              refine Hq.out.mono ?_
              rintro e' w' ⟨rfl, rfl⟩
              go_wp2
              exact ⟨⟨k + 1, by omega, rfl, trivial⟩, by simp only [intOf]; omega⟩
            · obtain rfl : k = b' := by omega
              have hq := HHs.out wr (k : Int) hm2
              rw [hasB_nat, HBat.out] at hq
              have Hq := Lib.hid hq; clear hq
              by_cases hkn : k < n
              · go_wp2_with fail
                refine Hq.out.mono ?_
                rintro e' w' ⟨rfl, rfl⟩
                go_wp2
                exact ⟨⟨j + 1, _, by omega, rfl, hl2, hm2, hc2⟩, by simp only [intOf]; omega⟩
              · go_wp2
                exact ⟨⟨j + 1, _, by omega, rfl, hl2, hm2, hc2⟩, by simp only [intOf]; omega⟩
    · obtain rfl : j = xs1.length := by omega
      have hmc := miss_count C
      have hcount := Count_calls wr w.heap.size C hm
      have hmiss := Missing_calls wr w.heap.size C 0 (n : Int) hm (by omega)
      rw [hl] at hmc hmiss
      have hsum : ((C.count true : Nat) : Int) + ((missB C 0 (n : Int) n).length : Int) = (n : Int) := by omega
      have hml : (missB C 0 (n : Int) n).length ≤ 256 := by omega
      have hcn : C.count true ≤ 256 := by omega
      have HC := Lib.hid hcount; clear hcount hmc
      have HMs := Lib.hid hmiss; clear hmiss
      generalize missB C 0 (n : Int) n = l at *
      go_wp2_with fail
      refine HC.out.mono ?_
      rintro e' w' ⟨rfl, rfl⟩
      go_wp2_with fail
      refine HMs.out.mono ?_
      rintro e' w2 ⟨v, rfl, hown, hb2⟩
      obtain ⟨ad, cap, rfl⟩ : ∃ ad cap, v = .slice ad l.length cap := by
        rcases hown.2 with ⟨rfl, h0⟩ | ⟨g, cap, cur, rfl, _⟩
        · exact ⟨none, 0, by rw [h0]⟩
        · exact ⟨_, cap, rfl⟩
      go_wp2
      go_ret
      exact ⟨rfl, bn hc hb2⟩
end Go.Proofs.Ytnblpbaflcgkkaa
