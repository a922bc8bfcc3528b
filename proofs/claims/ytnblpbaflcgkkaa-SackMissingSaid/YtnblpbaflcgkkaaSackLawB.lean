/- The walk of the law SackMissing: it answers true. -/
import Derived.Test.YtnblpbaflcgkkaaSackMore
namespace Go.Proofs.Ytnblpbaflcgkkaa
open Go.RowKit
set_option linter.unusedVariables false
set_option linter.unusedSimpArgs false
/-- Where a list's numbers lie. -/
def LV (l : List Nat) (ad : Option Addr) (g0 : Nat) (w : World) : Prop := ∀ (j x : Nat), l[j]? = some x → ∃ gv, ad = some ⟨gv, 0, none⟩ ∧ gv ≠ g0 ∧ gv < w.heap.size ∧ w.cell? ⟨gv, j, none⟩ = some (.int .i64 (x : Int))
theorem LV.below {l : List Nat} {ad : Option Addr} {g0 : Nat} {w w' : World} (h : LV l ad g0 w) (hb : Below w.heap.size w w') : LV l ad g0 w' := fun j x hx => by
  obtain ⟨gv, h1, h2, h3, h4⟩ := h j x hx
  exact ⟨gv, h1, h2, Nat.lt_of_lt_of_le h3 hb.size, (hb.cell (p := ⟨gv, j, none⟩) h3).trans h4⟩
theorem LV.upd {l : List Nat} {ad : Option Addr} {g0 : Nat} {w w' : World} (h : LV l ad g0 w) (hu : Upd g0 w w') : LV l ad g0 w' := fun j x hx => by
  obtain ⟨gv, h1, h2, h3, h4⟩ := h j x hx
  exact ⟨gv, h1, h2, by rw [hu.size]; exact h3, (World.cell?_of_block (w := w) (hu.other gv h2)).trans h4⟩
theorem mem_take_succ (l : List Nat) (j : Nat) (h : j < l.length) (k : Nat) : k ∈ l.take (j + 1) ↔ k ∈ l.take j ∨ k = l[j] := by
  rw [List.take_succ_eq_append_getElem h, List.mem_append, List.mem_singleton]
theorem not_in_take (l : List Nat) (j : Nat) (h : j < l.length) (hn : l.Nodup) : l[j] ∉ l.take j := by
  intro hm
  have e := List.take_append_drop j l
  rw [← e, List.nodup_append] at hn
  exact hn.2.2 _ hm l[j] (by rw [List.drop_eq_getElem_cons h]; exact List.mem_cons_self) rfl
set_option maxRecDepth 100000 in
set_option maxHeartbeats 8000000 in
theorem SackMissing_walk (a0 : Int) (v1 : Value) (xs1 : List Nat) (w : World)
    (w0 : (Lit.int .i64 a0).wf = true) (w1 : ∃ ad cap, v1 = .slice ad xs1.length cap ∧ (∀ (j : Nat) x, xs1[j]? = some x → x < 256) ∧ xs1.length ≤ 140737488351232 ∧ (xs1 ≠ [] → ∃ g o, ad = some ⟨g, o, none⟩ ∧ ∀ (j : Nat) x, xs1[j]? = some x → w.cell? ⟨g, o + j, none⟩ = some (.int .u8 (x : Int)))) :
    Calls Try.prog 4 #[.int .i64 a0, v1] w fun e w' => e = .returned (.bool true) ∧ Below w.heap.size w w' := by
  obtain ⟨c0, c1⟩ := bounds_i64 w0
  obtain ⟨U, hU⟩ : ∃ U : Nat, IntKind.u64.wrap a0 = U := by
    rw [IntKind.wrap_u64]; exact ⟨(a0 % 18446744073709551616).toNat, by omega⟩
  obtain ⟨n, hn⟩ : ∃ n : Nat, (1 + (U : Int) % 256) = (n : Int) := ⟨1 + U % 256, by omega⟩
  have hn1 : 1 ≤ n := by omega
  have hn2 : n ≤ 256 := by omega
  obtain ⟨ad1, cap1, rfl, hx1, hl1_, hr1⟩ := w1
  have HX1 := Lib.hid hx1; clear hx1
  have HR1 := Lib.hid hr1; clear hr1
  by_cases hbig : 300 < (xs1.length : Int)
  · skip
    go_enter Try.func4, Try.ntmps4
    go_wp2_with fail
    refine (New_calls _ n hn1 hn2).mono ?_
    rintro e' w1 ⟨rfl, hm1, hb1, hsz1⟩
    have hgm : w.heap.size < w1.heap.size := by omega
    have hgem : w.heap.size ≤ w.heap.size := Nat.le_refl _
    have hc1 := hb1
    clear hb1 hsz1 hgm
    go_wp2_with fail
    refine (awake_calls _).mono ?_
    rintro e' w2 ⟨rfl, hb2⟩
    have hm2 := hm1.below hb2
    have hc2 := bn hc1 hb2
    clear hm1 hc1 hb2
    go_wp2_with fail
    refine (awake_calls _).mono ?_
    rintro e' w3 ⟨rfl, hb3⟩
    have hm3 := hm2.below hb3
    have hc3 := bn hc2 hb3
    clear hm2 hc2 hb3
    go_wp2
    go_ret
    exact ⟨rfl, hc3⟩
  · skip
    go_enter Try.func4, Try.ntmps4
    go_wp2_with fail
    refine (New_calls _ n hn1 hn2).mono ?_
    rintro e' w1 ⟨rfl, hm1, hb1, hsz1⟩
    have hgm : w.heap.size < w1.heap.size := by omega
    have hgem : w.heap.size ≤ w.heap.size := Nat.le_refl _
    have hc1 := hb1
    clear hb1 hsz1 hgm
    go_wp2_with fail
    refine (awake_calls _).mono ?_
    rintro e' w2 ⟨rfl, hb2⟩
    have hm2 := hm1.below hb2
    have hc2 := bn hc1 hb2
    clear hm1 hc1 hb2
    have hlm : (List.replicate n false).length = n := List.length_replicate
    generalize List.replicate n false = Cm at *
    go_wp2
    go_loopw [40] (fun i wr => ∃ (j : Nat) (Cm : List Bool), j ≤ xs1.length ∧ i = .int .i64 j ∧ Cm.length = n ∧ Mp Cm w.heap.size wr ∧ Below w.heap.size w wr) (fun i _ => xs1.length - (intOf i).toNat)
    case atStart => exact ⟨0, _, by omega, rfl, hlm, hm2, hc2⟩
    case round =>
      clear hlm hc2 hm2
      obtain ⟨j, Cm, hj, rfl, hlm, hm3, hc3⟩ := hrel
      by_cases hlt : j < xs1.length
      · obtain ⟨g0, o0, rfl, hcl⟩ := HR1.out (by intro e; rw [e] at hlt; simp at hlt)
        have hxj : xs1[j]? = some xs1[j] := by simp [hlt]
        have hcj := hcl j _ hxj
        have hcr := (hc3.cell (World.block_lt_of_cell? w _ hcj)).trans hcj
        have hx256 := HX1.out j _ hxj
        clear hcj hcl hxj
        generalize xs1[j] = x at *
        go_wp2_with fail
        refine (Set_calls _ w.heap.size Cm (x : Int) hm3).mono ?_
        rintro e' w' ⟨rfl, hset', hu'⟩
        have hl2 : (setB Cm (x : Int)).length = n := by rw [setB_length]; exact hlm
        have hc' := hc3.trans (hu'.below hgem)
        clear hu' hm3 hc3
        go_wp2
        exact ⟨⟨j + 1, _, by omega, rfl, hl2, hset', hc'⟩, by simp only [intOf]; omega⟩
      · obtain rfl : j = xs1.length := by omega
        have hlt3 := hm3.lt
        have hcnt := miss_count Cm
        have hhead := miss_head Cm
        have hmem := mem_miss Cm
        have hnd := nodup_miss Cm 0 (Cm.length : Nat) Cm.length
        rw [hlm] at hcnt hhead hmem hnd
        go_wp2_with fail
        refine (Missing_calls _ w.heap.size _ 0 (n : Int) hm3 (by omega)).mono ?_
        rintro e' w4 ⟨v, rfl, hown, hb4⟩
        rw [hlm] at hown
        have hm4 := hm3.below hb4
        have hc4 := bn hc3 hb4
        clear hm3 hc3 hb4
        have Hcnt := Lib.hid hcnt; clear hcnt
        have Hhead := Lib.hid hhead; clear hhead
        have Hmem := Lib.hid hmem; clear hmem
        have Hnd := Lib.hid hnd; clear hnd
        generalize missB Cm 0 (n : Int) n = l at *
        have hll : l.length ≤ n := by have := Hcnt.out; omega
        have hlv : ∃ ad cap, v = .slice ad l.length cap ∧ LV l ad w.heap.size w4 := by
          by_cases hl0 : l.length = 0
          · rcases hown.2 with ⟨rfl, _⟩ | ⟨g, cap, cur, rfl, _⟩
            · exact ⟨none, 0, by rw [hl0], fun j x h => by have := (List.getElem?_eq_some_iff.1 h).1; omega⟩
            · exact ⟨_, cap, rfl, fun j x h => by have := (List.getElem?_eq_some_iff.1 h).1; omega⟩
          · obtain ⟨gv, cv, rfl, hgv, hgl⟩ := hown.form (by omega)
            refine ⟨_, cv, rfl, fun j x h => ⟨gv, rfl, by omega, hgl, ?_⟩⟩
            have h2 := hown.cells (g := gv) rfl j _ (intsV_get _ j x h)
            rwa [Addr.add_lit, Nat.zero_add] at h2
        obtain ⟨adv, cpv, rfl, hlv⟩ := hlv
        clear hown
        have hin : (l.length : Int) + ((Cm.count true : Nat) : Int) = (n : Int) := by have := Hcnt.out; omega
        have hq0 : ∀ d os, Mp Cm w.heap.size (Go.Sort.grow (redrawn w4 d) os) := fun d os => hm4.below (below_regrown w4 d os)
        have Hq0 := Lib.hid hq0; clear hq0
        have hcnt2 := fun u h => Calls.below_of_same (Count_calls u w.heap.size Cm h)
        have hbas2 := fun u h => Calls.below_of_same (Base_calls u w.heap.size Cm h)
        have HC2 := Lib.hid hcnt2; clear hcnt2
        have HB2 := Lib.hid hbas2; clear hbas2
        have hlvk := Lib.hid hlv; clear hlv
        have hwr : IntKind.i64.wrap (n : Int) = (n : Int) := IntWalk.i64_in _ (by omega)
        have hneq : ((baseB Cm : Int) != (baseB Cm : Int)) = false := by simp
        by_cases hl0 : l.length = 0
        · skip
          have Hl0 := Lib.hid hl0; clear hl0
          go_wp2_with fail
          refine wp_region_quiet_below (by kernel_rfl) (by kernel_rfl) ?_
          quiet_step (fail)
          quiet_step (fail)
          quiet_step (fail)
          quiet_step (with_reducible exact Calls.regrown_of (HC2.out _ (Hq0.out _ _)))
          quiet_step (fail)
          quiet_step (fail)
          quiet_step (fail)
          quiet_step (fail)
          quiet_step (fail)
          quiet_step (fail)
          quiet_step (fail)
          quiet_step (fail)
          have hpi : ¬ (0 : Int) < (l.length : Int) := by have := Hl0.out; omega
          have hpn : ¬ 0 < l.length := by have := Hl0.out; omega
          repeat (quiet_step (first | (with_reducible exact Calls.regrown_of (HC2.out _ (Hq0.out _ _))) | (with_reducible exact Calls.regrown_of (HB2.out _ (Hq0.out _ _)))))
          refine wpQuiet_nil ?_
          rintro w' ⟨p, rfl⟩
          have hbq := below_regrown w4 p.d p.os
          generalize Go.Sort.grow (redrawn w4 p.d) p.os = w5 at hbq ⊢
          have hm5 := hm4.below hbq
          have hlv5 := hlvk.out.below hbq
          have hc5 := bn hc4 hbq
          clear hm4 hlvk hc4 hbq Hq0
          have hD0 : ∀ k, k < n → Cm.getD k false = (Cm.getD k false || decide (k ∈ l.take 0)) := fun k _ => by simp
          go_wp2
          go_loopw [74] (fun i wr => ∃ (j : Nat) (D : List Bool), j ≤ l.length ∧ i = .int .i64 j ∧ D.length = n ∧ (∀ k, k < n → D.getD k false = (Cm.getD k false || decide (k ∈ l.take j))) ∧ Mp D w.heap.size wr ∧ LV l adv w.heap.size wr ∧ Below w.heap.size w wr) (fun i _ => l.length - (intOf i).toNat)
          case atStart => exact ⟨0, _, by omega, rfl, hlm, hD0, hm5, hlv5, hc5⟩
          case round =>
            clear hm5 hlv5 hc5 hD0
            obtain ⟨j, D, hj, rfl, hDl, hDg, hm6, hlv6, hc6⟩ := hrel
            by_cases hlt : j < l.length
            · exact absurd hlt (by have := Hl0.out; omega)
            · obtain rfl : j = l.length := by omega
              have hall := all_true D (fun k hk => by
                rw [hDl] at hk
                rw [hDg k hk]
                rw [List.take_length]; have hz := (Hmem.out k)
                cases hck : Cm.getD k false with
                | true => rfl
                | false => have := hz.2 ⟨hk, hck⟩; simpa using this)
              rw [hDl] at hall
              have hfl := Full_calls wr w.heap.size D hm6
              rw [decide_eq_true (by rw [hall.1, hDl])] at hfl
              have HFl := Lib.hid hfl; clear hfl
              have Hall := Lib.hid hall; clear hall hDg
              go_wp2_with fail
              refine HFl.out.mono ?_
              rintro e' w7 ⟨rfl, hb7⟩
              have hm7 := hm6.below hb7
              have hc7 := bn hc6 hb7
              clear hm6 hc6 hb7 hlv6 HFl
              go_wp2_with fail
              refine (Base_calls _ w.heap.size _ hm7).mono ?_
              rintro e' w8 ⟨rfl, rfl⟩
              rw [Hall.out.1]
              go_wp2_with fail
              refine (Count_calls _ w.heap.size _ hm7).mono ?_
              rintro e' w8 ⟨rfl, rfl⟩
              rw [Hall.out.2]
              go_wp2
              go_ret
              exact ⟨rfl, hc7⟩
        · skip
          have hpos : 0 < l.length := by omega
          have hpi : (0 : Int) < (l.length : Int) := by omega
          obtain ⟨gv, rfl, hgv1, hgv2, hgv3⟩ := hlvk.out 0 _ (Hhead.out (by intro e; rw [e] at hl0; exact hl0 rfl))
          have q0 := cell_regrown hgv3
          clear hgv1 hgv2 hgv3 hl0
          go_wp2_with fail
          refine wp_region_quiet_below (by kernel_rfl) (by kernel_rfl) ?_
          repeat (quiet_step (first | (with_reducible exact Calls.regrown_of (HC2.out _ (Hq0.out _ _))) | (with_reducible exact Calls.regrown_of (HB2.out _ (Hq0.out _ _)))))
          refine wpQuiet_nil ?_
          rintro w' ⟨p, rfl⟩
          have hbq := below_regrown w4 p.d p.os
          generalize Go.Sort.grow (redrawn w4 p.d) p.os = w5 at hbq ⊢
          clear q0
          have hm5 := hm4.below hbq
          have hlv5 := hlvk.out.below hbq
          have hc5 := bn hc4 hbq
          clear hm4 hlvk hc4 hbq Hq0
          have hD0 : ∀ k, k < n → Cm.getD k false = (Cm.getD k false || decide (k ∈ l.take 0)) := fun k _ => by simp
          go_wp2
          go_loopw [74] (fun i wr => ∃ (j : Nat) (D : List Bool), j ≤ l.length ∧ i = .int .i64 j ∧ D.length = n ∧ (∀ k, k < n → D.getD k false = (Cm.getD k false || decide (k ∈ l.take j))) ∧ Mp D w.heap.size wr ∧ LV l (some ⟨gv, 0, none⟩) w.heap.size wr ∧ Below w.heap.size w wr) (fun i _ => l.length - (intOf i).toNat)
          case atStart => exact ⟨0, _, by omega, rfl, hlm, hD0, hm5, hlv5, hc5⟩
          case round =>
            clear hm5 hlv5 hc5 hD0
            obtain ⟨j, D, hj, rfl, hDl, hDg, hm6, hlv6, hc6⟩ := hrel
            by_cases hlt : j < l.length
            · have hlj : l[j]? = some l[j] := by simp [hlt]
              obtain ⟨gv2, hgv, hg1, hg2, hcell⟩ := hlv6 j _ hlj
              obtain rfl : gv = gv2 := by cases hgv; rfl
              have hmemj := (Hmem.out l[j]).1 (List.getElem_mem hlt)
              have hnotin : l[j] ∉ l.take j := not_in_take l j hlt Hnd.out
              have hnew : newI D (l[j] : Int) = true := by
                unfold newI
                rw [hasB_nat, hDg _ hmemj.1, hmemj.2, decide_eq_false hnotin, decide_eq_true (by omega), decide_eq_true (by omega)]; rfl
              have hstep : ∀ k, k < n → (setB D (l[j] : Int)).getD k false = (Cm.getD k false || decide (k ∈ l.take (j + 1))) := fun k hk => by
                rw [setB_get _ _ _ (by omega), hDg k hk]
                have hmt := mem_take_succ l j hlt k
                by_cases e1 : k = l[j]
                · rw [decide_eq_true e1, decide_eq_true (hmt.2 (Or.inr e1))]; simp
                · rw [decide_eq_false e1]
                  by_cases e2 : k ∈ l.take j
                  · rw [decide_eq_true e2, decide_eq_true (hmt.2 (Or.inl e2))]; simp
                  · rw [decide_eq_false e2, decide_eq_false (fun h => (hmt.1 h).elim e2 e1)]; simp
              have HStep := Lib.hid hstep; clear hstep
              have hset := Set_calls wr w.heap.size D (l[j] : Int) hm6
              rw [hnew] at hset
              have HSet := Lib.hid hset; clear hset hnew hnotin hlj hDg
              generalize l[j] = x at *
              go_wp2_with fail
              refine HSet.out.mono ?_
              rintro e' w' ⟨rfl, hm', hu'⟩
              have hl2 : (setB D (x : Int)).length = n := by rw [setB_length]; exact hDl
              have hlv' := hlv6.upd hu'
              have hc' := hc6.trans (hu'.below (Nat.le_refl _))
              clear hu' hm6 hc6 hlv6 HSet
              go_wp2
              exact ⟨⟨j + 1, _, by omega, rfl, hl2, HStep.out, hm', hlv', hc'⟩, by simp only [intOf]; omega⟩
            · obtain rfl : j = l.length := by omega
              have hall := all_true D (fun k hk => by
                rw [hDl] at hk
                rw [hDg k hk]
                rw [List.take_length]; have hz := (Hmem.out k)
                cases hck : Cm.getD k false with
                | true => rfl
                | false => have := hz.2 ⟨hk, hck⟩; simpa using this)
              rw [hDl] at hall
              have hfl := Full_calls wr w.heap.size D hm6
              rw [decide_eq_true (by rw [hall.1, hDl])] at hfl
              have HFl := Lib.hid hfl; clear hfl
              have Hall := Lib.hid hall; clear hall hDg
              go_wp2_with fail
              refine HFl.out.mono ?_
              rintro e' w7 ⟨rfl, hb7⟩
              have hm7 := hm6.below hb7
              have hc7 := bn hc6 hb7
              clear hm6 hc6 hb7 hlv6 HFl
              go_wp2_with fail
              refine (Base_calls _ w.heap.size _ hm7).mono ?_
              rintro e' w8 ⟨rfl, rfl⟩
              rw [Hall.out.1]
              go_wp2_with fail
              refine (Count_calls _ w.heap.size _ hm7).mono ?_
              rintro e' w8 ⟨rfl, rfl⟩
              rw [Hall.out.2]
              go_wp2
              go_ret
              exact ⟨rfl, hc7⟩
end Go.Proofs.Ytnblpbaflcgkkaa
