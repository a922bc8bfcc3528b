/- The walk of the law SenderPlays. (Printed by wip/print/senplays.py.) -/
import Derived.Test.YtcmgmdgeimmbeaaSenPlayF
namespace Go.Proofs.Ytcmgmdgeimmbeaa
open Go.RowKit Go.Sort
set_option linter.unusedVariables false
set_option linter.unusedSimpArgs false
def MpPost (B : List Bool) (u : Value) (w : World) : Prop := ∃ g, u = .pointer (some ⟨g, 0, none⟩) ∧ Mp B g w
theorem MpPost.grows {B : List Bool} {u : Value} {w w' : World} (h : MpPost B u w) (hg : Lib.Grows w w') : MpPost B u w' := by
  obtain ⟨g, h1, h2⟩ := h
  exact ⟨g, h1, h2.below hg⟩
set_option maxRecDepth 100000 in
set_option maxHeartbeats 16000000 in
theorem SenderPlays_main (ses ep : Int) (C : List ByteArray) (ad0 : Option Addr) (cap0 : Nat) (xs : List (Int × Fr)) (adx : Option Addr) (capx : Nat) (w : World) (hs : Strs C ad0 w) (hn0 : C.length ≤ 9223372036854775807) (hsp : ∀ a, ad0 = some a → a.spot = none)
    (hfew : fewB C = true) (h200 : xs.length ≤ 200) (hmay : mayB ses ep C = true) (hxs : xs ≠ [] → ∃ g o, adx = some ⟨g, o, none⟩ ∧ ∀ (j : Nat) x, xs[j]? = some x → SpCells w g (o + j * 7) x) :
    Calls Try.prog 8 #[.int .i64 ses, .int .i64 ep, .slice ad0 C.length cap0, .slice adx xs.length capx] w fun e w' => e = .returned (.bool true) ∧ Below w.heap.size w w' := by
  have hf := fun w h => Few_calls w C ad0 cap0 h hn0
  rw [hfew] at hf
  have hm := fun w h => May_calls w ses ep C ad0 cap0 h hn0
  rw [hmay] at hm
  obtain ⟨m1, m2, m3, m4, hn1, hn2, hc1000⟩ := mayB_true hmay
  have hnew := fun w ad cap h => SNew_good w ses ep C ad cap h m1 m2 m3 m4 hn1 hn2 hc1000
  have hrn := fun w h => RNew_calls w ses ep C ad0 cap0 h hn1 hn2
  have hclt := hs.block_lt hn1
  have HF := Lib.hid hf; have HM := Lib.hid hm; have HNEW := Lib.hid hnew; have HRN := Lib.hid hrn; have HSTR := Lib.hid hs; have HXS := Lib.hid hxs
  have HC0 : Hid (∀ x, ad0 = some x → x.block < w.heap.size ∧ x.spot = none) := Lib.hid (fun x hx => ⟨hclt x hx, hsp x hx⟩)
  clear hf hm hnew hrn hs hxs hclt hsp hfew hmay m1 m2 m3 m4 hc1000
  have d1 : decide (200 < (xs.length : Int)) = false := decide_eq_false (by omega)
  go_enter Try.func8, Try.ntmps8
  go_wp2_with fail
  refine (awake_calls _).mono ?_
  rintro e w1 ⟨rfl, hb1⟩
  go_wp2_with fail
  refine (HF.out _ (HSTR.out.below hb1)).mono ?_
  rintro e w2 ⟨rfl, rfl⟩
  have HS1 := Lib.hid (HSTR.out.below hb1)
  go_wp2_with (with_reducible refine wpList_mark (o := ⟨some 37, _, _, _, _, _⟩) ?_)
  refine Marked.intro ?_
  refine wpList_copy rfl _ _ (by rfl) C ad0 cap0 (by rfl) (by rfl) HS1.out hn1 (by omega) ?_
  intro gc0 cap1 w2 hs2 hb2
  have HS2 := Lib.hid hs2
  have HS3 := Lib.hid (HS1.out.below hb2)
  have HB2 := Lib.hid (bn hb1 hb2)
  clear hb1 hb2 hs2 HS1 HF
  go_wp2_with fail
  refine (HNEW.out _ _ _ HS2.out).mono ?_
  rintro e w3 ⟨a, rfl, hs3, hb3, hk3⟩
  have HS := Lib.hid hs3
  have HS4 := Lib.hid (HS3.out.below hb3)
  have HAK : Hid (∀ k ∈ a.all, w.heap.size ≤ k) := Lib.hid fun k hk => Nat.le_trans HB2.out.size (hk3 k hk)
  have HB3 := Lib.hid (bn HB2.out hb3)
  clear hs3 hb3 hk3 HNEW HS2 HS3 HB2
  go_wp2_with fail
  refine (HM.out _ HS4.out).mono ?_
  rintro e w4 ⟨rfl, rfl⟩
  go_wp2_with fail
  refine (HRN.out _ HS4.out).mono ?_
  unfold RNewPost
  rintro e w4 ⟨r, rfl, hr, hb4, hk4, had⟩
  have hal := HS.out.lt
  have HK : Hid (∀ k ∈ r.all, w.heap.size ≤ k ∧ k ∉ a.all) := Lib.hid fun k hk => ⟨Nat.le_trans HB3.out.size (hk4 k hk), fun h2 => by have := hal k h2; have := hk4 k hk; omega⟩
  have HS0 := Lib.hid (HS.out.below hb4 (Nat.le_refl _)); have HR := Lib.hid hr; have HB := Lib.hid (bn HB3.out hb4); have HA := Lib.hid had
  obtain ⟨rg, hrg⟩ : ∃ rg, r.g = rg := ⟨_, rfl⟩
  rw [hrg]
  have HG := Lib.hid hrg
  have h8 : ∀ i, (Sn.start ses ep C).T.getD i 0 ≤ 8 := fun i => by
    show (List.replicate C.length 0).getD i 0 ≤ 8
    rw [List.getD_eq_getElem?_getD, List.getElem?_replicate]; split <;> simp
  have H8 := Lib.hid h8
  have HNOW : Hid ((Sn.start ses ep C).now ≤ 0) := Lib.hid (Nat.le_refl _)
  obtain ⟨N, hN⟩ : ∃ N, C.length = N := ⟨_, rfl⟩
  have HN : Hid ((Sn.start ses ep C).B.length = N) := Lib.hid (by rw [← hN]; simp [Sn.start])
  rw [hN] at hn1 hn2 ⊢
  clear hr hb4 hk4 had hal hrg h8 HS HB3 HS4 HM HRN hN HSTR
  have HS := HS0
  clear HS0
  generalize Sn.start ses ep C = S0 at *
  go_wp2_with fail
  go_loopw [64] (fun s64 wr => ∃ (j : Nat) (S : Sn) (r : Rs), s64 = .int .i64 j ∧ j ≤ xs.length ∧ Hid (SnAt S a wr) ∧ Hid (RfAt S r wr) ∧ Hid (S.now ≤ j) ∧ Hid (S.B.length = N) ∧ Hid (r.g = rg) ∧ Hid (r.ad = ad0) ∧ Hid (∀ i, S.T.getD i 0 ≤ 8) ∧ Hid (∀ k ∈ r.all, w.heap.size ≤ k ∧ k ∉ a.all) ∧ Hid (Below w.heap.size w wr)) (fun s64 _ => xs.length - (intOf s64).toNat)
  case atStart => exact ⟨0, S0, r, rfl, Nat.zero_le _, HS, HR, HNOW, HN, HG, HA, H8, HK, HB⟩
  case round =>
    clear HS HR HNOW HN HG HA H8 HK HB
    obtain ⟨wo, rfl⟩ : ∃ wo : World, wo = wr := ⟨_, rfl⟩
    obtain ⟨j, S, r, rfl, hj, HS, HR, HNOW, HN, HG, HA, H8, HK, HB⟩ := hrel
    by_cases hlt : j < xs.length
    · have hx := List.getElem?_eq_getElem hlt
      obtain ⟨gx, ox, rfl, hcl⟩ := HXS.out (by intro e; subst e; simp at hlt)
      have hfc := hcl j _ hx
      generalize hff : xs[j] = x at *
      obtain ⟨K0, k, s, e, i, t, d⟩ := x
      obtain ⟨p0, p1, p2, p3, p4, p5, p6⟩ := hfc
      have r0 := (HB.out.cell (World.block_lt_of_cell? w _ p0)).trans p0
      have r1 := (HB.out.cell (World.block_lt_of_cell? w _ p1)).trans p1
      have r2 := (HB.out.cell (World.block_lt_of_cell? w _ p2)).trans p2
      have r3 := (HB.out.cell (World.block_lt_of_cell? w _ p3)).trans p3
      have r4 := (HB.out.cell (World.block_lt_of_cell? w _ p4)).trans p4
      have r5 := (HB.out.cell (World.block_lt_of_cell? w _ p5)).trans p5
      have r6 := (HB.out.cell (World.block_lt_of_cell? w _ p6)).trans p6
      clear p0 p1 p2 p3 p4 p5 p6 hcl hx hff
      simp only at r0 r1 r2 r3 r4 r5 r6
      have hjI : (j : Int) < (xs.length : Int) := by omega
      have hba := (Below.refl wo.heap.size wo).alloc (Nat.le_refl _) (.cells #[.int .i64 K0, .int .i64 k, .int .i64 s, .int .i64 e, .int .i64 i, .int .i64 t, .string d] 50)
      have hp := heap_alloc_new wo (.cells #[.int .i64 K0, .int .i64 k, .int .i64 s, .int .i64 e, .int .i64 i, .int .i64 t, .string d] 50)
      have ho1 : wo.heap.size ∉ a.all := fun h => by have := HS.out.lt _ h; omega
      have ho2 : wo.heap.size ∉ r.all := fun h => by have := HR.out.lt _ h; omega
      have HSA := Lib.hid (HS.out.below hba (Nat.le_refl _)); have HRA := Lib.hid (HR.out.below hba (Nat.le_refl _)); have HBA := Lib.hid (bn HB.out hba); have HP := Lib.hid hp; have HO1 := Lib.hid ho1; have HO2 := Lib.hid ho2
      clear hba hp ho1 ho2 HS HR HB
      by_cases h100 : 100 < (d.size : Int)
      · have d4 : decide (100 < (d.size : Int)) = true := decide_eq_true h100
        go_wp2
        go_ret
        exact ⟨rfl, HBA.out⟩
      · have d4 : decide (100 < (d.size : Int)) = false := decide_eq_false h100
        have hjn : S.now ≤ 300 := by have := HNOW.out; omega
        go_upto_if 75 with fail
        clear r0 r1 r2 r3 r4 r5 r6
        generalize wo.alloc _ = wx at *
        generalize wo.heap.size = ob at *
        have HS := HSA; have HR := HRA; have HB := HBA
        clear HSA HRA HBA
        go_cut [] from 65 to 164 (fun wx => ∃ (S2 : Sn) (r2 : Rs), Hid (SnAt S2 a wx) ∧ Hid (RfAt S2 r2 wx) ∧ Hid (S2.now ≤ S.now + 1) ∧ Hid (S2.B.length = N) ∧ Hid (r2.g = rg) ∧ Hid (r2.ad = ad0) ∧ Hid (∀ i, S2.T.getD i 0 ≤ 8) ∧ Hid (∀ k ∈ r2.all, w.heap.size ≤ k ∧ k ∉ a.all) ∧ Hid (Below w.heap.size w wx))
        case first =>
          exact plays_switch (fun _ _ d9 _ _ h => by cases d9 <;> exact h) (by omega) hjn HS HR HN HG HA H8 HK HAK HC0 HB HP HO1 HO2 (by assumption) (by assumption)
        case rest =>
          clear HS HR HB HP HO1 HO2 HK H8 HA HG HN hjn
          have hnow0 := HNOW.out
          clear HNOW
          obtain ⟨S2, r2, HS, HR, HNW, HN, HG, HA, H8, HK, HB⟩ := hcut
          have HNOW : Hid (S2.now ≤ j + 1) := Lib.hid (by have := HNW.out; omega)
          clear HNW hnow0
          obtain ⟨S, rfl⟩ : ∃ S : Sn, S = S2 := ⟨_, rfl⟩
          obtain ⟨r, rfl⟩ : ∃ r : Rs, r = r2 := ⟨_, rfl⟩
          go_wp2_with fail
          have c3 := HR.out.cells.2.2.2.1
          rw [HG.out, HN.out] at c3
          have k3 := cell_regrown c3
          obtain ⟨FB, hFB⟩ : ∃ FB, S.full = FB := ⟨_, rfl⟩
          have hbl := baseB_le S.B
          have hFI : (((baseB S.B : Nat) : Int) == (N : Int)) = FB := by
            rw [← hFB, show S.full = decide (baseB S.B = S.B.length) from rfl, HN.out, Bool.eq_iff_iff, beq_iff_eq, decide_eq_true_iff]; omega
          have cErr : ∀ d os, Calls Try.prog 19 #[.pointer (some ⟨a.g, 0, none⟩)] (Sort.grow (redrawn wc d) os) fun e w'' => e = .returned (.int .i64 (S.err : Nat)) ∧ Lib.Grows (Sort.grow (redrawn wc d) os) w'' := fun d os => Lib.Calls.grows_of (Err_calls _ S a (HS.out.below (below_regrown wc d os) (Nat.le_refl _)))
          have cRE : ∀ d os, Calls Try.prog 25 #[.pointer (some ⟨rg, 0, none⟩)] (Sort.grow (redrawn wc d) os) fun e w'' => e = .returned (.int .i64 (S.err : Nat)) ∧ Lib.Grows (Sort.grow (redrawn wc d) os) w'' := fun d os => by
            have := RErr_calls _ S r (HR.out.below (below_regrown wc d os) (Nat.le_refl _))
            rw [HG.out] at this
            exact Lib.Calls.grows_of this
          have cDo : ∀ d os, Calls Try.prog 16 #[.pointer (some ⟨a.g, 0, none⟩)] (Sort.grow (redrawn wc d) os) fun e w'' => e = .returned (.bool FB) ∧ Lib.Grows (Sort.grow (redrawn wc d) os) w'' := fun d os => by
            have := Done_calls _ S a (HS.out.below (below_regrown wc d os) (Nat.le_refl _))
            rw [hFB] at this
            exact Lib.Calls.grows_of this
          have cRB : ∀ d os, Calls Try.prog 26 #[.slice (some ⟨r.gi, 0, none⟩) N r.cap] (Sort.grow (redrawn wc d) os) fun e w'' => e = .returned (.int .i64 (baseB S.B : Nat)) ∧ Lib.Grows (Sort.grow (redrawn wc d) os) w'' := fun d os => by
            have := RBase_calls _ S.B r.gi r.cap (HR.out.below (below_regrown wc d os) (Nat.le_refl _)).irow (by have := HR.out.le; omega)
            rw [HN.out] at this
            exact (this).mono fun e w' ⟨h1, h2⟩ => ⟨h1, by subst h2; exact Lib.Grows.refl _⟩
          have cRC : ∀ d os, Calls Try.prog 28 #[.slice (some ⟨r.gi, 0, none⟩) N r.cap] (Sort.grow (redrawn wc d) os) fun e w'' => e = .returned (.int .i64 (S.B.count true : Nat)) ∧ Lib.Grows (Sort.grow (redrawn wc d) os) w'' := fun d os => by
            have := RCount_calls _ S.B r.gi r.cap (HR.out.below (below_regrown wc d os) (Nat.le_refl _)).irow (by have := HR.out.le; omega)
            rw [HN.out] at this
            exact (this).mono fun e w' ⟨h1, h2⟩ => ⟨h1, by subst h2; exact Lib.Grows.refl _⟩
          have cTh : ∀ d os, Calls Try.prog 12 #[.pointer (some ⟨a.g, 0, none⟩)] (Sort.grow (redrawn wc d) os) fun e w'' => ∃ u, e = .returned u ∧ Lib.Grows (Sort.grow (redrawn wc d) os) w'' ∧ MpPost S.B u w'' := fun d os => (There_calls _ S a (HS.out.below (below_regrown wc d os) (Nat.le_refl _))).mono fun e w' ⟨h1, h2, h3, _⟩ => ⟨_, h1, h3, _, rfl, h2⟩
          clear hFB hbl c3
          obtain ⟨BB, hBB⟩ : ∃ BB, baseB S.B = BB := ⟨_, rfl⟩
          obtain ⟨CB, hCB⟩ : ∃ CB, S.B.count true = CB := ⟨_, rfl⟩
          obtain ⟨EE, hEE⟩ : ∃ EE, S.err = EE := ⟨_, rfl⟩
          rw [hBB] at hFI
          simp only [hBB] at cRB
          simp only [hCB] at cRC
          simp only [hEE] at cErr cRE
          have HCB := Lib.hid hCB
          clear hBB hCB hEE
          refine Lib.wp_region_made 29 (fun k => if k = 20 then some (MpPost S.B) else none) (by kernel_rfl) (by kernel_rfl) (fun k Post h v w w' hp hg => ?_) ?_
          · simp only [] at h
            split at h
            · cases h; exact hp.grows hg
            · cases h
          simp only [List.take_succ_cons, List.take_zero, List.drop_succ_cons, List.drop_zero]
          repeat (refine Lib.wpML_step (by rfl) (fun K hK => ?_); go_simp; first | (refine hK _ ?_; clear hK K) | (apply Exists.intro; refine ⟨fun _ => ?_, hK _ ?_⟩; (first | exact ⟨Lib.noInit (by kernel_rfl), cErr _ _⟩ | exact ⟨Lib.noInit (by kernel_rfl), cRE _ _⟩ | exact ⟨Lib.noInit (by kernel_rfl), cDo _ _⟩ | exact ⟨Lib.noInit (by kernel_rfl), cRB _ _⟩ | exact ⟨Lib.noInit (by kernel_rfl), cRC _ _⟩); clear hK K))
          refine Lib.wpML_make (Post := MpPost S.B) (by rfl) (fun K hK => ?_)
          go_simp
          first | refine fun va => hK _ _ ?_ | refine ⟨fun _ => cTh _ _, fun va => hK _ _ ?_⟩
          clear hK K
          rintro ⟨wv, hbv, gv, rfl, hmv⟩
          clear hbv hmv wv
          have cUse : ∀ d os, MpPost S.B (.pointer (some ⟨gv, 0, none⟩)) (Sort.grow (redrawn wc d) os) → Calls Try.prog 27 #[.pointer (some ⟨gv, 0, none⟩)] (Sort.grow (redrawn wc d) os) fun e w'' => e = .returned (.int .i64 (CB : Nat)) ∧ Lib.Grows (Sort.grow (redrawn wc d) os) w'' := fun d os h => by
            obtain ⟨g2, h1, h2⟩ := h
            cases h1
            exact by
              have := Count_calls _ _ S.B h2
              rw [HCB.out] at this
              exact (this).mono fun e w' ⟨h1, h2⟩ => ⟨h1, by subst h2; exact Lib.Grows.refl _⟩
          refine Lib.wpML_use 20 (MpPost S.B (.pointer (some ⟨gv, 0, none⟩))) (by rfl) (by kernel_rfl) (fun w h => h.2 rfl) (fun K hK => ?_)
          go_simp
          apply Exists.intro
          refine ⟨fun _ hR => ⟨Lib.noInit (by kernel_rfl), cUse _ _ hR⟩, hK _ ?_⟩
          clear hK K cUse
          repeat (refine Lib.wpML_step (by rfl) (fun K hK => ?_); go_simp; first | (refine hK _ ?_; clear hK K) | (apply Exists.intro; refine ⟨fun _ => ?_, hK _ ?_⟩; (first | exact ⟨Lib.noInit (by kernel_rfl), cErr _ _⟩ | exact ⟨Lib.noInit (by kernel_rfl), cRE _ _⟩ | exact ⟨Lib.noInit (by kernel_rfl), cDo _ _⟩ | exact ⟨Lib.noInit (by kernel_rfl), cRB _ _⟩ | exact ⟨Lib.noInit (by kernel_rfl), cRC _ _⟩); clear hK K))
          refine Lib.wpML_nil ?_
          intro wz hwz _
          have hb := Lib.Behind.below hwz
          have HS2 := Lib.hid (HS.out.below hb (Nat.le_refl _)); have HR2 := Lib.hid (HR.out.below hb (Nat.le_refl _)); have HB2 := Lib.hid (bn HB.out hb)
          clear hwz hb HS HR HB cErr cRE cDo cRB cRC cTh k3; have HS := HS2; have HR := HR2; have HB := HB2; clear HS2 HR2 HB2
          go_wp2
          go_loopw [135] (fun s135 wr => ∃ q : Nat, s135 = .int .i64 q ∧ q ≤ N ∧ Hid (Below wz.heap.size wz wr)) (fun s135 _ => N - (intOf s135).toNat)
          case atStart => exact ⟨0, rfl, Nat.zero_le _, Lib.hid (Below.refl _ _)⟩
          case round =>
            obtain ⟨wi, rfl⟩ : ∃ wi : World, wi = wr := ⟨_, rfl⟩
            obtain ⟨q, rfl, hq, hbw⟩ := hrel
            by_cases hqn : q < N
            · have hqI : (q : Int) < (N : Int) := by omega
              have HS2 := Lib.hid (HS.out.below hbw.out (Nat.le_refl _)); have HR2 := Lib.hid (HR.out.below hbw.out (Nat.le_refl _))
              have hqb : q < S.B.length := by rw [HN.out]; exact hqn
              have c3 := HR2.out.cells.2.2.2.1
              have c4 := HR2.out.cells.2.2.2.2.1
              rw [HG.out, HN.out] at c3 c4
              have k3 := cell_regrown c3
              have k4 := cell_regrown c4
              have kt := cell_regrown (HR2.out.tcell q hqb)
              have kb := cell_regrown (HR2.out.icell q hqb)
              have cTr : ∀ d os, Calls Try.prog 17 #[.pointer (some ⟨a.g, 0, none⟩), .int .i64 (q : Int)] (Sort.grow (redrawn wi d) os) fun e w'' => e = .returned (.int .i64 (S.T.getD q 0 : Nat)) ∧ Lib.Grows (Sort.grow (redrawn wi d) os) w'' := fun d os => (Tries_calls _ S a q (HS2.out.below (below_regrown wi d os) (Nat.le_refl _)) hqb).mono fun e w' ⟨h1, h2⟩ => ⟨h1, by subst h2; exact Lib.Grows.refl _⟩

              have cTh : ∀ d os, Calls Try.prog 12 #[.pointer (some ⟨a.g, 0, none⟩)] (Sort.grow (redrawn wi d) os) fun e w'' => ∃ u, e = .returned u ∧ Lib.Grows (Sort.grow (redrawn wi d) os) w'' ∧ MpPost S.B u w'' := fun d os => (There_calls _ S a (HS2.out.below (below_regrown wi d os) (Nat.le_refl _))).mono fun e w' ⟨h1, h2, h3, _⟩ => ⟨_, h1, h3, _, rfl, h2⟩
              obtain ⟨TT, hTT⟩ : ∃ TT, S.T.getD q 0 = TT := ⟨_, rfl⟩
              obtain ⟨QB, hQB⟩ : ∃ QB, S.B.getD q false = QB := ⟨_, rfl⟩
              simp only [hTT] at cTr
              simp only [hTT] at kt
              simp only [hQB] at kb
              clear c3 c4 hTT
              have HQB := Lib.hid hQB; clear hQB
              go_wp2_with fail
              refine Lib.wp_region_made 25 (fun k => if k = 13 then some (MpPost S.B) else none) (by kernel_rfl) (by kernel_rfl) (fun k Post h v w w' hp hg => ?_) ?_
              · simp only [] at h
                split at h
                · cases h; exact hp.grows hg
                · cases h
              simp only [List.take_succ_cons, List.take_zero, List.drop_succ_cons, List.drop_zero]
              repeat (refine Lib.wpML_step (by rfl) (fun K hK => ?_); go_simp; first | (refine hK _ ?_; clear hK K) | (apply Exists.intro; refine ⟨fun _ => ?_, hK _ ?_⟩; (first | exact ⟨Lib.noInit (by kernel_rfl), cTr _ _⟩); clear hK K))
              refine Lib.wpML_make (Post := MpPost S.B) (by rfl) (fun K hK => ?_)
              go_simp
              first | refine fun va => hK _ _ ?_ | refine ⟨fun _ => cTh _ _, fun va => hK _ _ ?_⟩
              clear hK K
              rintro ⟨wv, hbv, gv, rfl, hmv⟩
              clear hbv hmv wv
              repeat (refine Lib.wpML_step (by rfl) (fun K hK => ?_); go_simp; first | (refine hK _ ?_; clear hK K) | (apply Exists.intro; refine ⟨fun _ => ?_, hK _ ?_⟩; (first | exact ⟨Lib.noInit (by kernel_rfl), cTr _ _⟩); clear hK K))
              have cUse : ∀ d os, MpPost S.B (.pointer (some ⟨gv, 0, none⟩)) (Sort.grow (redrawn wi d) os) → Calls Try.prog 14 #[.pointer (some ⟨gv, 0, none⟩), .int .i64 (q : Int)] (Sort.grow (redrawn wi d) os) fun e w'' => e = .returned (.bool QB) ∧ Lib.Grows (Sort.grow (redrawn wi d) os) w'' := fun d os h => by
                obtain ⟨g2, h1, h2⟩ := h
                cases h1
                exact by
                  have := Has_calls _ _ S.B (q : Int) h2
                  rw [hasB_nat, HQB.out] at this
                  exact (this).mono fun e w' ⟨h1, h2⟩ => ⟨h1, by subst h2; exact Lib.Grows.refl _⟩
              refine Lib.wpML_use 13 (MpPost S.B (.pointer (some ⟨gv, 0, none⟩))) (by rfl) (by kernel_rfl) (fun w h => h.2 rfl) (fun K hK => ?_)
              go_simp
              apply Exists.intro
              refine ⟨fun _ hR => ⟨Lib.noInit (by kernel_rfl), cUse _ _ hR⟩, hK _ ?_⟩
              clear hK K cUse
              repeat (refine Lib.wpML_step (by rfl) (fun K hK => ?_); go_simp; first | (refine hK _ ?_; clear hK K) | (apply Exists.intro; refine ⟨fun _ => ?_, hK _ ?_⟩; (first | exact ⟨Lib.noInit (by kernel_rfl), cTr _ _⟩); clear hK K))
              refine Lib.wpML_nil ?_
              intro wj hwj _
              have HBJ := Lib.hid (bn hbw.out (Lib.Behind.below hwj))
              clear hwj hbw HS2 HR2 cTr cTh k3 k4 kt kb
              go_wp2
              exact ⟨⟨q + 1, by go_num, by omega, HBJ⟩, by simp only [intOf]; omega⟩

            · obtain rfl : q = N := by omega
              have HS2 := Lib.hid (HS.out.below hbw.out (Nat.le_refl _)); have HR2 := Lib.hid (HR.out.below hbw.out (Nat.le_refl _)); have HB2 := Lib.hid (bn HB.out hbw.out)
              have hNow := HNOW.out
              clear HS HR HB hbw
              go_wp2
              go_roundw
              case measure => simp only [intOf]; omega
              case rel => exact ⟨j + 1, S, r, by go_num, by omega, HS2, HR2, Lib.hid (by omega), HN, HG, HA, H8, HK, HB2⟩

    · obtain rfl : j = xs.length := by omega
      have djx : decide ((xs.length : Int) < (xs.length : Int)) = false := decide_eq_false (by omega)
      go_wp2
      go_ret
      exact ⟨rfl, HB.out⟩
theorem SenderPlays_walk (a0 a1 : Int) (v2 : Value) (C : List ByteArray) (v3 : Value) (xs : List (Int × Fr)) (w : World) (w0 : (Lit.int .i64 a0).wf = true) (w1 : (Lit.int .i64 a1).wf = true)
    (w2 : ∃ ad cap, v2 = .slice ad C.length cap ∧ C.length ≤ maxLen ∧ (C ≠ [] → ∃ g o, ad = some ⟨g, o, none⟩ ∧ ∀ (j : Nat) x, C[j]? = some x → w.cell? ⟨g, o + j, none⟩ = some (.string x)))
    (w3 : Sps w v3 xs) : Calls Try.prog 8 #[.int .i64 a0, .int .i64 a1, v2, v3] w fun e w' => e = .returned (.bool true) ∧ Below w.heap.size w w' := by
  obtain ⟨ad0, cap0, rfl, hn0, hx⟩ := w2
  obtain ⟨adx, capx, rfl, hxs⟩ := w3
  have hstr : Strs C ad0 w := fun j c hj => by
    obtain ⟨g, o, rfl, h⟩ := hx (by intro e; subst e; simp at hj)
    exact ⟨_, rfl, rfl, h j c hj⟩
  have hmx : C.length ≤ 9223372036854775807 := by unfold maxLen at hn0; omega
  by_cases hsh : fewB C = false ∨ 200 < xs.length ∨ mayB a0 a1 C = false
  · exact SenderPlays_short a0 a1 C ad0 cap0 xs.length adx capx w hstr hmx hsh
  · have h1 : fewB C = true := by cases h : fewB C <;> simp_all
    have h3 : mayB a0 a1 C = true := by cases h : mayB a0 a1 C <;> simp_all
    have hC : C ≠ [] := fun e => by have := (mayB_true h3).2.2.2.2.1; rw [e] at this; simp at this
    obtain ⟨g, o, rfl, -⟩ := hx hC
    exact SenderPlays_main a0 a1 C _ cap0 xs adx capx w hstr hmx (fun a ha => by cases ha; rfl) h1 (by omega) h3 hxs
end Go.Proofs.Ytcmgmdgeimmbeaa
