/- The walk of the law SackPlays. (Printed by wip/print/sackplays.py.) -/
import Derived.Test.YtnblpbaflcgkkaaSackLawS
namespace Go.Proofs.Ytnblpbaflcgkkaa
open Go.RowKit Go.Sort
set_option linter.unusedVariables false
set_option linter.unusedSimpArgs false
set_option maxRecDepth 100000 in
set_option maxHeartbeats 16000000 in
theorem SackPlays_main (n : Nat) (ad1 : Option Addr) (cap1 : Nat) (xs : List (Int × Int × Int × ByteArray)) (w : World) (hn1 : 1 ≤ n) (hn2 : n ≤ 256) (h200 : (xs.length : Int) ≤ 200)
    (hxs : xs ≠ [] → ∃ g o, ad1 = some ⟨g, o, none⟩ ∧ ∀ (j : Nat) x, xs[j]? = some x → SoCells w g (o + j * 4) x ∧ (Lit.int .i64 x.1).wf = true ∧ (Lit.int .i64 x.2.1).wf = true ∧ (Lit.int .i64 x.2.2.1).wf = true) :
    Calls Try.prog 3 #[.int .i64 (n : Int), .slice ad1 xs.length cap1] w fun e w' => e = .returned (.bool true) ∧ Below w.heap.size w w' := by
  have HXS := Lib.hid hxs; clear hxs
  have d1 : decide (200 < (xs.length : Int)) = false := decide_eq_false (by omega)
  have d2 : decide (256 < (n : Int)) = false := decide_eq_false (by omega)
  have d3 : decide ((n : Int) < 1) = false := decide_eq_false (by omega)
  go_enter Try.func3, Try.ntmps3
  go_wp2_with fail
  refine (awake_calls _).mono ?_
  rintro e wA ⟨rfl, hb1⟩
  have HB1 := Lib.hid hb1; clear hb1
  go_wp2_with fail
  refine (New_calls _ n hn1 hn2).mono ?_
  rintro e wB ⟨rfl, hm, hb, hsz⟩
  have hgm := HB1.out.size
  have HM := Lib.hid hm; have HB := Lib.hid (bn HB1.out hb); have HGM := Lib.hid hgm
  clear hm hb hsz hgm HB1
  generalize wA.heap.size = gm at *
  have hlr : (List.replicate n false).length = n := List.length_replicate
  go_wp2_with (with_reducible refine wpList_mark (o := ⟨some 40, _, _, _, _, _⟩) ?_)
  refine Marked.intro ?_
  refine wpList_run rfl (exec_make _ 28 4 _ _ (by rfl) _ n .i64 .i64 (by rfl) (by rfl) Try.underlying28 (.bool false) rfl 1 info_bool (by omega) (by omega)) ?_
  have hr := row_of_made n wB
  have hba := (Below.refl wB.heap.size wB).alloc (Nat.le_refl _) (.cells (List.replicate n (Value.bool false)).toArray 4)
  have HR := Lib.hid hr; have HM2 := Lib.hid (HM.out.below hba); have HB2 := Lib.hid (bn HB.out hba)
  have HGG := Lib.hid HM.out.lt
  clear hr hba HM HB
  generalize wB.alloc (.cells (List.replicate n (Value.bool false)).toArray 4) = wC at *
  generalize wB.heap.size = g0 at *
  have HL0 := Lib.hid hlr; clear hlr
  generalize List.replicate n false = B0 at *
  go_wp2
  go_loopw [7, 43] (fun s7 s43 wr => ∃ (j : Nat) (B : List Bool) (g cap : Nat), s7 = .slice (some ⟨g, 0, none⟩) n cap ∧ s43 = .int .i64 j ∧ j ≤ xs.length ∧ Hid (B.length = n) ∧ Hid (Mp B gm wr) ∧ Hid (BRow B g cap wr) ∧ Hid (gm < g) ∧ Hid (Below w.heap.size w wr)) (fun _ s43 _ => xs.length - (intOf s43).toNat)
  case atStart => exact ⟨0, B0, g0, n, rfl, rfl, by omega, HL0, HM2, HR, HGG, HB2⟩
  case round =>
    clear HL0 HM2 HR HGG HB2
    obtain ⟨wo, rfl⟩ : ∃ wo : World, wo = wr := ⟨_, rfl⟩
    obtain ⟨j, B, g, cap, rfl, rfl, hj, HL, HM, HR, HGG, HB⟩ := hrel
    by_cases hlt : j < xs.length
    · have hx := List.getElem?_eq_getElem hlt
      obtain ⟨gx, ox, rfl, hcl⟩ := HXS.out (by intro e; subst e; simp at hlt)
      obtain ⟨hfc, -, hwi, -⟩ := hcl j _ hx
      have hwm := (hcl j _ hx).2.2.2
      generalize hff : xs[j] = x at *
      obtain ⟨k, i, m, s⟩ := x
      obtain ⟨p0, p1, p2, p3⟩ := hfc
      have r0 := (HB.out.cell (World.block_lt_of_cell? w _ p0)).trans p0
      have r1 := (HB.out.cell (World.block_lt_of_cell? w _ p1)).trans p1
      have r2 := (HB.out.cell (World.block_lt_of_cell? w _ p2)).trans p2
      have r3 := (HB.out.cell (World.block_lt_of_cell? w _ p3)).trans p3
      obtain ⟨hi1, hi2⟩ := bounds_i64 hwi
      obtain ⟨hm1, hm2⟩ := bounds_i64 hwm
      clear p0 p1 p2 p3 hcl hx hff hwi hwm
      simp only at r0 r1 r2 r3 hi1 hi2 hm1 hm2
      have hjI : (j : Int) < (xs.length : Int) := by omega
      have hba := (Below.refl wo.heap.size wo).alloc (Nat.le_refl _) (.cells #[.int .i64 k, .int .i64 i, .int .i64 m, .string s] 30)
      have hp := heap_alloc_new wo (.cells #[.int .i64 k, .int .i64 i, .int .i64 m, .string s] 30)
      have hob := HM.out.lt
      have hog := HR.out.lt
      have HMA := Lib.hid (HM.out.below hba); have HRA := Lib.hid (HR.out.below hba); have HBA := Lib.hid (bn HB.out hba); have HP := Lib.hid hp
      have HOB : Hid (wo.heap.size ≠ gm) := Lib.hid (Nat.ne_of_gt hob)
      have HOG : Hid (wo.heap.size ≠ g) := Lib.hid (Nat.ne_of_gt hog)
      clear hba hp hob hog HM HR HB
      by_cases h100 : 100 < (s.size : Int)
      · have d4 : decide (100 < (s.size : Int)) = true := decide_eq_true h100
        go_wp2
        go_ret
        exact ⟨rfl, HBA.out⟩
      · have d4 : decide (100 < (s.size : Int)) = false := decide_eq_false h100
        go_upto_block 2 with fail
        clear r0 r1 r2 r3
        generalize wo.alloc _ = wx at *
        generalize wo.heap.size = ob at *
        have HM := HMA; have HR := HRA; have HB := HBA
        clear HMA HRA HBA
        go_cut [7] from 44 to 181 (fun s7 wx => ∃ (B : List Bool) (g cap : Nat), s7 = .slice (some ⟨g, 0, none⟩) n cap ∧ Hid (B.length = n) ∧ Hid (Mp B gm wx) ∧ Hid (BRow B g cap wx) ∧ Hid (gm < g) ∧ Hid (Below w.heap.size w wx) ∧ Hid (wx.heap[ob]? = some (.cells #[.int .i64 k, .int .i64 i, .int .i64 m, .string s] 30 (0, 0))))
        case first =>
          exact plays_switch hn1 hn2 hi1 hi2 (by omega) HL HM HR HGG HGM HOB HOG HB HP (by assumption) (by assumption)

        case rest =>
          obtain ⟨B, g, cap, rfl, HL, HM, HR, HGG, HB, HP⟩ := hcut
          obtain ⟨q0, q1, q2, q3⟩ := So_cells (x := (k, i, m, s)) HP.out
          obtain ⟨w9, rfl⟩ : ∃ w9 : World, w9 = wc := ⟨_, rfl⟩
          go_upto_region 24 with fail
          go_cut [13] from 44 to 181 (fun s13 wx => s13 = .bool (hasB B i) ∧ Hid (Mp B gm wx) ∧ Hid (BRow B g cap wx) ∧ Hid (Below w.heap.size w wx) ∧ Hid (wx.heap[ob]? = some (.cells #[.int .i64 k, .int .i64 i, .int .i64 m, .string s] 30 (0, 0))))
          case first =>
            by_cases hi0 : i < 0
            · have e1 : decide (0 ≤ i) = false := decide_eq_false (by omega)
              have HHB := Lib.hid (hasB_neg B i hi0)
              go_wp2_with fail
              go_meet
              exact ⟨by rw [HHB.out], HM, HR, HB, HP⟩

            · have e1 : decide (0 ≤ i) = true := decide_eq_true (by omega)
              by_cases hin : i < (n : Int)
              · have e2 : decide (i < (n : Int)) = true := decide_eq_true hin
                obtain ⟨p, rfl⟩ := Int.eq_ofNat_of_zero_le (show 0 ≤ i by omega)
                have hp : p < n := by omega
                have cb := HR.out.cell p (by rw [HL.out]; exact hp)
                have HHB := Lib.hid (hasB_nat B p)
                generalize B.getD p false = HB0 at *
                go_wp2_with fail
                go_meet
                exact ⟨by rw [HHB.out], HM, HR, HB, HP⟩

              · have e2 : decide (i < (n : Int)) = false := decide_eq_false hin
                have HHB : Hid (hasB B i = false) := Lib.hid (by
                  unfold hasB
                  rw [getD_ge (by rw [HL.out]; omega)]; simp)
                go_wp2_with fail
                go_meet
                exact ⟨by rw [HHB.out], HM, HR, HB, HP⟩

          case rest =>
            clear q0 q1 q2 q3 HM HR HB HP
            obtain ⟨rfl, HM, HR, HB, HP⟩ := hcut
            obtain ⟨HB0, hHB⟩ : ∃ HB0, hasB B i = HB0 := ⟨_, rfl⟩
            have HHB := Lib.hid hHB
            rw [hHB]
            clear hHB
            have q1c := (So_cells (x := (k, i, m, s)) HP.out).2.1
            have q2c := (So_cells (x := (k, i, m, s)) HP.out).2.2.1
            have k1 := cell_regrown q1c
            have k2 := cell_regrown q2c
            clear q1c q2c
            go_wp2_with fail
            obtain ⟨L, hL⟩ : ∃ L, missB B i m n = L := ⟨_, rfl⟩
            have hLn : L.length ≤ n := by rw [← hL]; exact missB_le B _ _ n
            have hfc := full_count B
            rw [HL.out] at hfc
            obtain ⟨FB, hFB⟩ : ∃ FB, decide (B.count true = n) = FB := ⟨_, rfl⟩
            rw [hFB] at hfc
            have hFI : (((B.count true : Nat) : Int) == (n : Int)) = FB := by rw [← hFB, Bool.eq_iff_iff, beq_iff_eq, decide_eq_true_iff]; omega
            have cHas : ∀ d os, Calls Try.prog 15 #[.pointer (some ⟨gm, 0, none⟩), .int .i64 i] (Sort.grow (redrawn wc d) os) fun e w'' => e = .returned (.bool HB0) ∧ Lib.Grows (Sort.grow (redrawn wc d) os) w'' := fun d os => by rw [← HHB.out]; exact (Has_calls _ gm B i (HM.out.below (below_regrown wc d os))).mono fun e w' ⟨h1, h2⟩ => ⟨h1, by subst h2; exact Lib.Grows.refl _⟩
            have cBa : ∀ d os, Calls Try.prog 16 #[.pointer (some ⟨gm, 0, none⟩)] (Sort.grow (redrawn wc d) os) fun e w'' => e = .returned (.int .i64 (baseB B : Nat)) ∧ Lib.Grows (Sort.grow (redrawn wc d) os) w'' := fun d os => (Base_calls _ gm B (HM.out.below (below_regrown wc d os))).mono fun e w' ⟨h1, h2⟩ => ⟨h1, by subst h2; exact Lib.Grows.refl _⟩
            have cRB : ∀ d os, Calls Try.prog 17 #[.slice (some ⟨g, 0, none⟩) n cap] (Sort.grow (redrawn wc d) os) fun e w'' => e = .returned (.int .i64 (baseB B : Nat)) ∧ Lib.Grows (Sort.grow (redrawn wc d) os) w'' := fun d os => by have := RBase_calls _ B g cap (HR.out.below (below_regrown wc d os)) (by rw [HL.out]; omega); rw [HL.out] at this; exact (this).mono fun e w' ⟨h1, h2⟩ => ⟨h1, by subst h2; exact Lib.Grows.refl _⟩
            have cCo : ∀ d os, Calls Try.prog 18 #[.pointer (some ⟨gm, 0, none⟩)] (Sort.grow (redrawn wc d) os) fun e w'' => e = .returned (.int .i64 (B.count true : Nat)) ∧ Lib.Grows (Sort.grow (redrawn wc d) os) w'' := fun d os => (Count_calls _ gm B (HM.out.below (below_regrown wc d os))).mono fun e w' ⟨h1, h2⟩ => ⟨h1, by subst h2; exact Lib.Grows.refl _⟩
            have cRC : ∀ d os, Calls Try.prog 19 #[.slice (some ⟨g, 0, none⟩) n cap] (Sort.grow (redrawn wc d) os) fun e w'' => e = .returned (.int .i64 (B.count true : Nat)) ∧ Lib.Grows (Sort.grow (redrawn wc d) os) w'' := fun d os => by have := RCount_calls _ B g cap (HR.out.below (below_regrown wc d os)) (by rw [HL.out]; omega); rw [HL.out] at this; exact (this).mono fun e w' ⟨h1, h2⟩ => ⟨h1, by subst h2; exact Lib.Grows.refl _⟩
            have cFu : ∀ d os, Calls Try.prog 20 #[.pointer (some ⟨gm, 0, none⟩)] (Sort.grow (redrawn wc d) os) fun e w'' => e = .returned (.bool FB) ∧ Lib.Grows (Sort.grow (redrawn wc d) os) w'' := fun d os => by have := Full_calls _ gm B (HM.out.below (below_regrown wc d os)); rw [HL.out, hfc] at this; exact Lib.Calls.grows_of this
            have cBe : ∀ d os, Calls Try.prog 21 #[.pointer (some ⟨gm, 0, none⟩), .int .i64 m] (Sort.grow (redrawn wc d) os) fun e w'' => e = .returned (.string (tellB B m)) ∧ Lib.Grows (Sort.grow (redrawn wc d) os) w'' := fun d os => Lib.Calls.grows_of (Behind_calls _ gm B m (HM.out.below (below_regrown wc d os)))
            have cRE : ∀ d os, Calls Try.prog 22 #[.slice (some ⟨g, 0, none⟩) n cap, .int .i64 m] (Sort.grow (redrawn wc d) os) fun e w'' => e = .returned (.string (tellB B m)) ∧ Lib.Grows (Sort.grow (redrawn wc d) os) w'' := fun d os => by have := RBehind_calls _ B g cap m (HR.out.below (below_regrown wc d os)) (by rw [HL.out]; omega); rw [HL.out] at this; exact Lib.Calls.grows_of this
            have cLe : ∀ d os, Calls Try.prog 26 #[.pointer (some ⟨gm, 0, none⟩)] (Sort.grow (redrawn wc d) os) fun e w'' => e = .returned (.int .i64 (n : Nat)) ∧ Lib.Grows (Sort.grow (redrawn wc d) os) w'' := fun d os => by have := Len_calls _ gm B (HM.out.below (below_regrown wc d os)); rw [HL.out] at this; exact (this).mono fun e w' ⟨h1, h2⟩ => ⟨h1, by subst h2; exact Lib.Grows.refl _⟩
            have cMi : ∀ d os, Calls Try.prog 24 #[.pointer (some ⟨gm, 0, none⟩), .int .i64 i, .int .i64 m] (Sort.grow (redrawn wc d) os) fun e w'' => ∃ u, e = .returned u ∧ Lib.Grows (Sort.grow (redrawn wc d) os) w'' ∧ IntsAt L u w'' := fun d os => by
              have := Missing_calls _ gm B i m (HM.out.below (below_regrown wc d os)) (by omega)
              rw [HL.out, hL] at this
              exact this.mono fun e w' ⟨u, h1, h2, h3⟩ => ⟨u, h1, h3, ints_of_own h2⟩
            have cRM : ∀ d os, Calls Try.prog 25 #[.slice (some ⟨g, 0, none⟩) n cap, .int .i64 i, .int .i64 m] (Sort.grow (redrawn wc d) os) fun e w'' => ∃ u, e = .returned u ∧ Lib.Grows (Sort.grow (redrawn wc d) os) w'' ∧ IntsAt L u w'' := fun d os => by
              have := RMissing_calls _ B g cap i m (HR.out.below (below_regrown wc d os)) (by rw [HL.out]; omega)
              rw [HL.out, hL] at this
              exact this.mono fun e w' ⟨u, h1, h2, h3⟩ => ⟨u, h1, h3, ints_of_own h2⟩
            clear hL hFB hfc
            generalize baseB B = BB at *
            generalize B.count true = CB at *
            generalize tellB B m = TB at *
            refine Lib.wp_region_made 62 (fun k => if k = 46 then some (IntsAt L) else if k = 52 then some (IntsAt L) else none) (by kernel_rfl) (by kernel_rfl) (fun k Post h v w w' hp hg => ?_) ?_
            · simp only [] at h
              split at h
              · cases h; exact hp.grows hg
              · split at h
                · cases h; exact hp.grows hg
                · cases h
            simp only [List.take_succ_cons, List.take_zero, List.drop_succ_cons, List.drop_zero]
            repeat (refine Lib.wpML_step (by rfl) (fun K hK => ?_); go_simp; first | (refine hK _ ?_; clear hK K) | (apply Exists.intro; refine ⟨fun _ => ?_, hK _ ?_⟩; (first | exact ⟨Lib.noInit (by kernel_rfl), cHas _ _⟩ | exact ⟨Lib.noInit (by kernel_rfl), cBa _ _⟩ | exact ⟨Lib.noInit (by kernel_rfl), cRB _ _⟩ | exact ⟨Lib.noInit (by kernel_rfl), cCo _ _⟩ | exact ⟨Lib.noInit (by kernel_rfl), cRC _ _⟩ | exact ⟨Lib.noInit (by kernel_rfl), cFu _ _⟩ | exact ⟨Lib.noInit (by kernel_rfl), cBe _ _⟩ | exact ⟨Lib.noInit (by kernel_rfl), cRE _ _⟩ | exact ⟨Lib.noInit (by kernel_rfl), cLe _ _⟩); clear hK K))
            refine Lib.wpML_make (Post := IntsAt L) (by rfl) (fun K hK => ?_)
            go_simp
            first | refine fun va => hK _ _ ?_ | refine ⟨fun _ => cMi _ _, fun va => hK _ _ ?_⟩
            clear hK K
            rintro ⟨wv, hbv, hmv⟩
            clear hbv hmv wv
            repeat (refine Lib.wpML_step (by rfl) (fun K hK => ?_); go_simp; first | (refine hK _ ?_; clear hK K) | (apply Exists.intro; refine ⟨fun _ => ?_, hK _ ?_⟩; (first | exact ⟨Lib.noInit (by kernel_rfl), cHas _ _⟩ | exact ⟨Lib.noInit (by kernel_rfl), cBa _ _⟩ | exact ⟨Lib.noInit (by kernel_rfl), cRB _ _⟩ | exact ⟨Lib.noInit (by kernel_rfl), cCo _ _⟩ | exact ⟨Lib.noInit (by kernel_rfl), cRC _ _⟩ | exact ⟨Lib.noInit (by kernel_rfl), cFu _ _⟩ | exact ⟨Lib.noInit (by kernel_rfl), cBe _ _⟩ | exact ⟨Lib.noInit (by kernel_rfl), cRE _ _⟩ | exact ⟨Lib.noInit (by kernel_rfl), cLe _ _⟩); clear hK K))
            refine Lib.wpML_make (Post := IntsAt L) (by rfl) (fun K hK => ?_)
            go_simp
            first | refine fun vb => hK _ _ ?_ | refine ⟨fun _ => cRM _ _, fun vb => hK _ _ ?_⟩
            clear hK K
            rintro ⟨wv, hbv, hmv⟩
            clear hbv hmv wv
            refine Lib.wpML_call2 46 52 (IntsAt L va) (IntsAt L vb) (by rfl) (by kernel_rfl) (by kernel_rfl) (fun w h => h.1.2 rfl) (fun w h => h.2 rfl) (by rfl) (fun w' h1 h2 => Lib.Calls.grows_of (Same_calls w' L va vb h1 h2 (by omega))) (fun w' => by go_simp) (Lib.noInit (by kernel_rfl)) ?_
            repeat (refine Lib.wpML_step (by rfl) (fun K hK => ?_); go_simp; first | (refine hK _ ?_; clear hK K) | (apply Exists.intro; refine ⟨fun _ => ?_, hK _ ?_⟩; (first | exact ⟨Lib.noInit (by kernel_rfl), cHas _ _⟩ | exact ⟨Lib.noInit (by kernel_rfl), cBa _ _⟩ | exact ⟨Lib.noInit (by kernel_rfl), cRB _ _⟩ | exact ⟨Lib.noInit (by kernel_rfl), cCo _ _⟩ | exact ⟨Lib.noInit (by kernel_rfl), cRC _ _⟩ | exact ⟨Lib.noInit (by kernel_rfl), cFu _ _⟩ | exact ⟨Lib.noInit (by kernel_rfl), cBe _ _⟩ | exact ⟨Lib.noInit (by kernel_rfl), cRE _ _⟩ | exact ⟨Lib.noInit (by kernel_rfl), cLe _ _⟩); clear hK K))
            refine Lib.wpML_nil ?_
            intro wz hwz _
            have hb := Lib.Behind.below hwz
            have HM2 := Lib.hid (HM.out.below hb); have HR2 := Lib.hid (HR.out.below hb); have HB2 := Lib.hid (bn HB.out hb)
            clear hwz hb HM HR HB HP cHas cBa cRB cCo cRC cFu cBe cRE cLe cMi cRM k1 k2
            go_wp2
            go_roundw
            case measure => simp only [intOf]; omega
            case rel => exact ⟨j + 1, B, g, cap, rfl, by go_num, by omega, HL, HM2, HR2, HGG, HB2⟩


    · obtain rfl : j = xs.length := by omega
      have djx : decide ((xs.length : Int) < (xs.length : Int)) = false := decide_eq_false (by omega)
      go_wp2
      go_ret
      exact ⟨rfl, HB.out⟩

theorem SackPlays_walk (a0 : Int) (v1 : Value) (xs : List (Int × Int × Int × ByteArray)) (w : World) (w0 : (Lit.int .i64 a0).wf = true) (w1 : Sos w v1 xs) :
    Calls Try.prog 3 #[.int .i64 a0, v1] w fun e w' => e = .returned (.bool true) ∧ Below w.heap.size w w' := by
  by_cases hs : 200 < (xs.length : Int) ∨ 256 < a0 ∨ a0 < 1
  · exact SackPlays_short a0 v1 xs w w0 w1 hs
  · obtain ⟨ad1, cap1, rfl, hxs⟩ := w1
    obtain ⟨n, rfl⟩ := Int.eq_ofNat_of_zero_le (show 0 ≤ a0 by omega)
    exact SackPlays_main n ad1 cap1 xs w (by omega) (by omega) (by omega) hxs
end Go.Proofs.Ytnblpbaflcgkkaa
