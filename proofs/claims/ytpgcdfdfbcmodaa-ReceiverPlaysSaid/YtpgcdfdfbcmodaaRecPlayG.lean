/- The walk of the law ReceiverPlays. (Printed by wip/print/recplays.py.) -/
import Derived.Test.YtpgcdfdfbcmodaaRecPlayS
namespace Go.Proofs.Ytpgcdfdfbcmodaa
open Go.RowKit Go.Sort
set_option linter.unusedVariables false
set_option linter.unusedSimpArgs false
def MpPost (B : List Bool) (u : Value) (w : World) : Prop := ∃ g, u = .pointer (some ⟨g, 0, none⟩) ∧ Mp B g w
theorem MpPost.grows {B : List Bool} {u : Value} {w w' : World} (h : MpPost B u w) (hg : Lib.Grows w w') : MpPost B u w' := by
  obtain ⟨g, h1, h2⟩ := h
  exact ⟨g, h1, h2.below hg⟩
theorem fr_row_cells {w : World} {b : Nat} {f : Fr} {fr : Nat × Nat} (h : w.heap[b]? = some (.cells #[.int .i64 f.k, .int .i64 f.s, .int .i64 f.e, .int .i64 f.i, .int .i64 f.t, .string f.d] 32 fr)) :
    w.cell? ⟨b, 0, none⟩ = some (.int .i64 f.k) ∧ w.cell? ⟨b, 1, none⟩ = some (.int .i64 f.s) ∧ w.cell? ⟨b, 2, none⟩ = some (.int .i64 f.e) ∧ w.cell? ⟨b, 3, none⟩ = some (.int .i64 f.i) ∧ w.cell? ⟨b, 4, none⟩ = some (.int .i64 f.t) ∧ w.cell? ⟨b, 5, none⟩ = some (.string f.d) :=
  ⟨cell_of_row _ _ 0 _ _ _ h, cell_of_row _ _ 1 _ _ _ h, cell_of_row _ _ 2 _ _ _ h, cell_of_row _ _ 3 _ _ _ h, cell_of_row _ _ 4 _ _ _ h, cell_of_row _ _ 5 _ _ _ h⟩
theorem plays_cells {w' : World} {b n : Nat} {f : Fr} {q : Rq} {X : Rv} (h : w'.heap[b]? = some (.cells #[.int .i64 f.k, .int .i64 f.s, .int .i64 f.e, .int .i64 f.i, .int .i64 f.t, .string f.d] 32 (0, 0))) (hq : RqAt X q w') (hn : X.B.length = n) : w'.cell? ⟨b, 0, none⟩ = some (.int .i64 f.k) ∧ w'.cell? ⟨b, 1, none⟩ = some (.int .i64 f.s) ∧ w'.cell? ⟨b, 2, none⟩ = some (.int .i64 f.e) ∧ w'.cell? ⟨b, 3, none⟩ = some (.int .i64 f.i) ∧ w'.cell? ⟨b, 4, none⟩ = some (.int .i64 f.t) ∧ w'.cell? ⟨b, 5, none⟩ = some (.string f.d) ∧ w'.cell? ⟨q.g, 2, none⟩ = some (.slice (some ⟨q.gi, 0, none⟩) n n) := by
  obtain ⟨h0, h1, h2, h3, h4, h5⟩ := fr_row_cells h
  have h6 := hq.cells.2.2.1
  rw [hn] at h6
  exact ⟨h0, h1, h2, h3, h4, h5, h6⟩
set_option maxRecDepth 100000 in
set_option maxHeartbeats 16000000 in
theorem ReceiverPlays_main (ses ep : Int) (n : Nat) (xs : List Fr) (adx : Option Addr) (capx : Nat) (w : World) (h200 : xs.length ≤ 200) (hmay : mayR ses ep n = true)
    (hxs : xs ≠ [] → ∃ g o, adx = some ⟨g, o, none⟩ ∧ ∀ (j : Nat) x, xs[j]? = some x → FrCells w g (o + j * 6) x) :
    Calls Try.prog 7 #[.int .i64 ses, .int .i64 ep, .int .i64 n, .slice adx xs.length capx] w fun e w' => e = .returned (.bool true) ∧ Below w.heap.size w w' := by
  have HXS := Lib.hid hxs; clear hxs
  obtain ⟨m1, m2, m3, m4, m5, m6⟩ := mayR_true hmay
  have hn1 : 1 ≤ n := by omega
  have hn2 : n ≤ 256 := by omega
  have hm := fun w => QMay_calls w ses ep n
  rw [hmay] at hm
  have hnew := fun w => RNew_good w ses ep n m1 m2 m3 m4 hn1 hn2
  have hqn := fun w => QNew_calls w ses ep n m1 m2 m3 m4 hn1 hn2
  unfold QNewPost at hqn
  have hl := play_start ses ep n
  generalize Rv.start ses ep n = R0 at *
  have HM := Lib.hid hm; have HNEW := Lib.hid hnew; have HQN := Lib.hid hqn; have HL0 := Lib.hid hl
  clear hm hnew hqn hl hmay m1 m2 m3 m4 m5 m6
  have d1 : decide (200 < (xs.length : Int)) = false := decide_eq_false (by omega)
  go_enter Try.func7, Try.ntmps7
  go_wp2_with fail
  refine (awake_calls _).mono ?_
  rintro e w1 ⟨rfl, hb1⟩
  go_wp2_with fail
  refine (HNEW.out _).mono ?_
  rintro e w2 ⟨a, rfl, hv2, hb2, hk2⟩
  have hc2 := bn hb1 hb2
  have HK : Hid (∀ k ∈ a.all, w.heap.size ≤ k) := Lib.hid fun k hk => Nat.le_trans hb1.size (hk2 k hk)
  have HV2 := Lib.hid hv2; have HC2 := Lib.hid hc2
  clear hb1 hb2 hk2 hv2 hc2 HNEW
  go_wp2_with fail
  refine (HM.out _).mono ?_
  rintro e w3 ⟨rfl, rfl⟩
  go_wp2_with fail
  refine (HQN.out _).mono ?_
  rintro e w3 ⟨q, rfl, hq3, hb3, hk3⟩
  have hlt := HV2.out.lt
  have HQA : Hid (∀ k ∈ q.all, k ∉ a.all) := Lib.hid fun k h1 h2 => by have := hlt k h2; have := hk3 k h1; omega
  have HAQ : Hid (∀ k ∈ a.all, k ∉ q.all) := Lib.hid fun k h1 h2 => HQA.out k h2 h1
  have HKQ : Hid (∀ k ∈ q.all, w.heap.size ≤ k) := Lib.hid fun k hk => Nat.le_trans HC2.out.size (hk3 k hk)
  have HV3 := Lib.hid (HV2.out.below hb3 (Nat.le_refl _)); have HQ3 := Lib.hid hq3; have HC3 := Lib.hid (bn HC2.out hb3)
  clear hlt hb3 hk3 hq3 HV2 HC2 HM HQN
  go_wp2
  go_loopw [58] (fun s58 wr => ∃ (j : Nat) (X : Rv), s58 = .int .i64 j ∧ j ≤ xs.length ∧ Hid (RvAt X a wr) ∧ Hid (RqAt X q wr) ∧ Hid (PlayR n j X) ∧ Hid (Below w.heap.size w wr)) (fun s58 _ => xs.length - (intOf s58).toNat)
  case atStart => exact ⟨0, R0, rfl, Nat.zero_le _, HV3, HQ3, HL0, HC3⟩
  case round =>
    clear HV3 HQ3 HC3 HL0
    obtain ⟨wo, rfl⟩ : ∃ wo : World, wo = wr := ⟨_, rfl⟩
    obtain ⟨j, X, rfl, hj, HV, HQ, HL, HC⟩ := hrel
    by_cases hlt : j < xs.length
    · have hx := List.getElem?_eq_getElem hlt
      obtain ⟨gx, ox, rfl, hcl⟩ := HXS.out (by intro e; subst e; simp at hlt)
      have hfc := hcl j _ hx
      generalize hff : xs[j] = f at *
      obtain ⟨q0, q1, q2, q3, q4, q5⟩ := hfc
      have r0 := (HC.out.cell (World.block_lt_of_cell? w _ q0)).trans q0
      have r1 := (HC.out.cell (World.block_lt_of_cell? w _ q1)).trans q1
      have r2 := (HC.out.cell (World.block_lt_of_cell? w _ q2)).trans q2
      have r3 := (HC.out.cell (World.block_lt_of_cell? w _ q3)).trans q3
      have r4 := (HC.out.cell (World.block_lt_of_cell? w _ q4)).trans q4
      have r5 := (HC.out.cell (World.block_lt_of_cell? w _ q5)).trans q5
      clear q0 q1 q2 q3 q4 q5 hcl HXS hx hff
      have hjI : (j : Int) < (xs.length : Int) := by omega
      have hba := (Below.refl wo.heap.size wo).alloc (Nat.le_refl _) (.cells #[.int .i64 f.k, .int .i64 f.s, .int .i64 f.e, .int .i64 f.i, .int .i64 f.t, .string f.d] 32)
      by_cases hdb : 2000 < (f.d.size : Int)
      · have hdd : decide (2000 < (f.d.size : Int)) = true := decide_eq_true hdb
        have HCA := Lib.hid (bn HC.out hba)
        clear hba
        go_wp2
        go_ret
        exact ⟨rfl, HCA.out⟩
      · have hdd : decide (2000 < (f.d.size : Int)) = false := decide_eq_false hdb
        have hp := heap_alloc_new wo (.cells #[.int .i64 f.k, .int .i64 f.s, .int .i64 f.e, .int .i64 f.i, .int .i64 f.t, .string f.d] 32)
        have HCA := Lib.hid (bn HC.out hba); have HVA := Lib.hid (HV.out.below hba (Nat.le_refl _)); have HQA0 := Lib.hid (HQ.out.below hba (Nat.le_refl _))
        have hcf := fr_row_cells hp
        have hVD := HVA.out.below ((Below.refl _ (wo.alloc (.cells #[.int .i64 f.k, .int .i64 f.s, .int .i64 f.e, .int .i64 f.i, .int .i64 f.t, .string f.d] 32))).drew) (Nat.le_refl _)
        have hQD := HQA0.out.below ((Below.refl _ (wo.alloc (.cells #[.int .i64 f.k, .int .i64 f.s, .int .i64 f.e, .int .i64 f.i, .int .i64 f.t, .string f.d] 32))).drew) (Nat.le_refl _)
        have hTX : Calls Try.prog 18 #[.pointer (some ⟨a.g, 0, none⟩), .agg #[.int .i64 f.k, .int .i64 f.s, .int .i64 f.e, .int .i64 f.i, .int .i64 f.t, .string f.d]] _ (TakePost X a _ (X.take f)) := Take_calls _ X a f hVD (by have := HL.out.c; omega) (fun e => by have := HL.out.d e; omega)
        have hTQ : ∀ w1, RqAt X q w1 → Calls Try.prog 24 #[.pointer (some ⟨q.g, 0, none⟩), .agg #[.int .i64 f.k, .int .i64 f.s, .int .i64 f.e, .int .i64 f.i, .int .i64 f.t, .string f.d]] w1 (QTakePost X q w1 (X.take f)) := fun w1 h => QTake_calls w1 X q f h (fun e => by have := HL.out.d e; omega)
        have ht2 := HL.out.take f
        have hPD : (wo.alloc (.cells #[.int .i64 f.k, .int .i64 f.s, .int .i64 f.e, .int .i64 f.i, .int .i64 f.t, .string f.d] 32)).drew.heap[wo.heap.size]? = _ := hp
        have HP := Lib.hid hPD
        have hlt0 : wo.heap.size < (wo.alloc (.cells #[.int .i64 f.k, .int .i64 f.s, .int .i64 f.e, .int .i64 f.i, .int .i64 f.t, .string f.d] 32)).drew.heap.size := (Array.getElem?_eq_some_iff.1 hPD).1
        generalize X.take f = rx at hTX hTQ ht2
        obtain ⟨c, X'⟩ := rx
        unfold TakePost at hTX
        unfold QTakePost at hTQ
        simp only at hTX hTQ ht2
        have n1 : wo.heap.size ∉ a.all := fun h => by have := HV.out.lt _ h; omega
        have n2 : wo.heap.size ∉ q.all := fun h => by have := HQ.out.lt _ h; omega
        have HN1 := Lib.hid n1; have HN2 := Lib.hid n2
        have hka := fun w (h : RvAt X' a w) => RAck_calls w X' a h
        have hkq := fun w (h : RqAt X' q w) => QAck_calls w X' q h
        have hdo := fun w (h : RvAt X' a w) => RDone_calls w X' a h
        have hba2 : ∀ w, RqAt X' q w → Calls Try.prog 25 #[.slice (some ⟨q.gi, 0, none⟩) n n] w fun e w' => e = .returned (.int .i64 (baseB X'.B : Nat)) ∧ w = w' := fun w h => by
          have := RBase_calls w X'.B q.gi X'.B.length h.irow (by have := h.le; omega)
          rw [ht2.l] at this
          exact this
        obtain ⟨FB, hFB⟩ : ∃ FB, decide (baseB X'.B = X'.B.length) = FB := ⟨_, rfl⟩
        rw [hFB] at hdo
        rw [ht2.l] at hFB
        have hFI : (((baseB X'.B : Nat) : Int) == (n : Int)) = FB := by
          rw [← hFB, Bool.eq_iff_iff, beq_iff_eq, decide_eq_true_iff]; omega
        have hFF : (FB != FB) = false := by cases FB <;> rfl
        generalize X'.ses = SE at hka hkq
        generalize X'.ep = EP at hka hkq
        generalize baseB X'.B = BA at hka hkq hdo hba2 hFB hFI
        generalize X'.B.length = LE at hka hkq
        generalize tellB X'.B 16 = TE at hka hkq
        have HKA := Lib.hid hka; have HKQA := Lib.hid hkq; have HDO := Lib.hid hdo; have HBA := Lib.hid hba2
        have HTX := Lib.hid hTX; have HTQ := Lib.hid hTQ; have HL2 := Lib.hid ht2; have HL0 := Lib.hid hlt0; have HQD := Lib.hid hQD
        have HLN := Lib.hid HL.out.l; have HLN2 := Lib.hid ht2.l
        have HCD := Lib.hid HCA.out.drew
        clear hba HC HV HQ hp n1 n2 hdb hPD hTX hTQ ht2 hlt0 hVD hQD HCA HVA HQA0 hka hkq hdo hba2 hFB HL
        go_wp2_with fail
        clear r0 r1 r2 r3 r4 r5
        generalize wo.alloc _ = x0 at *
        generalize wo.heap.size = b at *
        clear hcf
        have hcc : ((c : Int) != (c : Int)) = false := by simp
        refine wp_region_held_drew (S := fun w' => w'.cell? ⟨b, 0, none⟩ = some (.int .i64 f.k) ∧ w'.cell? ⟨b, 1, none⟩ = some (.int .i64 f.s) ∧ w'.cell? ⟨b, 2, none⟩ = some (.int .i64 f.e) ∧ w'.cell? ⟨b, 3, none⟩ = some (.int .i64 f.i) ∧ w'.cell? ⟨b, 4, none⟩ = some (.int .i64 f.t) ∧ w'.cell? ⟨b, 5, none⟩ = some (.string f.d) ∧ w'.cell? ⟨q.g, 2, none⟩ = some (.slice (some ⟨q.gi, 0, none⟩) n n)) (by kernel_rfl) (plays_cells HP.out HQD.out HLN.out) (fun hS => ?_)
        refine wpAnyH_take (i := 0) (v := ?rptkv0) rfl (by kernel_rfl) (by kernel_rfl) (by kernel_rfl) (fun _ _ _ h => h) (Or.inl ⟨by rfl, ?rptky0⟩) (by assumption) ?rptkr0
        case rptky0 => (intro w hSw; (try dsimp only at hSw); go_simp; with_reducible rfl)
        simp only [Act.put, List.getElem_toArray, List.getElem_cons_succ, List.getElem_cons_zero, List.setIfInBounds_toArray, List.set_cons_zero, List.set_cons_succ]
        refine wpAnyH_take (i := 1) (v := ?rptkv1) rfl (by kernel_rfl) (by kernel_rfl) (by kernel_rfl) (fun _ _ _ h => h) (Or.inl ⟨by rfl, ?rptky1⟩) (by assumption) ?rptkr1
        case rptky1 => (intro w hSw; (try dsimp only at hSw); go_simp; with_reducible rfl)
        simp only [Act.put, List.getElem_toArray, List.getElem_cons_succ, List.getElem_cons_zero, List.setIfInBounds_toArray, List.set_cons_zero, List.set_cons_succ]
        refine wpAnyH_take (i := 3) (v := ?rptkv3) rfl (by kernel_rfl) (by kernel_rfl) (by kernel_rfl) (fun _ _ _ h => h) (Or.inl ⟨by rfl, ?rptky3⟩) (by assumption) ?rptkr3
        case rptky3 => (intro w hSw; (try dsimp only at hSw); go_simp; with_reducible rfl)
        simp only [Act.put, List.getElem_toArray, List.getElem_cons_succ, List.getElem_cons_zero, List.setIfInBounds_toArray, List.set_cons_zero, List.set_cons_succ]
        refine wpAnyH_take (i := 4) (v := ?rptkv4) rfl (by kernel_rfl) (by kernel_rfl) (by kernel_rfl) (fun _ _ _ h => h) (Or.inl ⟨by rfl, ?rptky4⟩) (by assumption) ?rptkr4
        case rptky4 => (intro w hSw; (try dsimp only at hSw); go_simp; with_reducible rfl)
        simp only [Act.put, List.getElem_toArray, List.getElem_cons_succ, List.getElem_cons_zero, List.setIfInBounds_toArray, List.set_cons_zero, List.set_cons_succ]
        refine wpAnyH_ready (rs := [2]) (by kernel_rfl) (by simp) ?_
        refine AllReadyH.cons rfl (fun K hK => ?_) AllReadyH.nil
        go_simp
        go_at_call 18
        with_reducible refine (HTX.out).mono ?_
        rintro e x1 ⟨rfl, hv1, hg1⟩
        have hr1 := (hg1.other _ HL0.out HN1.out).trans HP.out
        have hq1 := HQD.out.chg hg1 HQA.out
        have HV1 := Lib.hid hv1; have HR1 := Lib.hid hr1; have HQ1 := Lib.hid hq1
        have HC1 := Lib.hid (HCD.out.trans (hg1.below HK.out HCD.out.size))
        clear hv1 hr1 hq1 hg1 HTX HP HQD HCD HL0
        go_simp
        refine hK.out _ _ (plays_cells HR1.out HQ1.out HLN.out) (fun hS1 => ?_)
        clear hK K hS
        refine wpAnyH_ready (rs := [5]) (by kernel_rfl) (by simp) ?_
        refine AllReadyH.cons rfl (fun K hK => ?_) AllReadyH.nil
        go_simp
        go_at_call 24
        with_reducible refine (HTQ.out _ HQ1.out).mono ?_
        rintro e x2 ⟨rfl, hq2, hg2⟩
        have hr2 := (hg2.other _ (Array.getElem?_eq_some_iff.1 HR1.out).1 HN2.out).trans HR1.out
        have hv2 := HV1.out.chg hg2 HAQ.out
        have HV2 := Lib.hid hv2; have HR2 := Lib.hid hr2; have HQ2 := Lib.hid hq2
        have HC2 := Lib.hid (HC1.out.trans (hg2.below HKQ.out HC1.out.size))
        clear hv2 hr2 hq2 hg2 HTQ HV1 HR1 HQ1 HC1
        go_simp
        refine hK.out _ _ (plays_cells HR2.out HQ2.out HLN2.out) (fun hS2 => ?_)
        clear hK K hS1
        refine wpAnyH_take (i := 6) (v := ?rptkv6) rfl (by kernel_rfl) (by kernel_rfl) (by kernel_rfl) (fun _ _ _ h => h) (Or.inl ⟨by rfl, ?rptky6⟩) (by assumption) ?rptkr6
        case rptky6 => (intro w hSw; (try dsimp only at hSw); go_simp; with_reducible rfl)
        simp only [Act.put, List.getElem_toArray, List.getElem_cons_succ, List.getElem_cons_zero, List.setIfInBounds_toArray, List.set_cons_zero, List.set_cons_succ]
        refine wpAnyH_take (i := 7) (v := ?rptkv7) rfl (by kernel_rfl) (by kernel_rfl) (by kernel_rfl) (fun _ _ _ h => h) (Or.inl ⟨by rfl, ?rptky7⟩) (by assumption) ?rptkr7
        case rptky7 => (intro w hSw; (try dsimp only at hSw); go_simp; with_reducible rfl)
        simp only [Act.put, List.getElem_toArray, List.getElem_cons_succ, List.getElem_cons_zero, List.setIfInBounds_toArray, List.set_cons_zero, List.set_cons_succ]
        refine wpAnyH_take (i := 8) (v := ?rptkv8) rfl (by kernel_rfl) (by kernel_rfl) (by kernel_rfl) (fun _ _ _ h => h) (Or.inl ⟨by rfl, ?rptky8⟩) (by assumption) ?rptkr8
        case rptky8 => (intro w hSw; (try dsimp only at hSw); go_simp; with_reducible rfl)
        simp only [Act.put, List.getElem_toArray, List.getElem_cons_succ, List.getElem_cons_zero, List.setIfInBounds_toArray, List.set_cons_zero, List.set_cons_succ]
        refine wpAnyH_take (i := 10) (v := ?rptkv10) rfl (by kernel_rfl) (by kernel_rfl) (by kernel_rfl) (fun _ _ _ h => h) (Or.inl ⟨by rfl, ?rptky10⟩) (by assumption) ?rptkr10
        case rptky10 => (intro w hSw; (try dsimp only at hSw); go_simp; with_reducible rfl)
        simp only [Act.put, List.getElem_toArray, List.getElem_cons_succ, List.getElem_cons_zero, List.setIfInBounds_toArray, List.set_cons_zero, List.set_cons_succ]
        refine wpAnyH_ready (rs := [9]) (by kernel_rfl) (by simp) ?_
        refine AllReadyH.cons rfl (fun K hK => ?_) AllReadyH.nil
        go_simp
        go_at_call 14
        with_reducible refine (HKA.out _ HV2.out).mono ?_
        rintro e x3 ⟨rfl, hb⟩
        have HV3 := Lib.hid (HV2.out.below hb (Nat.le_refl _)); have HQ3 := Lib.hid (HQ2.out.below hb (Nat.le_refl _)); have HC3 := Lib.hid (bn HC2.out hb)
        have HR3 := Lib.hid ((hb.block b (Array.getElem?_eq_some_iff.1 HR2.out).1).trans HR2.out)
        clear hb HV2 HQ2 HC2 HR2
        go_simp
        refine hK.out _ _ (plays_cells HR3.out HQ3.out HLN2.out) (fun hS3 => ?_)
        clear hK K hS2
        refine wpAnyH_ready (rs := [11]) (by kernel_rfl) (by simp) ?_
        refine AllReadyH.cons rfl (fun K hK => ?_) AllReadyH.nil
        go_simp
        go_at_call 15
        with_reducible refine (HKQA.out _ HQ3.out).mono ?_
        rintro e x4 ⟨rfl, hb⟩
        have HV4 := Lib.hid (HV3.out.below hb (Nat.le_refl _)); have HQ4 := Lib.hid (HQ3.out.below hb (Nat.le_refl _)); have HC4 := Lib.hid (bn HC3.out hb)
        have HR4 := Lib.hid ((hb.block b (Array.getElem?_eq_some_iff.1 HR3.out).1).trans HR3.out)
        clear hb HV3 HQ3 HC3 HR3
        go_simp
        refine hK.out _ _ (plays_cells HR4.out HQ4.out HLN2.out) (fun hS4 => ?_)
        clear hK K hS3
        refine wpAnyH_take (i := 12) (v := ?rptkv12) rfl (by kernel_rfl) (by kernel_rfl) (by kernel_rfl) (fun _ _ _ h => h) (Or.inl ⟨by rfl, ?rptky12⟩) (by assumption) ?rptkr12
        case rptky12 => (intro w hSw; (try dsimp only at hSw); go_simp; with_reducible rfl)
        simp only [Act.put, List.getElem_toArray, List.getElem_cons_succ, List.getElem_cons_zero, List.setIfInBounds_toArray, List.set_cons_zero, List.set_cons_succ]
        refine wpAnyH_take (i := 13) (v := ?rptkv13) rfl (by kernel_rfl) (by kernel_rfl) (by kernel_rfl) (fun _ _ _ h => h) (Or.inl ⟨by rfl, ?rptky13⟩) (by assumption) ?rptkr13
        case rptky13 => (intro w hSw; (try dsimp only at hSw); go_simp; with_reducible rfl)
        simp only [Act.put, List.getElem_toArray, List.getElem_cons_succ, List.getElem_cons_zero, List.setIfInBounds_toArray, List.set_cons_zero, List.set_cons_succ]
        refine wpAnyH_take (i := 14) (v := ?rptkv14) rfl (by kernel_rfl) (by kernel_rfl) (by kernel_rfl) (fun _ _ _ h => h) (Or.inl ⟨by rfl, ?rptky14⟩) (by assumption) ?rptkr14
        case rptky14 => (intro w hSw; (try dsimp only at hSw); go_simp; with_reducible rfl)
        simp only [Act.put, List.getElem_toArray, List.getElem_cons_succ, List.getElem_cons_zero, List.setIfInBounds_toArray, List.set_cons_zero, List.set_cons_succ]
        refine wpAnyH_take (i := 15) (v := ?rptkv15) rfl (by kernel_rfl) (by kernel_rfl) (by kernel_rfl) (fun _ _ _ h => h) (Or.inl ⟨by rfl, ?rptky15⟩) (by assumption) ?rptkr15
        case rptky15 => (intro w hSw; (try dsimp only at hSw); go_simp; with_reducible rfl)
        simp only [Act.put, List.getElem_toArray, List.getElem_cons_succ, List.getElem_cons_zero, List.setIfInBounds_toArray, List.set_cons_zero, List.set_cons_succ]
        refine wpAnyH_take (i := 17) (v := ?rptkv17) rfl (by kernel_rfl) (by kernel_rfl) (by kernel_rfl) (fun _ _ _ h => h) (Or.inl ⟨by rfl, ?rptky17⟩) (by assumption) ?rptkr17
        case rptky17 => (intro w hSw; (try dsimp only at hSw); go_simp; with_reducible rfl)
        simp only [Act.put, List.getElem_toArray, List.getElem_cons_succ, List.getElem_cons_zero, List.setIfInBounds_toArray, List.set_cons_zero, List.set_cons_succ]
        refine wpAnyH_take (i := 18) (v := ?rptkv18) rfl (by kernel_rfl) (by kernel_rfl) (by kernel_rfl) (fun _ _ _ h => h) (Or.inl ⟨by rfl, ?rptky18⟩) (by assumption) ?rptkr18
        case rptky18 => (intro w hSw; (try dsimp only at hSw); go_simp; with_reducible rfl)
        simp only [Act.put, List.getElem_toArray, List.getElem_cons_succ, List.getElem_cons_zero, List.setIfInBounds_toArray, List.set_cons_zero, List.set_cons_succ]
        refine wpAnyH_take (i := 19) (v := ?rptkv19) rfl (by kernel_rfl) (by kernel_rfl) (by kernel_rfl) (fun _ _ _ h => h) (Or.inl ⟨by rfl, ?rptky19⟩) (by assumption) ?rptkr19
        case rptky19 => (intro w hSw; (try dsimp only at hSw); go_simp; with_reducible rfl)
        simp only [Act.put, List.getElem_toArray, List.getElem_cons_succ, List.getElem_cons_zero, List.setIfInBounds_toArray, List.set_cons_zero, List.set_cons_succ]
        refine wpAnyH_take (i := 20) (v := ?rptkv20) rfl (by kernel_rfl) (by kernel_rfl) (by kernel_rfl) (fun _ _ _ h => h) (Or.inl ⟨by rfl, ?rptky20⟩) (by assumption) ?rptkr20
        case rptky20 => (intro w hSw; (try dsimp only at hSw); go_simp; with_reducible rfl)
        simp only [Act.put, List.getElem_toArray, List.getElem_cons_succ, List.getElem_cons_zero, List.setIfInBounds_toArray, List.set_cons_zero, List.set_cons_succ]
        refine wpAnyH_take (i := 22) (v := ?rptkv22) rfl (by kernel_rfl) (by kernel_rfl) (by kernel_rfl) (fun _ _ _ h => h) (Or.inl ⟨by rfl, ?rptky22⟩) (by assumption) ?rptkr22
        case rptky22 => (intro w hSw; (try dsimp only at hSw); go_simp; with_reducible rfl)
        simp only [Act.put, List.getElem_toArray, List.getElem_cons_succ, List.getElem_cons_zero, List.setIfInBounds_toArray, List.set_cons_zero, List.set_cons_succ]
        refine wpAnyH_ready (rs := [16]) (by kernel_rfl) (by simp) ?_
        refine AllReadyH.cons rfl (fun K hK => ?_) AllReadyH.nil
        go_simp
        go_at_call 20
        with_reducible refine (HDO.out _ HV4.out).mono ?_
        rintro e x5 ⟨rfl, hb⟩
        have HV5 := Lib.hid (HV4.out.below hb (Nat.le_refl _)); have HQ5 := Lib.hid (HQ4.out.below hb (Nat.le_refl _)); have HC5 := Lib.hid (bn HC4.out hb)
        have HR5 := Lib.hid ((hb.block b (Array.getElem?_eq_some_iff.1 HR4.out).1).trans HR4.out)
        clear hb HV4 HQ4 HC4 HR4
        go_simp
        refine hK.out _ _ (plays_cells HR5.out HQ5.out HLN2.out) (fun hS5 => ?_)
        clear hK K hS4
        refine wpAnyH_ready (rs := [21]) (by kernel_rfl) (by simp) ?_
        refine AllReadyH.cons rfl (fun K hK => ?_) AllReadyH.nil
        go_simp
        go_at_call 25
        with_reducible refine (HBA.out _ HQ5.out).mono ?_
        rintro e x6 ⟨rfl, rfl⟩
        go_simp
        refine hK.out _ _ hS5 (fun hS6 => ?_)
        clear hK K hS5
        refine wpAnyH_take (i := 23) (v := ?rptkv23) rfl (by kernel_rfl) (by kernel_rfl) (by kernel_rfl) (fun _ _ _ h => h) (Or.inl ⟨by rfl, ?rptky23⟩) (by assumption) ?rptkr23
        case rptky23 => (intro w hSw; (try dsimp only at hSw); go_simp; with_reducible rfl)
        simp only [Act.put, List.getElem_toArray, List.getElem_cons_succ, List.getElem_cons_zero, List.setIfInBounds_toArray, List.set_cons_zero, List.set_cons_succ]
        refine wpAnyH_take (i := 24) (v := ?rptkv24) rfl (by kernel_rfl) (by kernel_rfl) (by kernel_rfl) (fun _ _ _ h => h) (Or.inl ⟨by rfl, ?rptky24⟩) (by assumption) ?rptkr24
        case rptky24 => (intro w hSw; (try dsimp only at hSw); go_simp; with_reducible rfl)
        simp only [Act.put, List.getElem_toArray, List.getElem_cons_succ, List.getElem_cons_zero, List.setIfInBounds_toArray, List.set_cons_zero, List.set_cons_succ]
        refine wpAnyH_take (i := 25) (v := ?rptkv25) rfl (by kernel_rfl) (by kernel_rfl) (by kernel_rfl) (fun _ _ _ h => h) (Or.inl ⟨by rfl, ?rptky25⟩) (by assumption) ?rptkr25
        case rptky25 => (intro w hSw; (try dsimp only at hSw); go_simp; with_reducible rfl)
        simp only [Act.put, List.getElem_toArray, List.getElem_cons_succ, List.getElem_cons_zero, List.setIfInBounds_toArray, List.set_cons_zero, List.set_cons_succ]
        refine wpAnyH_done (by kernel_rfl) ?_ _
        clear hS6 HR5
        go_wp2
        exact ⟨⟨j + 1, X', by go_num, by omega, HV5, HQ5, HL2, HC5⟩, by simp only [intOf]; omega⟩
    · obtain rfl : j = xs.length := by omega
      have djx : decide ((xs.length : Int) < (xs.length : Int)) = false := decide_eq_false (by omega)
      have c4 := HQ.out.cells.2.2.2.2
      go_wp2
      go_loopw [98] (fun s98 wr => ∃ k : Nat, s98 = .int .i64 k ∧ k ≤ 20 ∧ Hid (wr = wo)) (fun s98 _ => 20 - (intOf s98).toNat)
      case atStart => exact ⟨0, rfl, Nat.zero_le _, by first | exact Lib.hid rfl | exact Lib.hid trivial⟩
      case round =>
        obtain ⟨k, rfl, hk, hwr⟩ := hrel
        obtain rfl := hwr.out
        by_cases hk20 : k < 20
        · have hkI : (k : Int) < 20 := by omega
          have kd := HQ.out.dcell k hk20
          have hdr := RDrops_calls wr X a k HV.out (by omega)
          have hne : (((X.D (k : Int) : Nat) : Int) != ((X.D (k : Int) : Nat) : Int)) = false := by simp
          generalize X.D (k : Int) = DD at *
          have HDR := Lib.hid hdr
          clear hdr
          go_wp2_with fail
          refine HDR.out.mono ?_
          rintro e w5 ⟨rfl, rfl⟩
          go_wp2
          exact ⟨⟨k + 1, by go_num, by omega, by first | exact Lib.hid rfl | exact Lib.hid trivial⟩, by simp only [intOf]; omega⟩
        · obtain rfl : k = 20 := by omega
          have dk : decide (((20 : Nat) : Int) < 20) = false := by decide
          clear c4
          have hqa := fun w (h : RqAt X q w) => QData_calls w X q h
          by_cases hf : baseB X.B = X.B.length
          · have hda := Data_full wr X a HV.out hf
            rw [if_pos hf, decide_eq_true hf] at hqa
            generalize bstr (flatC X.C) = DS at hda hqa
            have HDA := Lib.hid hda; have HQD := Lib.hid hqa
            clear hda hqa hf
            go_wp2_with fail
            refine HDA.out.mono ?_
            rintro e y1 ⟨rfl, hb⟩
            have HV1 := Lib.hid (HV.out.below hb (Nat.le_refl _)); have HQ1 := Lib.hid (HQ.out.below hb (Nat.le_refl _)); have HC1 := Lib.hid (bn HC.out hb)
            clear hb HV HQ HC HDA
            go_wp2_with fail
            refine (HQD.out _ HQ1.out).mono ?_
            rintro e y2 ⟨rfl, rfl⟩
            have HV := HV1; have HQ := HQ1; have HC := HC1
            clear HV1 HQ1 HC1 HQD
            obtain ⟨wc, rfl⟩ : ∃ wc : World, wc = y1 := ⟨_, rfl⟩
            have c2 := HQ.out.cells.2.2.1
            rw [HL.out.l] at c2
            have k2 := cell_regrown c2
            obtain ⟨CB, hCB⟩ : ∃ CB, X.B.count true = CB := ⟨_, rfl⟩
            obtain ⟨CU, hCU⟩ : ∃ CU, bstr X.curL = CU := ⟨_, rfl⟩
            have HCB := Lib.hid hCB
            clear c2
            have cCu : ∀ d os, Calls Try.prog 13 #[.pointer (some ⟨a.g, 0, none⟩)] (Sort.grow (redrawn wc d) os) fun e w'' => e = .returned (.string CU) ∧ Lib.Grows (Sort.grow (redrawn wc d) os) w'' := fun d os => by
              have := RCur_calls _ X a (HV.out.below (below_regrown wc d os) (Nat.le_refl _))
              rw [hCU] at this
              exact Lib.Calls.grows_of this
            have cQC : ∀ d os, Calls Try.prog 27 #[.pointer (some ⟨q.g, 0, none⟩)] (Sort.grow (redrawn wc d) os) fun e w'' => e = .returned (.string CU) ∧ Lib.Grows (Sort.grow (redrawn wc d) os) w'' := fun d os => by
              have := QCur_calls _ X q (HQ.out.below (below_regrown wc d os) (Nat.le_refl _))
              rw [hCU] at this
              exact Lib.Calls.grows_of this
            have cRC : ∀ d os, Calls Try.prog 29 #[.slice (some ⟨q.gi, 0, none⟩) n n] (Sort.grow (redrawn wc d) os) fun e w'' => e = .returned (.int .i64 (CB : Nat)) ∧ Lib.Grows (Sort.grow (redrawn wc d) os) w'' := fun d os => by
              have := RCount_calls _ X.B q.gi X.B.length (HQ.out.below (below_regrown wc d os) (Nat.le_refl _)).irow (by have := HQ.out.le; omega)
              rw [HL.out.l, hCB] at this
              exact (this).mono fun e w' ⟨h1, h2⟩ => ⟨h1, by subst h2; exact Lib.Grows.refl _⟩
            have cTh : ∀ d os, Calls Try.prog 21 #[.pointer (some ⟨a.g, 0, none⟩)] (Sort.grow (redrawn wc d) os) fun e w'' => ∃ u, e = .returned u ∧ Lib.Grows (Sort.grow (redrawn wc d) os) w'' ∧ MpPost X.B u w'' := fun d os => (RThere_calls _ X a (HV.out.below (below_regrown wc d os) (Nat.le_refl _))).mono fun e w' ⟨h1, h2, h3, _⟩ => ⟨_, h1, h3, _, rfl, h2⟩
            have HCC := Lib.hid HC.out
            clear hCB hCU
            go_wp2_with fail
            refine Lib.wp_region_made 35 (fun k => if k = 25 then some (MpPost X.B) else none) (by kernel_rfl) (by kernel_rfl) (fun k Post h v w w' hp hg => ?_) ?_
            · simp only [] at h
              split at h
              · cases h; exact hp.grows hg
              · cases h
            simp only [List.take_succ_cons, List.take_zero, List.drop_succ_cons, List.drop_zero]
            iterate 25 (refine Lib.wpML_step (by rfl) (fun K hK => ?_); go_simp; first | (refine hK _ ?_; clear hK K) | (apply Exists.intro; refine ⟨fun _ => ?_, hK _ ?_⟩; (first | (refine ⟨?_, by with_reducible exact cCu _ _⟩; exact Lib.noInit (by kernel_rfl)) | (refine ⟨?_, by with_reducible exact cQC _ _⟩; exact Lib.noInit (by kernel_rfl)) | (refine ⟨?_, by with_reducible exact cRC _ _⟩; exact Lib.noInit (by kernel_rfl))); clear hK K))
            refine Lib.wpML_make (Post := MpPost X.B) (by rfl) (fun K hK => ?_)
            go_simp
            first | refine fun va => hK _ _ ?_ | refine ⟨fun _ => cTh _ _, fun va => hK _ _ ?_⟩
            clear hK K
            rintro ⟨wv, hbv, gv, rfl, hmv⟩
            clear hbv hmv wv
            have cUse : ∀ d os, MpPost X.B (.pointer (some ⟨gv, 0, none⟩)) (Sort.grow (redrawn wc d) os) → Calls Try.prog 28 #[.pointer (some ⟨gv, 0, none⟩)] (Sort.grow (redrawn wc d) os) fun e w'' => e = .returned (.int .i64 (CB : Nat)) ∧ Lib.Grows (Sort.grow (redrawn wc d) os) w'' := fun d os h => by
              obtain ⟨g2, h1, h2⟩ := h
              cases h1
              have := Count_calls _ _ X.B h2
              rw [HCB.out] at this
              exact (this).mono fun e w' ⟨h1, h2⟩ => ⟨h1, by subst h2; exact Lib.Grows.refl _⟩
            refine Lib.wpML_use 25 (MpPost X.B (.pointer (some ⟨gv, 0, none⟩))) (by rfl) (by kernel_rfl) (fun w h => h.2 rfl) (fun K hK => ?_)
            go_simp
            apply Exists.intro
            refine ⟨fun _ hR => ⟨Lib.noInit (by kernel_rfl), cUse _ _ hR⟩, hK _ ?_⟩
            clear hK K cUse
            iterate 8 (refine Lib.wpML_step (by rfl) (fun K hK => ?_); go_simp; first | (refine hK _ ?_; clear hK K) | (apply Exists.intro; refine ⟨fun _ => ?_, hK _ ?_⟩; (first | (refine ⟨?_, by with_reducible exact cCu _ _⟩; exact Lib.noInit (by kernel_rfl)) | (refine ⟨?_, by with_reducible exact cQC _ _⟩; exact Lib.noInit (by kernel_rfl)) | (refine ⟨?_, by with_reducible exact cRC _ _⟩; exact Lib.noInit (by kernel_rfl))); clear hK K))
            refine Lib.wpML_nil ?_
            intro wz hwz _
            have HBZ := Lib.hid (bn HC.out (Lib.Behind.below hwz))
            clear hwz cCu cQC cRC cTh k2
            go_wp2
            go_ret
            exact ⟨rfl, HBZ.out⟩
          · have hda := Data_open wr X a HV.out hf
            rw [if_neg hf, decide_eq_false hf] at hqa
            have HDA := Lib.hid hda; have HQD := Lib.hid hqa
            clear hda hqa hf
            go_wp2_with fail
            refine HDA.out.mono ?_
            rintro e y1 ⟨rfl, hb⟩
            have HV1 := Lib.hid (HV.out.below hb (Nat.le_refl _)); have HQ1 := Lib.hid (HQ.out.below hb (Nat.le_refl _)); have HC1 := Lib.hid (bn HC.out hb)
            clear hb HV HQ HC HDA
            go_wp2_with fail
            refine (HQD.out _ HQ1.out).mono ?_
            rintro e y2 ⟨rfl, rfl⟩
            have HV := HV1; have HQ := HQ1; have HC := HC1
            clear HV1 HQ1 HC1 HQD
            obtain ⟨wc, rfl⟩ : ∃ wc : World, wc = y1 := ⟨_, rfl⟩
            have c2 := HQ.out.cells.2.2.1
            rw [HL.out.l] at c2
            have k2 := cell_regrown c2
            obtain ⟨CB, hCB⟩ : ∃ CB, X.B.count true = CB := ⟨_, rfl⟩
            obtain ⟨CU, hCU⟩ : ∃ CU, bstr X.curL = CU := ⟨_, rfl⟩
            have HCB := Lib.hid hCB
            clear c2
            have cCu : ∀ d os, Calls Try.prog 13 #[.pointer (some ⟨a.g, 0, none⟩)] (Sort.grow (redrawn wc d) os) fun e w'' => e = .returned (.string CU) ∧ Lib.Grows (Sort.grow (redrawn wc d) os) w'' := fun d os => by
              have := RCur_calls _ X a (HV.out.below (below_regrown wc d os) (Nat.le_refl _))
              rw [hCU] at this
              exact Lib.Calls.grows_of this
            have cQC : ∀ d os, Calls Try.prog 27 #[.pointer (some ⟨q.g, 0, none⟩)] (Sort.grow (redrawn wc d) os) fun e w'' => e = .returned (.string CU) ∧ Lib.Grows (Sort.grow (redrawn wc d) os) w'' := fun d os => by
              have := QCur_calls _ X q (HQ.out.below (below_regrown wc d os) (Nat.le_refl _))
              rw [hCU] at this
              exact Lib.Calls.grows_of this
            have cRC : ∀ d os, Calls Try.prog 29 #[.slice (some ⟨q.gi, 0, none⟩) n n] (Sort.grow (redrawn wc d) os) fun e w'' => e = .returned (.int .i64 (CB : Nat)) ∧ Lib.Grows (Sort.grow (redrawn wc d) os) w'' := fun d os => by
              have := RCount_calls _ X.B q.gi X.B.length (HQ.out.below (below_regrown wc d os) (Nat.le_refl _)).irow (by have := HQ.out.le; omega)
              rw [HL.out.l, hCB] at this
              exact (this).mono fun e w' ⟨h1, h2⟩ => ⟨h1, by subst h2; exact Lib.Grows.refl _⟩
            have cTh : ∀ d os, Calls Try.prog 21 #[.pointer (some ⟨a.g, 0, none⟩)] (Sort.grow (redrawn wc d) os) fun e w'' => ∃ u, e = .returned u ∧ Lib.Grows (Sort.grow (redrawn wc d) os) w'' ∧ MpPost X.B u w'' := fun d os => (RThere_calls _ X a (HV.out.below (below_regrown wc d os) (Nat.le_refl _))).mono fun e w' ⟨h1, h2, h3, _⟩ => ⟨_, h1, h3, _, rfl, h2⟩
            have HCC := Lib.hid HC.out
            clear hCB hCU
            go_wp2_with fail
            refine Lib.wp_region_made 35 (fun k => if k = 25 then some (MpPost X.B) else none) (by kernel_rfl) (by kernel_rfl) (fun k Post h v w w' hp hg => ?_) ?_
            · simp only [] at h
              split at h
              · cases h; exact hp.grows hg
              · cases h
            simp only [List.take_succ_cons, List.take_zero, List.drop_succ_cons, List.drop_zero]
            iterate 25 (refine Lib.wpML_step (by rfl) (fun K hK => ?_); go_simp; first | (refine hK _ ?_; clear hK K) | (apply Exists.intro; refine ⟨fun _ => ?_, hK _ ?_⟩; (first | (refine ⟨?_, by with_reducible exact cCu _ _⟩; exact Lib.noInit (by kernel_rfl)) | (refine ⟨?_, by with_reducible exact cQC _ _⟩; exact Lib.noInit (by kernel_rfl)) | (refine ⟨?_, by with_reducible exact cRC _ _⟩; exact Lib.noInit (by kernel_rfl))); clear hK K))
            refine Lib.wpML_make (Post := MpPost X.B) (by rfl) (fun K hK => ?_)
            go_simp
            first | refine fun va => hK _ _ ?_ | refine ⟨fun _ => cTh _ _, fun va => hK _ _ ?_⟩
            clear hK K
            rintro ⟨wv, hbv, gv, rfl, hmv⟩
            clear hbv hmv wv
            have cUse : ∀ d os, MpPost X.B (.pointer (some ⟨gv, 0, none⟩)) (Sort.grow (redrawn wc d) os) → Calls Try.prog 28 #[.pointer (some ⟨gv, 0, none⟩)] (Sort.grow (redrawn wc d) os) fun e w'' => e = .returned (.int .i64 (CB : Nat)) ∧ Lib.Grows (Sort.grow (redrawn wc d) os) w'' := fun d os h => by
              obtain ⟨g2, h1, h2⟩ := h
              cases h1
              have := Count_calls _ _ X.B h2
              rw [HCB.out] at this
              exact (this).mono fun e w' ⟨h1, h2⟩ => ⟨h1, by subst h2; exact Lib.Grows.refl _⟩
            refine Lib.wpML_use 25 (MpPost X.B (.pointer (some ⟨gv, 0, none⟩))) (by rfl) (by kernel_rfl) (fun w h => h.2 rfl) (fun K hK => ?_)
            go_simp
            apply Exists.intro
            refine ⟨fun _ hR => ⟨Lib.noInit (by kernel_rfl), cUse _ _ hR⟩, hK _ ?_⟩
            clear hK K cUse
            iterate 8 (refine Lib.wpML_step (by rfl) (fun K hK => ?_); go_simp; first | (refine hK _ ?_; clear hK K) | (apply Exists.intro; refine ⟨fun _ => ?_, hK _ ?_⟩; (first | (refine ⟨?_, by with_reducible exact cCu _ _⟩; exact Lib.noInit (by kernel_rfl)) | (refine ⟨?_, by with_reducible exact cQC _ _⟩; exact Lib.noInit (by kernel_rfl)) | (refine ⟨?_, by with_reducible exact cRC _ _⟩; exact Lib.noInit (by kernel_rfl))); clear hK K))
            refine Lib.wpML_nil ?_
            intro wz hwz _
            have HBZ := Lib.hid (bn HC.out (Lib.Behind.below hwz))
            clear hwz cCu cQC cRC cTh k2
            go_wp2
            go_ret
            exact ⟨rfl, HBZ.out⟩
theorem ReceiverPlays_walk (a0 a1 a2 : Int) (v3 : Value) (xs : List Fr) (w : World) (w0 : (Lit.int .i64 a0).wf = true) (w1 : (Lit.int .i64 a1).wf = true) (w2 : (Lit.int .i64 a2).wf = true)
    (w3 : Frs w v3 xs ∧ xs.length ≤ 140737488351232) : Calls Try.prog 7 #[.int .i64 a0, .int .i64 a1, .int .i64 a2, v3] w fun e w' => e = .returned (.bool true) ∧ Below w.heap.size w w' := by
  obtain ⟨⟨adx, capx, rfl, hxs⟩, hlx⟩ := w3
  by_cases hsh : 200 < xs.length ∨ mayR a0 a1 a2 = false
  · exact ReceiverPlays_short a0 a1 a2 xs.length adx capx w hsh
  · have h3 : mayR a0 a1 a2 = true := by cases h : mayR a0 a1 a2 <;> simp_all
    obtain ⟨n, rfl⟩ : ∃ n : Nat, a2 = n := ⟨a2.toNat, by have := mayR_true h3; omega⟩
    exact ReceiverPlays_main a0 a1 n xs adx capx w (by omega) h3 (fun h => by obtain ⟨g, o, h1, h2⟩ := hxs h; exact ⟨g, o, h1, fun j x hj => (h2 j x hj).1⟩)
end Go.Proofs.Ytpgcdfdfbcmodaa
