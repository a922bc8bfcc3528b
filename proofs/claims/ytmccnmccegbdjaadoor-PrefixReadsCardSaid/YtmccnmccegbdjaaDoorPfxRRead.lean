/- The walk of the reference's Read. (Printed by wip/print/pfxrread.py.) -/
import Derived.Test.YtmccnmccegbdjaaDoorPfxRMk
import Derived.Test.YtmccnmccegbdjaaDoorPfxRead2
import Derived.Deep.RegionHeld
namespace Go.Proofs.YtmccnmccegbdjaaDoor
open Go.RowKit Go.Sort
set_option linter.unusedVariables false
set_option linter.unusedSimpArgs false
theorem UpV.px2 {g k : Nat} {p : Px} {w w' : World} (hu : UpV g w w') (h : PxAt k p w) (hk : k ≠ g) : PxAt k p w' := ⟨(hu.other k hk).trans h.1, h.2⟩
theorem built_px1 (n : Int) : Tryd.prog.built 30 [(2, .int .i64 n)] = some (⟨false, zs, n⟩ : Px).row := by kernel_rfl
theorem exec_build_px1 {a : Act} {o : Oper} {z : Operand} (ho : o.op = .build 30 #[(2, z)]) (w : World) {n : Int} (hz : a.eval z = .int .i64 n) :
    (execOp a.eval o).run Tryd.prog w = .ok (.value (.agg (⟨false, zs, n⟩ : Px).row)) w := by
  have h := run_build (P := Tryd.prog) w 30 #[(2, .int .i64 n)] _ (built_px1 n)
  unfold execOp
  simp only [ho, List.map_toArray, List.map_cons, List.map_nil, hz, Sem.run_bind, h, Result.andThen_ok, Sem.run_pure]
/-- The first bytes laid, the others nought. -/
def fillL (s : ByteArray) (i : Nat) : List Nat := (padL s).take i ++ List.replicate (16 - i) 0
theorem fillL_len (s : ByteArray) (hs : s.size ≤ 16) (i : Nat) (hi : i ≤ 16) : (fillL s i).length = 16 := by
  unfold fillL; rw [List.length_append, List.length_take, padL_length s hs, List.length_replicate]; omega
theorem fillL_get (s : ByteArray) (hs : s.size ≤ 16) (i j : Nat) (hi : i ≤ 16) : (fillL s i).getD j 0 = if j < i then (padL s).getD j 0 else 0 := by
  have h1 : ((padL s).take i).length = i := by rw [List.length_take, padL_length s hs]; omega
  unfold fillL
  rw [List.getD_eq_getElem?_getD]
  split
  · rename_i h
    rw [List.getElem?_append_left (by omega), List.getElem?_take, if_pos h, List.getD_eq_getElem?_getD]
  · rename_i h
    rw [List.getElem?_append_right (by omega), List.getElem?_replicate]
    split <;> rfl
theorem fillL_none (s : ByteArray) : fillL s 0 = zs := rfl
theorem fillL_step (s : ByteArray) (hs : s.size ≤ 16) (i : Nat) (hi : i < 16) : fillL s (i + 1) = (fillL s i).set i ((padL s).getD i 0) := by
  apply list_ext_getD
  · rw [List.length_set, fillL_len s hs _ (by omega), fillL_len s hs _ (by omega)]
  · intro j hj
    rw [fillL_len s hs _ (by omega)] at hj
    rw [fillL_get s hs _ _ (by omega)]
    by_cases hji : j = i
    · subst hji
      rw [if_pos (by omega), List.getD_eq_getElem?_getD (l := List.set _ _ _), List.getElem?_set_self (by rw [fillL_len s hs _ (by omega)]; exact hi), Option.getD_some]
    · rw [List.getD_eq_getElem?_getD (l := List.set _ _ _), List.getElem?_set_ne (fun h => hji h.symm), ← List.getD_eq_getElem?_getD, fillL_get s hs _ _ (by omega)]
      by_cases h : j < i
      · rw [if_pos h, if_pos (by omega)]
      · rw [if_neg h, if_neg (by omega)]
theorem fillL_all (s : ByteArray) (hs : s.size ≤ 16) : fillL s s.size = padL s := by
  unfold fillL padL
  rw [List.take_append_of_le_length (by rw [sl_length]; exact Nat.le_refl _), List.take_of_length_le (by rw [sl_length]; exact Nat.le_refl _)]
theorem step_skip {P : Program} {ops : Array Oper} {o : Oper} {a : Act} {w w' : World} {K : Act → World → Prop} {Q : Exit → Act → World → Prop} {E : Prop} (hw : Region.wanted o (yielded ops a.tmps) = true)
    (hrun : (execOp a.eval o).run P w = .ok .skip w') (hK : K (a.put o.dst undef) w') : if Region.wanted o (yielded ops a.tmps) = true then Oper.wp P o a w K Q else E := by
  rw [if_pos hw]
  unfold Oper.wp
  rw [hrun]
  simp only [Oper.upon]
  exact hK
def RReadPost (g : Nat) (l : List UInt8) (w : World) (e : Ending) (w' : World) : Prop :=
  e = .returned (.tuple #[.agg (readR l).1.row, .int .i64 (readR l).2.1]) ∧ RRd g (readR l).2.2.1 (readR l).2.2.2 w' ∧ Keeps g w w'
set_option maxRecDepth 100000 in
set_option maxHeartbeats 16000000 in
theorem RRead_calls (w : World) (g : Nat) (l : List UInt8) (h : RRd g l 0 w) : Calls Tryd.prog 12 #[.pointer (some ⟨g, 0, none⟩)] w (RReadPost g l w) := by
  have hg := h.lt
  have hb0 := (Below.refl w.heap.size w).alloc (Nat.le_refl _) (.cells Px.zero.row 30)
  have h0 := PxAt.new w Px.zero (by rfl)
  have hr0 := h.below ((Below.refl w.heap.size w).alloc (Nat.le_refl _) (.cells Px.zero.row 30))
  have HB0 := Lib.hid (Keeps.ofBelow (g := g) hb0); have H0 := Lib.hid h0; have HR0 := Lib.hid hr0; have HG := Lib.hid hg; clear hb0 h0 h hr0 hg
  unfold RReadPost
  obtain ⟨rr, hrr⟩ : ∃ rr, rr = readR l := ⟨_, rfl⟩
  rw [← hrr]
  have HRR := Lib.hid hrr; clear hrr
  go_enter Tryd.func12, Tryd.ntmps12
  go_wp2_with fail
  rw [← zero_row]
  generalize w.alloc (.cells Px.zero.row 30) = w1 at *
  cases l with
  | nil =>
    have hR : readR [] = (Px.zero, 3, [], 3) := rfl
    have HR00 := Lib.hid hR; clear hR
    refine (RByte_calls _ g 0 [] HR0.out (by omega)).mono ?_
    rw [show byteR [] 0 = (0, [], 3) from rfl]
    rintro e w2 ⟨rfl, hr, hu⟩
    have HR := Lib.hid hr; have HB := Lib.hid (HB0.out.upv hu)
    have H0' := Lib.hid (hu.px2 H0.out (Nat.ne_of_gt HG.out))
    clear H0; have H0 := H0'; clear H0' hr hu
    have c1 := HR.out.c1
    go_wp2_with fail
    have HR' : Hid (RRd g [] 3 (World.drew w2)) := Lib.hid HR.out
    have H0' : Hid (PxAt w.heap.size Px.zero (World.drew w2)) := Lib.hid H0.out
    have HB' := Lib.hid HB.out.drew
    have c2 : (World.drew w2).cell? ⟨g, 1, none⟩ = some (.int .i64 ((3 : Nat) : Int)) := c1
    refine wp_region_held_drew (S := fun w' => w'.cell? ⟨g, 1, none⟩ = some (.int .i64 ((3 : Nat) : Int))) (by kernel_rfl) c1 (fun hS => ?_)
    clear HR H0 HB; have HR := HR'; have H0 := H0'; have HB := HB'; clear HR' H0' HB' c1
    generalize World.drew w2 = wD at *
    refine wpAnyH_take (i := 0) (v := ?tkva0) rfl (by kernel_rfl) (by kernel_rfl) (by kernel_rfl) (fun _ _ _ h => h) (Or.inl ⟨by rfl, ?tkya0⟩) (by assumption) ?tkra0
    case tkya0 => (intro w hSw; (try dsimp only at hSw); go_simp; with_reducible rfl)
    simp only [Act.put, List.getElem_toArray, List.getElem_cons_succ, List.getElem_cons_zero, List.setIfInBounds_toArray, List.set_cons_zero, List.set_cons_succ]
    refine wpAnyH_take (i := 1) (v := ?tkva1) rfl (by kernel_rfl) (by kernel_rfl) (by kernel_rfl) (fun _ _ _ h => h) (Or.inl ⟨by rfl, ?tkya1⟩) (by assumption) ?tkra1
    case tkya1 => (intro w hSw; (try dsimp only at hSw); go_simp; with_reducible rfl)
    simp only [Act.put, List.getElem_toArray, List.getElem_cons_succ, List.getElem_cons_zero, List.setIfInBounds_toArray, List.set_cons_zero, List.set_cons_succ]
    refine wpAnyH_take (i := 2) (v := ?tkva2) rfl (by kernel_rfl) (by kernel_rfl) (by kernel_rfl) (fun _ _ _ h => h) (Or.inl ⟨by rfl, ?tkya2⟩) (by assumption) ?tkra2
    case tkya2 => (intro w hSw; (try dsimp only at hSw); go_simp; with_reducible rfl)
    simp only [Act.put, List.getElem_toArray, List.getElem_cons_succ, List.getElem_cons_zero, List.setIfInBounds_toArray, List.set_cons_zero, List.set_cons_succ]
    refine wpAnyH_take (i := 3) (v := ?tkva3) rfl (by kernel_rfl) (by kernel_rfl) (by kernel_rfl) (fun _ _ _ h => h) (Or.inl ⟨by rfl, ?tkya3⟩) (by assumption) ?tkra3
    case tkya3 => (intro w hSw; (try dsimp only at hSw); go_simp; with_reducible rfl)
    simp only [Act.put, List.getElem_toArray, List.getElem_cons_succ, List.getElem_cons_zero, List.setIfInBounds_toArray, List.set_cons_zero, List.set_cons_succ]
    refine wpAnyH_take (i := 4) (v := ?tkva4) rfl (by kernel_rfl) (by kernel_rfl) (by kernel_rfl) (fun _ _ _ h => h) (Or.inl ⟨by rfl, ?tkya4⟩) (by assumption) ?tkra4
    case tkya4 => (intro w hSw; (try dsimp only at hSw); go_simp; with_reducible rfl)
    simp only [Act.put, List.getElem_toArray, List.getElem_cons_succ, List.getElem_cons_zero, List.setIfInBounds_toArray, List.set_cons_zero, List.set_cons_succ]
    have HX := Lib.hid (H0.out.set (q := Px.zero) (by rfl))
    have hRX := HR.out.row_other (Nat.ne_of_lt HG.out) (Px.row Px.zero)
    have HRX := Lib.hid hRX; clear hRX
    have HBX := Lib.hid (Keeps.row HB.out (Nat.le_refl _) (Px.row Px.zero))
    refine wpAnyH_ready (rs := [5]) (by kernel_rfl) (by simp) ?_
    refine AllReadyH.cons rfl (fun K hK => ?_) AllReadyH.nil
    refine step_skip (by rfl) (exec_store_px (q := Px.zero) rfl rfl rfl H0.out (by rfl)) ?_
    refine hK.out _ _ HRX.out.c1 (fun hS1 => ?_)
    clear hK K hS
    generalize World.setRow _ w.heap.size (Px.row Px.zero) = wX at *
    refine wpAnyH_take (i := 6) (v := ?tkva6) rfl (by kernel_rfl) (by kernel_rfl) (by kernel_rfl) (fun _ _ _ h => h) (Or.inl ⟨by rfl, ?tkya6⟩) (by assumption) ?tkra6
    case tkya6 => (intro w hSw; (try dsimp only at hSw); go_simp; with_reducible rfl)
    simp only [Act.put, List.getElem_toArray, List.getElem_cons_succ, List.getElem_cons_zero, List.setIfInBounds_toArray, List.set_cons_zero, List.set_cons_succ]
    refine wpAnyH_done (by kernel_rfl) ?_ _
    clear hS1
    go_wp2
    refine bodyPost_ret (results_two rfl _ _ _ ⟨w.heap.size, 0, none⟩ _ _ rfl rfl (load_px HX.out)) rfl ?_
    rw [HRR.out, HR00.out]
    exact ⟨rfl, HRX.out, HBX.out⟩

  | cons c r =>
    refine (RByte_calls _ g 0 (c :: r) HR0.out (by omega)).mono ?_
    rw [show byteR (c :: r) 0 = (c.toNat, r, 0) from rfl]
    rintro e w2 ⟨rfl, hr, hu⟩
    have HR := Lib.hid hr; have HB := Lib.hid (HB0.out.upv hu)
    have H0' := Lib.hid (hu.px2 H0.out (Nat.ne_of_gt HG.out))
    clear H0; have H0 := H0'; clear H0' hr hu
    have hR0 : readR (c :: r) = if widthN (headSix c.toNat) < headLen c.toNat then (Px.zero, 4, r, 0)
      else if r.length < (headLen c.toNat + 7) / 8 then (Px.zero, 3, r, 3)
      else if (readPx c.toNat (r.take ((headLen c.toNat + 7) / 8))).right then (readPx c.toNat (r.take ((headLen c.toNat + 7) / 8)), 0, r.drop ((headLen c.toNat + 7) / 8), 0)
      else (Px.zero, 4, r.drop ((headLen c.toNat + 7) / 8), 0) := rfl
    have hx256 : c.toNat < 256 := c.toNat_lt
    have hpx : ∀ s, readPx c.toNat s = ⟨headSix c.toNat, padL (bstr s), headLen c.toNat⟩ := fun s => rfl
    obtain ⟨x, hx⟩ : ∃ x, c.toNat = x := ⟨_, rfl⟩
    rw [hx] at hR0 hx256 hpx
    have HX0 := Lib.hid hx
    rw [hx]
    clear hx
    have c1 := HR.out.c1
    have hwx : IntKind.i64.wrap (x : Int) = (x : Int) := IntWalk.i64_in _ (by omega)
    have hwx2 : wrap64 (x : Int) = (x : Int) := by unfold wrap64; omega
    by_cases h64 : 64 ≤ x
    · obtain ⟨n, hn⟩ : ∃ n, x = n + 64 := ⟨x - 64, by omega⟩
      have hsub : (x : Int) - 64 = (n : Int) := by omega
      have hsub2 : IntKind.i64.wrap ((x : Int) - 64) = (n : Int) := by rw [hsub]; exact IntWalk.i64_in _ (by omega)
      have d1 : decide (64 ≤ (x : Int)) = true := decide_eq_true (by omega)
      have HNX := Lib.hid hn
      have hn64 : n < 192 := by omega
      clear hn
      have hS : headSix x = true := decide_eq_true h64
      have hL : headLen x = n := by unfold headLen; rw [if_pos h64]; have := HNX.out; omega
      have hw : widthN true = 128 := rfl
      have hW : ∀ w, Calls Tryd.prog 34 #[.bool true] w fun e w' => e = .returned (.int .i64 128) ∧ w = w' := fun w => most_calls w true
      rw [hS, hL, hw] at hR0
      rw [hS, hL] at hpx
      have HPX := Lib.hid hpx; have HW := Lib.hid hW; clear hpx hS hL hw hW
      go_wp2_with (with_reducible refine wpList_mark (o := ⟨some 22, _, _, _, _, _⟩) ?_)
      refine Marked.intro ?_
      refine wpList_run rfl (exec_build_px1 rfl _ rfl) ?_
      go_wp2_with (with_reducible refine wpList_mark (o := ⟨none, _, _, _, _, _⟩) ?_)
      rw [← zero_row]
      have hn5 := PxAt.new w2 Px.zero (by rfl)
      have hb5 := HB.out.alloc (.cells Px.zero.row 30)
      have hr5 := HR.out.below ((Below.refl w2.heap.size w2).alloc (Nat.le_refl _) (.cells Px.zero.row 30))
      have h05 := H0.out.b ((Below.refl w2.heap.size w2).alloc (Nat.le_refl _) (.cells Px.zero.row 30))
      have HBB := Lib.hid H0.out.lt
      clear H0 HB HR c1
      have HN := Lib.hid hn5; have HB := Lib.hid hb5; have HR := Lib.hid hr5; have H0 := Lib.hid h05
      clear hn5 hb5 hr5 h05
      generalize w2.alloc (.cells Px.zero.row 30) = w5 at *
      generalize w2.heap.size = b at *
      refine Marked.intro ?_
      refine wpList_do rfl (exec_store_px rfl rfl rfl HN.out (by rfl)) ?_
      have HN' := Lib.hid (HN.out.set (q := ⟨false, zs, (x : Nat)⟩) (by rfl))
      have hr' := HR.out.row_other (Nat.ne_of_lt (Nat.lt_trans HG.out HBB.out)) (⟨false, zs, (x : Nat)⟩ : Px).row
      have h0' := H0.out.row_other (Nat.ne_of_lt HBB.out) (⟨false, zs, (x : Nat)⟩ : Px).row
      have HR' := Lib.hid hr'; have H0' := Lib.hid h0'
      have HB' := Lib.hid (Keeps.row HB.out (Nat.le_of_lt HBB.out) (⟨false, zs, (x : Nat)⟩ : Px).row)
      clear HN HR H0 HB hr' h0'; have HN := HN'; have HR := HR'; have H0 := H0'; have HB := HB'; clear HN' HR' H0' HB'
      generalize World.setRow _ b (⟨false, zs, (x : Nat)⟩ : Px).row = wN at *
      go_wp2_with (with_reducible refine wpList_mark (o := ⟨some 27, _, _, _, _, _⟩) ?_)
      refine Marked.intro ?_
      refine wpList_run rfl (exec_build_px2 rfl _ rfl rfl) ?_
      refine wpList_do rfl (exec_store_px rfl rfl rfl HN.out (by rfl)) ?_
      have HN' := Lib.hid (HN.out.set (q := ⟨true, zs, (n : Nat)⟩) (by rfl))
      have hr' := HR.out.row_other (Nat.ne_of_lt (Nat.lt_trans HG.out HBB.out)) (⟨true, zs, (n : Nat)⟩ : Px).row
      have h0' := H0.out.row_other (Nat.ne_of_lt HBB.out) (⟨true, zs, (n : Nat)⟩ : Px).row
      have HR' := Lib.hid hr'; have H0' := Lib.hid h0'
      have HB' := Lib.hid (Keeps.row HB.out (Nat.le_of_lt HBB.out) (⟨true, zs, (n : Nat)⟩ : Px).row)
      clear HN HR H0 HB hr' h0'; have HN := HN'; have HR := HR'; have H0 := H0'; have HB := HB'; clear HN' HR' H0' HB'
      generalize World.setRow _ b (⟨true, zs, (n : Nat)⟩ : Px).row = wN at *
      go_wp2_with fail
      have kl := cell_regrown HN.out.len
      have ks := cell_regrown HN.out.six
      simp only at kl ks
      have cM : ∀ d os, Calls Tryd.prog 34 #[.bool true] (Sort.grow (redrawn wN d) os) fun e w'' => e = .returned (.int .i64 128) ∧ Lib.Grows (Sort.grow (redrawn wN d) os) w'' := fun d os => Lib.Calls.grows_of ((HW.out _).mono fun e w' ⟨h1, h2⟩ => ⟨h1, h2 ▸ Below.refl _ _⟩)
      by_cases hwd : 128 < n
      · rw [if_pos hwd] at hR0
        have d2 : decide ((128 : Int) < (n : Int)) = true := decide_eq_true (by omega)
        have HR00 := Lib.hid hR0
        clear hR0
        refine Lib.wp_region_made 6 (fun _ => none) (by kernel_rfl) (by kernel_rfl) Lib.stabP_none ?_
        simp only [List.take_succ_cons, List.take_zero, List.drop_succ_cons, List.drop_zero]
        repeat (first | (refine Lib.wpML_step (by rfl) (fun K hK => ?_); go_simp; first | (refine hK _ ?_; clear hK K) | (apply Exists.intro; refine ⟨fun _ => ?_, hK _ ?_⟩; (first | (refine ⟨?_, by with_reducible exact cM _ _⟩; exact Lib.noInit (by kernel_rfl))); clear hK K)))
        refine Lib.wpML_nil ?_
        intro wM hwz _
        have hb := Lib.Behind.below hwz
        clear hwz kl ks cM
        have HN' := Lib.hid (HN.out.b hb); have HR' := Lib.hid (HR.out.below hb); have H0' := Lib.hid (H0.out.b hb)
        have HB' := Lib.hid (HB.out.after hb)
        clear HN HR H0 HB hb; have HN := HN'; have HR := HR'; have H0 := H0'; have HB := HB'; clear HN' HR' H0' HB'
        go_wp2_with (with_reducible refine wpList_mark (o := ⟨some 34, _, _, _, _, _⟩) ?_)
        refine Marked.intro ?_
        refine wpList_run rfl (exec_build_px0 rfl _) ?_
        refine wpList_do rfl (exec_store_px rfl rfl rfl H0.out (by rfl)) ?_
        have HX := Lib.hid (H0.out.set (q := Px.zero) (by rfl))
        have hRX := HR.out.row_other (Nat.ne_of_lt HG.out) (Px.row Px.zero)
        have HRX := Lib.hid hRX; clear hRX
        have HBX := Lib.hid (Keeps.row HB.out (Nat.le_refl _) (Px.row Px.zero))
        generalize World.setRow _ w.heap.size (Px.row Px.zero) = wX at *
        go_wp2
        refine bodyPost_ret (results_two rfl _ _ _ ⟨w.heap.size, 0, none⟩ _ _ rfl rfl (load_px HX.out)) rfl ?_
        rw [HRR.out, HR00.out]
        exact ⟨rfl, HRX.out, HBX.out⟩

      · rw [if_neg hwd] at hR0
        have d2 : decide ((128 : Int) < (n : Int)) = false := decide_eq_false (by omega)
        obtain ⟨m, hm⟩ : ∃ m, (n + 7) / 8 = m := ⟨_, rfl⟩
        have hm16 : m ≤ 16 := by omega
        rw [hm] at hR0
        have w3_ : IntKind.i64.wrap (((n : Nat) : Int) + 7) = ((n : Nat) : Int) + 7 := IntWalk.i64_in _ (by omega)
        have w4_ : (((n : Nat) : Int) + 7).tdiv 8 = (m : Int) := by rw [Int.tdiv_eq_ediv_of_nonneg (by omega)]; omega
        have w5_ : (((n : Nat) : Int) + 7) / 8 = (m : Int) := by omega
        have w6_ : IntKind.i64.wrap (m : Int) = (m : Int) := IntWalk.i64_in _ (by omega)
        have HMY := Lib.hid hm
        clear hm
        have hraw : rawR r 0 (m : Int) = if r.length < m then ([], r, 3) else (r.take m, r.drop m, 0) := by
          unfold rawR
          rw [if_neg (by simp), if_neg (by omega)]
          by_cases h : r.length < m
          · rw [if_pos h, if_pos (by omega)]
          · rw [if_neg h, if_neg (by omega)]; rfl
        have HRW : Hid (∀ w, RRd g r 0 w → Calls Tryd.prog 35 #[.pointer (some ⟨g, 0, none⟩), .int .i64 m] w fun x w' => x = .returned (.string (bstr (rawR r 0 m).1)) ∧ RRd g (rawR r 0 m).2.1 (rawR r 0 m).2.2 w' ∧ UpV g w w') := Lib.hid (fun w h => RRaw_calls w g 0 r m h (by omega))
        rw [hraw] at HRW
        clear hraw
        refine Lib.wp_region_made 6 (fun _ => none) (by kernel_rfl) (by kernel_rfl) Lib.stabP_none ?_
        simp only [List.take_succ_cons, List.take_zero, List.drop_succ_cons, List.drop_zero]
        repeat (first | (refine Lib.wpML_step (by rfl) (fun K hK => ?_); go_simp; first | (refine hK _ ?_; clear hK K) | (apply Exists.intro; refine ⟨fun _ => ?_, hK _ ?_⟩; (first | (refine ⟨?_, by with_reducible exact cM _ _⟩; exact Lib.noInit (by kernel_rfl))); clear hK K)))
        refine Lib.wpML_nil ?_
        intro wM hwz _
        have hb := Lib.Behind.below hwz
        clear hwz kl ks cM
        have HN' := Lib.hid (HN.out.b hb); have HR' := Lib.hid (HR.out.below hb); have H0' := Lib.hid (H0.out.b hb)
        have HB' := Lib.hid (HB.out.after hb)
        clear HN HR H0 HB hb; have HN := HN'; have HR := HR'; have H0 := H0'; have HB := HB'; clear HN' HR' H0' HB'
        have cl := HN.out.len
        simp only at cl
        go_wp2_with fail
        clear cl
        refine (HRW.out _ HR.out).mono ?_
        by_cases hlen : r.length < m
        · rw [if_pos hlen] at hR0 ⊢
          have HR00 := Lib.hid hR0
          clear hR0
          rintro e w3 ⟨rfl, hr, hu⟩
          have HR' := Lib.hid hr; have HB' := Lib.hid (HB.out.upv hu)
          have H0' := Lib.hid (hu.px2 H0.out (Nat.ne_of_gt HG.out))
          clear HN H0 HR HB; have H0 := H0'; have HR := HR'; have HB := HB'; clear H0' HR' HB' hr hu
          have c1 := HR.out.c1
          go_wp2_with fail
          have HR' : Hid (RRd g r 3 (World.drew w3)) := Lib.hid HR.out
          have H0' : Hid (PxAt w.heap.size Px.zero (World.drew w3)) := Lib.hid H0.out
          have HB' := Lib.hid HB.out.drew
          have c2 : (World.drew w3).cell? ⟨g, 1, none⟩ = some (.int .i64 ((3 : Nat) : Int)) := c1
          refine wp_region_held_drew (S := fun w' => w'.cell? ⟨g, 1, none⟩ = some (.int .i64 ((3 : Nat) : Int))) (by kernel_rfl) c1 (fun hS => ?_)
          clear HR H0 HB; have HR := HR'; have H0 := H0'; have HB := HB'; clear HR' H0' HB' c1
          generalize World.drew w3 = wD at *
          refine wpAnyH_take (i := 0) (v := ?tkvb0) rfl (by kernel_rfl) (by kernel_rfl) (by kernel_rfl) (fun _ _ _ h => h) (Or.inl ⟨by rfl, ?tkyb0⟩) (by assumption) ?tkrb0
          case tkyb0 => (intro w hSw; (try dsimp only at hSw); go_simp; with_reducible rfl)
          simp only [Act.put, List.getElem_toArray, List.getElem_cons_succ, List.getElem_cons_zero, List.setIfInBounds_toArray, List.set_cons_zero, List.set_cons_succ]
          refine wpAnyH_take (i := 1) (v := ?tkvb1) rfl (by kernel_rfl) (by kernel_rfl) (by kernel_rfl) (fun _ _ _ h => h) (Or.inl ⟨by rfl, ?tkyb1⟩) (by assumption) ?tkrb1
          case tkyb1 => (intro w hSw; (try dsimp only at hSw); go_simp; with_reducible rfl)
          simp only [Act.put, List.getElem_toArray, List.getElem_cons_succ, List.getElem_cons_zero, List.setIfInBounds_toArray, List.set_cons_zero, List.set_cons_succ]
          refine wpAnyH_take (i := 2) (v := ?tkvb2) rfl (by kernel_rfl) (by kernel_rfl) (by kernel_rfl) (fun _ _ _ h => h) (Or.inl ⟨by rfl, ?tkyb2⟩) (by assumption) ?tkrb2
          case tkyb2 => (intro w hSw; (try dsimp only at hSw); go_simp; with_reducible rfl)
          simp only [Act.put, List.getElem_toArray, List.getElem_cons_succ, List.getElem_cons_zero, List.setIfInBounds_toArray, List.set_cons_zero, List.set_cons_succ]
          refine wpAnyH_take (i := 3) (v := ?tkvb3) rfl (by kernel_rfl) (by kernel_rfl) (by kernel_rfl) (fun _ _ _ h => h) (Or.inl ⟨by rfl, ?tkyb3⟩) (by assumption) ?tkrb3
          case tkyb3 => (intro w hSw; (try dsimp only at hSw); go_simp; with_reducible rfl)
          simp only [Act.put, List.getElem_toArray, List.getElem_cons_succ, List.getElem_cons_zero, List.setIfInBounds_toArray, List.set_cons_zero, List.set_cons_succ]
          refine wpAnyH_take (i := 4) (v := ?tkvb4) rfl (by kernel_rfl) (by kernel_rfl) (by kernel_rfl) (fun _ _ _ h => h) (Or.inl ⟨by rfl, ?tkyb4⟩) (by assumption) ?tkrb4
          case tkyb4 => (intro w hSw; (try dsimp only at hSw); go_simp; with_reducible rfl)
          simp only [Act.put, List.getElem_toArray, List.getElem_cons_succ, List.getElem_cons_zero, List.setIfInBounds_toArray, List.set_cons_zero, List.set_cons_succ]
          have HX := Lib.hid (H0.out.set (q := Px.zero) (by rfl))
          have hRX := HR.out.row_other (Nat.ne_of_lt HG.out) (Px.row Px.zero)
          have HRX := Lib.hid hRX; clear hRX
          have HBX := Lib.hid (Keeps.row HB.out (Nat.le_refl _) (Px.row Px.zero))
          refine wpAnyH_ready (rs := [5]) (by kernel_rfl) (by simp) ?_
          refine AllReadyH.cons rfl (fun K hK => ?_) AllReadyH.nil
          refine step_skip (by rfl) (exec_store_px (q := Px.zero) rfl rfl rfl H0.out (by rfl)) ?_
          refine hK.out _ _ HRX.out.c1 (fun hS1 => ?_)
          clear hK K hS
          generalize World.setRow _ w.heap.size (Px.row Px.zero) = wX at *
          refine wpAnyH_take (i := 6) (v := ?tkvb6) rfl (by kernel_rfl) (by kernel_rfl) (by kernel_rfl) (fun _ _ _ h => h) (Or.inl ⟨by rfl, ?tkyb6⟩) (by assumption) ?tkrb6
          case tkyb6 => (intro w hSw; (try dsimp only at hSw); go_simp; with_reducible rfl)
          simp only [Act.put, List.getElem_toArray, List.getElem_cons_succ, List.getElem_cons_zero, List.setIfInBounds_toArray, List.set_cons_zero, List.set_cons_succ]
          refine wpAnyH_done (by kernel_rfl) ?_ _
          clear hS1
          go_wp2
          refine bodyPost_ret (results_two rfl _ _ _ ⟨w.heap.size, 0, none⟩ _ _ rfl rfl (load_px HX.out)) rfl ?_
          rw [HRR.out, HR00.out]
          exact ⟨rfl, HRX.out, HBX.out⟩

        · rw [if_neg hlen] at hR0 ⊢
          rintro e w3 ⟨rfl, hr, hu⟩
          have HR' := Lib.hid hr; have HB' := Lib.hid (HB.out.upv hu)
          have H0' := Lib.hid (hu.px2 H0.out (Nat.ne_of_gt HG.out))
          have HN' := Lib.hid (hu.px2 HN.out (Nat.ne_of_gt (Nat.lt_trans HG.out HBB.out)))
          clear HN H0 HR HB; have H0 := H0'; have HR := HR'; have HB := HB'; have HN := HN'; clear H0' HR' HB' HN' hr hu
          have hsm : (bstr (r.take m)).size = m := by rw [bstr_size, List.length_take]; omega
          obtain ⟨S, hS⟩ : ∃ S, bstr (r.take m) = S := ⟨_, rfl⟩
          rw [hS] at hsm
          rw [hS]
          have HS := Lib.hid hS; clear hS
          have HSM := Lib.hid hsm; clear hsm
          have c1 := HR.out.c1
          go_wp2_with fail
          clear c1
          rw [← fillL_none S] at HN
          go_loopw [7] (fun s7 wr => ∃ i : Nat, s7 = .int .i64 i ∧ i ≤ S.size ∧ Hid (PxAt b ⟨true, fillL S i, (n : Nat)⟩ wr) ∧ Hid (PxAt w.heap.size Px.zero wr) ∧ Hid (RRd g (r.drop m) 0 wr) ∧ Hid (Keeps g w wr)) (fun s7 _ => S.size - (intOf s7).toNat)
          case atStart => exact ⟨0, rfl, Nat.zero_le _, HN, H0, HR, HB⟩
          case round =>
            clear HN H0 HR HB
            obtain ⟨wo, rfl⟩ : ∃ wo : World, wo = wr := ⟨_, rfl⟩
            obtain ⟨i, rfl, hi, HN, H0, HR, HB⟩ := hrel
            have hs16 : S.size ≤ 16 := by rw [HSM.out]; exact hm16
            by_cases hlt : i < S.size
            · have hltI : (i : Int) < (S.size : Int) := by omega
              have hi16 : (i : Int) < 16 := by omega
              have hix := fun w' => run_str_index w' S i hlt
              have hfz := HN.out.frozen (1 + i)
              have hcz := HN.out.byte i (by omega)
              have hst := HN.out.cell i ((padL S).getD i 0) (by omega)
              have hstep := fillL_step S hs16 i (by omega)
              have HN2 : Hid (PxAt b ⟨true, fillL S (i + 1), (n : Nat)⟩ (wo.setCell ⟨b, 1 + i, none⟩ (.int .u8 (((padL S).getD i 0 : Nat) : Int)))) := Lib.hid (by rw [hstep]; exact hst)
              have H02 := Lib.hid (PxAt.cell_other (j := 1 + i) H0.out (Nat.ne_of_lt HBB.out) (.int .u8 (((padL S).getD i 0 : Nat) : Int)))
              have HR2 := Lib.hid (HR.out.cell_other (j := 1 + i) (Nat.ne_of_lt (Nat.lt_trans HG.out HBB.out)) (.int .u8 (((padL S).getD i 0 : Nat) : Int)))
              have HB2 := Lib.hid (Keeps.cell (i := 1 + i) HB.out (Nat.le_of_lt HBB.out) (.int .u8 (((padL S).getD i 0 : Nat) : Int)))
              clear hst hstep HN H0 HR HB
              generalize (padL S).getD i 0 = y at *
              simp only at hcz
              generalize (fillL S i).getD i 0 = y0 at *
              go_wp2
              exact ⟨⟨i + 1, by go_num, by omega, HN2, H02, HR2, HB2⟩, by simp only [intOf]; omega⟩
            · obtain rfl : i = S.size := by omega
              rw [fillL_all S hs16] at HN
              have hpl := padL_length S hs16
              have hRC := fun w => RRight_calls w ⟨true, padL S, (n : Nat)⟩ ⟨hpl, padL_small S⟩
              rw [HPX.out, HS.out] at hR0
              go_wp2_with (with_reducible refine wpList_mark (o := ⟨some 63, _, _, _, _, _⟩) ?_)
              refine Marked.intro ?_
              refine wpList_run rfl (exec_load_whole rfl rfl HN.out) ?_
              go_wp2_with fail
              refine (hRC _).mono ?_
              rintro e w8 ⟨rfl, hb⟩
              clear hRC
              have HN' := Lib.hid (HN.out.b hb); have HR' := Lib.hid (HR.out.below hb); have H0' := Lib.hid (H0.out.b hb)
              have HB' := Lib.hid (HB.out.after hb)
              clear HN HR H0 HB hb; have HN := HN'; have HR := HR'; have H0 := H0'; have HB := HB'; clear HN' HR' H0' HB'

              cases e1 : (⟨true, padL S, (n : Nat)⟩ : Px).right with
              | false =>
                rw [if_neg (by rw [e1]; simp)] at hR0
                have HR00 := Lib.hid hR0
                clear hR0 e1
                go_wp2_with (with_reducible refine wpList_mark (o := ⟨some 66, _, _, _, _, _⟩) ?_)
                refine Marked.intro ?_
                refine wpList_run rfl (exec_build_px0 rfl _) ?_
                refine wpList_do rfl (exec_store_px rfl rfl rfl H0.out (by rfl)) ?_
                have HX := Lib.hid (H0.out.set (q := Px.zero) (by rfl))
                have hRX := HR.out.row_other (Nat.ne_of_lt HG.out) (Px.row Px.zero)
                have HRX := Lib.hid hRX; clear hRX
                have HBX := Lib.hid (Keeps.row HB.out (Nat.le_refl _) (Px.row Px.zero))
                generalize World.setRow _ w.heap.size (Px.row Px.zero) = wX at *
                go_wp2
                refine bodyPost_ret (results_two rfl _ _ _ ⟨w.heap.size, 0, none⟩ _ _ rfl rfl (load_px HX.out)) rfl ?_
                rw [HRR.out, HR00.out]
                exact ⟨rfl, HRX.out, HBX.out⟩

              | true =>
                rw [if_pos e1] at hR0
                have HR00 := Lib.hid hR0
                clear hR0 e1
                go_wp2_with (with_reducible refine wpList_mark (o := ⟨some 67, _, _, _, _, _⟩) ?_)
                refine Marked.intro ?_
                refine wpList_run rfl (exec_load_whole rfl rfl HN.out) ?_
                refine wpList_do rfl (exec_store_px rfl rfl rfl H0.out hpl) ?_
                have HX := Lib.hid (H0.out.set (q := (⟨true, padL S, (n : Nat)⟩ : Px)) hpl)
                have hRX := HR.out.row_other (Nat.ne_of_lt HG.out) (Px.row (⟨true, padL S, (n : Nat)⟩ : Px))
                have HRX := Lib.hid hRX; clear hRX
                have HBX := Lib.hid (Keeps.row HB.out (Nat.le_refl _) (Px.row (⟨true, padL S, (n : Nat)⟩ : Px)))
                generalize World.setRow _ w.heap.size (Px.row (⟨true, padL S, (n : Nat)⟩ : Px)) = wX at *
                go_wp2
                refine bodyPost_ret (results_two rfl _ _ _ ⟨w.heap.size, 0, none⟩ _ _ rfl rfl (load_px HX.out)) rfl ?_
                rw [HRR.out, HR00.out]
                exact ⟨rfl, HRX.out, HBX.out⟩




    · obtain ⟨n, hn⟩ : ∃ n, x = n := ⟨x, rfl⟩
      have d1 : decide (64 ≤ (x : Int)) = false := decide_eq_false (by omega)
      have hS : headSix x = false := decide_eq_false h64
      have hL : headLen x = n := by unfold headLen; rw [if_neg h64]; exact hn
      subst hn
      have hw : widthN false = 32 := rfl
      have hW : ∀ w, Calls Tryd.prog 34 #[.bool false] w fun e w' => e = .returned (.int .i64 32) ∧ w = w' := fun w => most_calls w false
      rw [hS, hL, hw] at hR0
      rw [hS, hL] at hpx
      have HPX := Lib.hid hpx; have HW := Lib.hid hW; clear hpx hS hL hw hW
      go_wp2_with (with_reducible refine wpList_mark (o := ⟨some 22, _, _, _, _, _⟩) ?_)
      refine Marked.intro ?_
      refine wpList_run rfl (exec_build_px1 rfl _ rfl) ?_
      go_wp2_with (with_reducible refine wpList_mark (o := ⟨none, _, _, _, _, _⟩) ?_)
      rw [← zero_row]
      have hn5 := PxAt.new w2 Px.zero (by rfl)
      have hb5 := HB.out.alloc (.cells Px.zero.row 30)
      have hr5 := HR.out.below ((Below.refl w2.heap.size w2).alloc (Nat.le_refl _) (.cells Px.zero.row 30))
      have h05 := H0.out.b ((Below.refl w2.heap.size w2).alloc (Nat.le_refl _) (.cells Px.zero.row 30))
      have HBB := Lib.hid H0.out.lt
      clear H0 HB HR c1
      have HN := Lib.hid hn5; have HB := Lib.hid hb5; have HR := Lib.hid hr5; have H0 := Lib.hid h05
      clear hn5 hb5 hr5 h05
      generalize w2.alloc (.cells Px.zero.row 30) = w5 at *
      generalize w2.heap.size = b at *
      refine Marked.intro ?_
      refine wpList_do rfl (exec_store_px rfl rfl rfl HN.out (by rfl)) ?_
      have HN' := Lib.hid (HN.out.set (q := ⟨false, zs, (x : Nat)⟩) (by rfl))
      have hr' := HR.out.row_other (Nat.ne_of_lt (Nat.lt_trans HG.out HBB.out)) (⟨false, zs, (x : Nat)⟩ : Px).row
      have h0' := H0.out.row_other (Nat.ne_of_lt HBB.out) (⟨false, zs, (x : Nat)⟩ : Px).row
      have HR' := Lib.hid hr'; have H0' := Lib.hid h0'
      have HB' := Lib.hid (Keeps.row HB.out (Nat.le_of_lt HBB.out) (⟨false, zs, (x : Nat)⟩ : Px).row)
      clear HN HR H0 HB hr' h0'; have HN := HN'; have HR := HR'; have H0 := H0'; have HB := HB'; clear HN' HR' H0' HB'
      generalize World.setRow _ b (⟨false, zs, (x : Nat)⟩ : Px).row = wN at *
      go_wp2_with fail
      have kl := cell_regrown HN.out.len
      have ks := cell_regrown HN.out.six
      simp only at kl ks
      have cM : ∀ d os, Calls Tryd.prog 34 #[.bool false] (Sort.grow (redrawn wN d) os) fun e w'' => e = .returned (.int .i64 32) ∧ Lib.Grows (Sort.grow (redrawn wN d) os) w'' := fun d os => Lib.Calls.grows_of ((HW.out _).mono fun e w' ⟨h1, h2⟩ => ⟨h1, h2 ▸ Below.refl _ _⟩)
      by_cases hwd : 32 < x
      · rw [if_pos hwd] at hR0
        have d2 : decide ((32 : Int) < (x : Int)) = true := decide_eq_true (by omega)
        have HR00 := Lib.hid hR0
        clear hR0
        refine Lib.wp_region_made 6 (fun _ => none) (by kernel_rfl) (by kernel_rfl) Lib.stabP_none ?_
        simp only [List.take_succ_cons, List.take_zero, List.drop_succ_cons, List.drop_zero]
        repeat (first | (refine Lib.wpML_step (by rfl) (fun K hK => ?_); go_simp; first | (refine hK _ ?_; clear hK K) | (apply Exists.intro; refine ⟨fun _ => ?_, hK _ ?_⟩; (first | (refine ⟨?_, by with_reducible exact cM _ _⟩; exact Lib.noInit (by kernel_rfl))); clear hK K)))
        refine Lib.wpML_nil ?_
        intro wM hwz _
        have hb := Lib.Behind.below hwz
        clear hwz kl ks cM
        have HN' := Lib.hid (HN.out.b hb); have HR' := Lib.hid (HR.out.below hb); have H0' := Lib.hid (H0.out.b hb)
        have HB' := Lib.hid (HB.out.after hb)
        clear HN HR H0 HB hb; have HN := HN'; have HR := HR'; have H0 := H0'; have HB := HB'; clear HN' HR' H0' HB'
        go_wp2_with (with_reducible refine wpList_mark (o := ⟨some 34, _, _, _, _, _⟩) ?_)
        refine Marked.intro ?_
        refine wpList_run rfl (exec_build_px0 rfl _) ?_
        refine wpList_do rfl (exec_store_px rfl rfl rfl H0.out (by rfl)) ?_
        have HX := Lib.hid (H0.out.set (q := Px.zero) (by rfl))
        have hRX := HR.out.row_other (Nat.ne_of_lt HG.out) (Px.row Px.zero)
        have HRX := Lib.hid hRX; clear hRX
        have HBX := Lib.hid (Keeps.row HB.out (Nat.le_refl _) (Px.row Px.zero))
        generalize World.setRow _ w.heap.size (Px.row Px.zero) = wX at *
        go_wp2
        refine bodyPost_ret (results_two rfl _ _ _ ⟨w.heap.size, 0, none⟩ _ _ rfl rfl (load_px HX.out)) rfl ?_
        rw [HRR.out, HR00.out]
        exact ⟨rfl, HRX.out, HBX.out⟩

      · rw [if_neg hwd] at hR0
        have d2 : decide ((32 : Int) < (x : Int)) = false := decide_eq_false (by omega)
        obtain ⟨m, hm⟩ : ∃ m, (x + 7) / 8 = m := ⟨_, rfl⟩
        have hm16 : m ≤ 16 := by omega
        rw [hm] at hR0
        have w3_ : IntKind.i64.wrap (((x : Nat) : Int) + 7) = ((x : Nat) : Int) + 7 := IntWalk.i64_in _ (by omega)
        have w4_ : (((x : Nat) : Int) + 7).tdiv 8 = (m : Int) := by rw [Int.tdiv_eq_ediv_of_nonneg (by omega)]; omega
        have w5_ : (((x : Nat) : Int) + 7) / 8 = (m : Int) := by omega
        have w6_ : IntKind.i64.wrap (m : Int) = (m : Int) := IntWalk.i64_in _ (by omega)
        have HMY := Lib.hid hm
        clear hm
        have hraw : rawR r 0 (m : Int) = if r.length < m then ([], r, 3) else (r.take m, r.drop m, 0) := by
          unfold rawR
          rw [if_neg (by simp), if_neg (by omega)]
          by_cases h : r.length < m
          · rw [if_pos h, if_pos (by omega)]
          · rw [if_neg h, if_neg (by omega)]; rfl
        have HRW : Hid (∀ w, RRd g r 0 w → Calls Tryd.prog 35 #[.pointer (some ⟨g, 0, none⟩), .int .i64 m] w fun x w' => x = .returned (.string (bstr (rawR r 0 m).1)) ∧ RRd g (rawR r 0 m).2.1 (rawR r 0 m).2.2 w' ∧ UpV g w w') := Lib.hid (fun w h => RRaw_calls w g 0 r m h (by omega))
        rw [hraw] at HRW
        clear hraw
        refine Lib.wp_region_made 6 (fun _ => none) (by kernel_rfl) (by kernel_rfl) Lib.stabP_none ?_
        simp only [List.take_succ_cons, List.take_zero, List.drop_succ_cons, List.drop_zero]
        repeat (first | (refine Lib.wpML_step (by rfl) (fun K hK => ?_); go_simp; first | (refine hK _ ?_; clear hK K) | (apply Exists.intro; refine ⟨fun _ => ?_, hK _ ?_⟩; (first | (refine ⟨?_, by with_reducible exact cM _ _⟩; exact Lib.noInit (by kernel_rfl))); clear hK K)))
        refine Lib.wpML_nil ?_
        intro wM hwz _
        have hb := Lib.Behind.below hwz
        clear hwz kl ks cM
        have HN' := Lib.hid (HN.out.b hb); have HR' := Lib.hid (HR.out.below hb); have H0' := Lib.hid (H0.out.b hb)
        have HB' := Lib.hid (HB.out.after hb)
        clear HN HR H0 HB hb; have HN := HN'; have HR := HR'; have H0 := H0'; have HB := HB'; clear HN' HR' H0' HB'
        have cl := HN.out.len
        simp only at cl
        go_wp2_with fail
        clear cl
        refine (HRW.out _ HR.out).mono ?_
        by_cases hlen : r.length < m
        · rw [if_pos hlen] at hR0 ⊢
          have HR00 := Lib.hid hR0
          clear hR0
          rintro e w3 ⟨rfl, hr, hu⟩
          have HR' := Lib.hid hr; have HB' := Lib.hid (HB.out.upv hu)
          have H0' := Lib.hid (hu.px2 H0.out (Nat.ne_of_gt HG.out))
          clear HN H0 HR HB; have H0 := H0'; have HR := HR'; have HB := HB'; clear H0' HR' HB' hr hu
          have c1 := HR.out.c1
          go_wp2_with fail
          have HR' : Hid (RRd g r 3 (World.drew w3)) := Lib.hid HR.out
          have H0' : Hid (PxAt w.heap.size Px.zero (World.drew w3)) := Lib.hid H0.out
          have HB' := Lib.hid HB.out.drew
          have c2 : (World.drew w3).cell? ⟨g, 1, none⟩ = some (.int .i64 ((3 : Nat) : Int)) := c1
          refine wp_region_held_drew (S := fun w' => w'.cell? ⟨g, 1, none⟩ = some (.int .i64 ((3 : Nat) : Int))) (by kernel_rfl) c1 (fun hS => ?_)
          clear HR H0 HB; have HR := HR'; have H0 := H0'; have HB := HB'; clear HR' H0' HB' c1
          generalize World.drew w3 = wD at *
          refine wpAnyH_take (i := 0) (v := ?tkvc0) rfl (by kernel_rfl) (by kernel_rfl) (by kernel_rfl) (fun _ _ _ h => h) (Or.inl ⟨by rfl, ?tkyc0⟩) (by assumption) ?tkrc0
          case tkyc0 => (intro w hSw; (try dsimp only at hSw); go_simp; with_reducible rfl)
          simp only [Act.put, List.getElem_toArray, List.getElem_cons_succ, List.getElem_cons_zero, List.setIfInBounds_toArray, List.set_cons_zero, List.set_cons_succ]
          refine wpAnyH_take (i := 1) (v := ?tkvc1) rfl (by kernel_rfl) (by kernel_rfl) (by kernel_rfl) (fun _ _ _ h => h) (Or.inl ⟨by rfl, ?tkyc1⟩) (by assumption) ?tkrc1
          case tkyc1 => (intro w hSw; (try dsimp only at hSw); go_simp; with_reducible rfl)
          simp only [Act.put, List.getElem_toArray, List.getElem_cons_succ, List.getElem_cons_zero, List.setIfInBounds_toArray, List.set_cons_zero, List.set_cons_succ]
          refine wpAnyH_take (i := 2) (v := ?tkvc2) rfl (by kernel_rfl) (by kernel_rfl) (by kernel_rfl) (fun _ _ _ h => h) (Or.inl ⟨by rfl, ?tkyc2⟩) (by assumption) ?tkrc2
          case tkyc2 => (intro w hSw; (try dsimp only at hSw); go_simp; with_reducible rfl)
          simp only [Act.put, List.getElem_toArray, List.getElem_cons_succ, List.getElem_cons_zero, List.setIfInBounds_toArray, List.set_cons_zero, List.set_cons_succ]
          refine wpAnyH_take (i := 3) (v := ?tkvc3) rfl (by kernel_rfl) (by kernel_rfl) (by kernel_rfl) (fun _ _ _ h => h) (Or.inl ⟨by rfl, ?tkyc3⟩) (by assumption) ?tkrc3
          case tkyc3 => (intro w hSw; (try dsimp only at hSw); go_simp; with_reducible rfl)
          simp only [Act.put, List.getElem_toArray, List.getElem_cons_succ, List.getElem_cons_zero, List.setIfInBounds_toArray, List.set_cons_zero, List.set_cons_succ]
          refine wpAnyH_take (i := 4) (v := ?tkvc4) rfl (by kernel_rfl) (by kernel_rfl) (by kernel_rfl) (fun _ _ _ h => h) (Or.inl ⟨by rfl, ?tkyc4⟩) (by assumption) ?tkrc4
          case tkyc4 => (intro w hSw; (try dsimp only at hSw); go_simp; with_reducible rfl)
          simp only [Act.put, List.getElem_toArray, List.getElem_cons_succ, List.getElem_cons_zero, List.setIfInBounds_toArray, List.set_cons_zero, List.set_cons_succ]
          have HX := Lib.hid (H0.out.set (q := Px.zero) (by rfl))
          have hRX := HR.out.row_other (Nat.ne_of_lt HG.out) (Px.row Px.zero)
          have HRX := Lib.hid hRX; clear hRX
          have HBX := Lib.hid (Keeps.row HB.out (Nat.le_refl _) (Px.row Px.zero))
          refine wpAnyH_ready (rs := [5]) (by kernel_rfl) (by simp) ?_
          refine AllReadyH.cons rfl (fun K hK => ?_) AllReadyH.nil
          refine step_skip (by rfl) (exec_store_px (q := Px.zero) rfl rfl rfl H0.out (by rfl)) ?_
          refine hK.out _ _ HRX.out.c1 (fun hS1 => ?_)
          clear hK K hS
          generalize World.setRow _ w.heap.size (Px.row Px.zero) = wX at *
          refine wpAnyH_take (i := 6) (v := ?tkvc6) rfl (by kernel_rfl) (by kernel_rfl) (by kernel_rfl) (fun _ _ _ h => h) (Or.inl ⟨by rfl, ?tkyc6⟩) (by assumption) ?tkrc6
          case tkyc6 => (intro w hSw; (try dsimp only at hSw); go_simp; with_reducible rfl)
          simp only [Act.put, List.getElem_toArray, List.getElem_cons_succ, List.getElem_cons_zero, List.setIfInBounds_toArray, List.set_cons_zero, List.set_cons_succ]
          refine wpAnyH_done (by kernel_rfl) ?_ _
          clear hS1
          go_wp2
          refine bodyPost_ret (results_two rfl _ _ _ ⟨w.heap.size, 0, none⟩ _ _ rfl rfl (load_px HX.out)) rfl ?_
          rw [HRR.out, HR00.out]
          exact ⟨rfl, HRX.out, HBX.out⟩

        · rw [if_neg hlen] at hR0 ⊢
          rintro e w3 ⟨rfl, hr, hu⟩
          have HR' := Lib.hid hr; have HB' := Lib.hid (HB.out.upv hu)
          have H0' := Lib.hid (hu.px2 H0.out (Nat.ne_of_gt HG.out))
          have HN' := Lib.hid (hu.px2 HN.out (Nat.ne_of_gt (Nat.lt_trans HG.out HBB.out)))
          clear HN H0 HR HB; have H0 := H0'; have HR := HR'; have HB := HB'; have HN := HN'; clear H0' HR' HB' HN' hr hu
          have hsm : (bstr (r.take m)).size = m := by rw [bstr_size, List.length_take]; omega
          obtain ⟨S, hS⟩ : ∃ S, bstr (r.take m) = S := ⟨_, rfl⟩
          rw [hS] at hsm
          rw [hS]
          have HS := Lib.hid hS; clear hS
          have HSM := Lib.hid hsm; clear hsm
          have c1 := HR.out.c1
          go_wp2_with fail
          clear c1
          rw [← fillL_none S] at HN
          go_loopw [7] (fun s7 wr => ∃ i : Nat, s7 = .int .i64 i ∧ i ≤ S.size ∧ Hid (PxAt b ⟨false, fillL S i, (x : Nat)⟩ wr) ∧ Hid (PxAt w.heap.size Px.zero wr) ∧ Hid (RRd g (r.drop m) 0 wr) ∧ Hid (Keeps g w wr)) (fun s7 _ => S.size - (intOf s7).toNat)
          case atStart => exact ⟨0, rfl, Nat.zero_le _, HN, H0, HR, HB⟩
          case round =>
            clear HN H0 HR HB
            obtain ⟨wo, rfl⟩ : ∃ wo : World, wo = wr := ⟨_, rfl⟩
            obtain ⟨i, rfl, hi, HN, H0, HR, HB⟩ := hrel
            have hs16 : S.size ≤ 16 := by rw [HSM.out]; exact hm16
            by_cases hlt : i < S.size
            · have hltI : (i : Int) < (S.size : Int) := by omega
              have hi16 : (i : Int) < 16 := by omega
              have hix := fun w' => run_str_index w' S i hlt
              have hfz := HN.out.frozen (1 + i)
              have hcz := HN.out.byte i (by omega)
              have hst := HN.out.cell i ((padL S).getD i 0) (by omega)
              have hstep := fillL_step S hs16 i (by omega)
              have HN2 : Hid (PxAt b ⟨false, fillL S (i + 1), (x : Nat)⟩ (wo.setCell ⟨b, 1 + i, none⟩ (.int .u8 (((padL S).getD i 0 : Nat) : Int)))) := Lib.hid (by rw [hstep]; exact hst)
              have H02 := Lib.hid (PxAt.cell_other (j := 1 + i) H0.out (Nat.ne_of_lt HBB.out) (.int .u8 (((padL S).getD i 0 : Nat) : Int)))
              have HR2 := Lib.hid (HR.out.cell_other (j := 1 + i) (Nat.ne_of_lt (Nat.lt_trans HG.out HBB.out)) (.int .u8 (((padL S).getD i 0 : Nat) : Int)))
              have HB2 := Lib.hid (Keeps.cell (i := 1 + i) HB.out (Nat.le_of_lt HBB.out) (.int .u8 (((padL S).getD i 0 : Nat) : Int)))
              clear hst hstep HN H0 HR HB
              generalize (padL S).getD i 0 = y at *
              simp only at hcz
              generalize (fillL S i).getD i 0 = y0 at *
              go_wp2
              exact ⟨⟨i + 1, by go_num, by omega, HN2, H02, HR2, HB2⟩, by simp only [intOf]; omega⟩
            · obtain rfl : i = S.size := by omega
              rw [fillL_all S hs16] at HN
              have hpl := padL_length S hs16
              have hRC := fun w => RRight_calls w ⟨false, padL S, (x : Nat)⟩ ⟨hpl, padL_small S⟩
              rw [HPX.out, HS.out] at hR0
              go_wp2_with (with_reducible refine wpList_mark (o := ⟨some 63, _, _, _, _, _⟩) ?_)
              refine Marked.intro ?_
              refine wpList_run rfl (exec_load_whole rfl rfl HN.out) ?_
              go_wp2_with fail
              refine (hRC _).mono ?_
              rintro e w8 ⟨rfl, hb⟩
              clear hRC
              have HN' := Lib.hid (HN.out.b hb); have HR' := Lib.hid (HR.out.below hb); have H0' := Lib.hid (H0.out.b hb)
              have HB' := Lib.hid (HB.out.after hb)
              clear HN HR H0 HB hb; have HN := HN'; have HR := HR'; have H0 := H0'; have HB := HB'; clear HN' HR' H0' HB'

              cases e1 : (⟨false, padL S, (x : Nat)⟩ : Px).right with
              | false =>
                rw [if_neg (by rw [e1]; simp)] at hR0
                have HR00 := Lib.hid hR0
                clear hR0 e1
                go_wp2_with (with_reducible refine wpList_mark (o := ⟨some 66, _, _, _, _, _⟩) ?_)
                refine Marked.intro ?_
                refine wpList_run rfl (exec_build_px0 rfl _) ?_
                refine wpList_do rfl (exec_store_px rfl rfl rfl H0.out (by rfl)) ?_
                have HX := Lib.hid (H0.out.set (q := Px.zero) (by rfl))
                have hRX := HR.out.row_other (Nat.ne_of_lt HG.out) (Px.row Px.zero)
                have HRX := Lib.hid hRX; clear hRX
                have HBX := Lib.hid (Keeps.row HB.out (Nat.le_refl _) (Px.row Px.zero))
                generalize World.setRow _ w.heap.size (Px.row Px.zero) = wX at *
                go_wp2
                refine bodyPost_ret (results_two rfl _ _ _ ⟨w.heap.size, 0, none⟩ _ _ rfl rfl (load_px HX.out)) rfl ?_
                rw [HRR.out, HR00.out]
                exact ⟨rfl, HRX.out, HBX.out⟩

              | true =>
                rw [if_pos e1] at hR0
                have HR00 := Lib.hid hR0
                clear hR0 e1
                go_wp2_with (with_reducible refine wpList_mark (o := ⟨some 67, _, _, _, _, _⟩) ?_)
                refine Marked.intro ?_
                refine wpList_run rfl (exec_load_whole rfl rfl HN.out) ?_
                refine wpList_do rfl (exec_store_px rfl rfl rfl H0.out hpl) ?_
                have HX := Lib.hid (H0.out.set (q := (⟨false, padL S, (x : Nat)⟩ : Px)) hpl)
                have hRX := HR.out.row_other (Nat.ne_of_lt HG.out) (Px.row (⟨false, padL S, (x : Nat)⟩ : Px))
                have HRX := Lib.hid hRX; clear hRX
                have HBX := Lib.hid (Keeps.row HB.out (Nat.le_refl _) (Px.row (⟨false, padL S, (x : Nat)⟩ : Px)))
                generalize World.setRow _ w.heap.size (Px.row (⟨false, padL S, (x : Nat)⟩ : Px)) = wX at *
                go_wp2
                refine bodyPost_ret (results_two rfl _ _ _ ⟨w.heap.size, 0, none⟩ _ _ rfl rfl (load_px HX.out)) rfl ?_
                rw [HRR.out, HR00.out]
                exact ⟨rfl, HRX.out, HBX.out⟩




end Go.Proofs.YtmccnmccegbdjaaDoor
