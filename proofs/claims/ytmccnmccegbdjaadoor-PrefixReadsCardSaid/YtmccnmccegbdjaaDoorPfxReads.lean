/- The walk of the law PrefixReads. (Printed by wip/print/pfxreads.py.) -/
import Derived.Test.YtmccnmccegbdjaaDoorPfxRRead
import Derived.Test.YtmccnmccegbdjaaDoorPfxKinds
import Derived.Test.YtmccnmccegbdjaaDoorPfxMakes
namespace Go.Proofs.YtmccnmccegbdjaaDoor
open Go.RowKit Go.Sort
set_option linter.unusedVariables false
set_option linter.unusedSimpArgs false
theorem Held.keeps {l : List (Nat × Px)} {g : Nat} {w w' : World} (h : Held l w) (k : Keeps g w w') (hg : ∀ x ∈ l, x.1 ≠ g) : Held l w' := fun x hx => ⟨(k.block x.1 (h x hx).lt (hg x hx)).trans (h x hx).1, (h x hx).2⟩
theorem readR_len (l : List UInt8) : (readR l).1.A.length = 16 := by
  unfold readR
  cases l with
  | nil => rfl
  | cons c r =>
    have hc := c.toNat_lt
    have hx : widthN (headSix c.toNat) < headLen c.toNat ∨ (headLen c.toNat + 7) / 8 ≤ 16 := by
      have := widthN_le (headSix c.toNat)
      omega
    simp only
    split
    · rfl
    · split
      · rfl
      · rename_i h1 h2
        split
        · show (padL (bstr _)).length = 16
          refine padL_length _ ?_
          rw [bstr_size, List.length_take]
          rcases hx with h | h
          · exact absurd h h1
          · omega
        · rfl
theorem mkR_len (six : Bool) (s : ByteArray) (n : Int) : (mkR six s n).1.A.length = 16 := by
  unfold mkR
  cases h : goodMk six s.size n with
  | false => rfl
  | true =>
    unfold goodMk at h
    simp only [Bool.and_eq_true, decide_eq_true_eq] at h
    have := widthN_le six
    show (maskL (padL s) n).length = 16
    rw [mask_len, padL_length s (by omega)]
theorem mkR_code (six : Bool) (s : ByteArray) (n : Int) : (goodMk six s.size n = true ∧ (mkR six s n).2 = 0) ∨ (goodMk six s.size n = false ∧ (mkR six s n).2 = 1) := by
  unfold mkR
  cases h : goodMk six s.size n with
  | false => exact .inr ⟨rfl, rfl⟩
  | true => exact .inl ⟨rfl, rfl⟩
set_option maxRecDepth 100000 in
set_option maxHeartbeats 16000000 in
theorem PrefixReads_walk (s : ByteArray) (six : Bool) (t : ByteArray) (n : Int) (hs : s.size ≤ 140737488351232) (ht : t.size ≤ 140737488351232) (wn : (Lit.int .i64 n).wf = true) (w : World) (hT : Tab w) : Calls Tryd.prog 3 #[.string s, .bool six, .string t, .int .i64 n] w fun e w' => e = .returned (.bool true) ∧ Below w.heap.size w w' := by
  have cA := fun w h => awake_calls w h
  have hT' := Lib.hid hT; clear hT
  by_cases h1 : 300 < s.size
  · have d1 : decide (300 < (s.size : Int)) = true := decide_eq_true (by omega)
    go_enter Tryd.func3, Tryd.ntmps3
    go_wp2_with fail
    refine (cA _ hT'.out).mono ?_
    rintro e w1 ⟨rfl, hb1⟩
    have HB1 := Lib.hid hb1; have HT1 := Lib.hid (hT'.out.below hb1); clear hb1
    go_wp2_with fail
    refine (cA _ HT1.out).mono ?_
    rintro e w2 ⟨rfl, hb2⟩
    have HB2 := Lib.hid (bn HB1.out hb2); clear hb2
    go_wp2
    go_ret
    exact ⟨rfl, HB2.out⟩

  · have d1 : decide (300 < (s.size : Int)) = false := decide_eq_false (by omega)
    by_cases h2 : 300 < t.size
    · have d2 : decide (300 < (t.size : Int)) = true := decide_eq_true (by omega)
      go_enter Tryd.func3, Tryd.ntmps3
      go_wp2_with fail
      refine (cA _ hT'.out).mono ?_
      rintro e w1 ⟨rfl, hb1⟩
      have HB1 := Lib.hid hb1; have HT1 := Lib.hid (hT'.out.below hb1); clear hb1
      go_wp2_with fail
      refine (cA _ HT1.out).mono ?_
      rintro e w2 ⟨rfl, hb2⟩
      have HB2 := Lib.hid (bn HB1.out hb2); clear hb2
      go_wp2
      go_ret
      exact ⟨rfl, HB2.out⟩

    · have d2 : decide (300 < (t.size : Int)) = false := decide_eq_false (by omega)
      have hlP := readR_len s.data.toList
      have hlX := mkR_len six t n
      obtain ⟨P, f, rest, e0, hRD⟩ : ∃ P f rest e0, readR s.data.toList = (P, f, rest, e0) := ⟨_, _, _, _, rfl⟩
      have cMk := fun w => Make_calls w six t n ht
      have cRM := fun w => RMake_calls w six t n ht
      unfold RMakePost at cRM
      have hco := mkR_code six t n
      rw [hRD] at hlP
      generalize (mkR six t n).1 = X at *
      generalize (mkR six t n).2 = c at *
      generalize goodMk six t.size n = ok at *
      have hEP : ∀ w', (Op.equalIn 10000 30 (.agg P.row) (.agg P.row)).run Tryd.prog w' = .ok true w' := fun w' => by
        have := run_eql_px w' 9997 P P hlP hlP
        rw [decide_eq_true rfl] at this; exact this
      have hEX : ∀ w', (Op.equalIn 10000 30 (.agg X.row) (.agg X.row)).run Tryd.prog w' = .ok true w' := fun w' => by
        have := run_eql_px w' 9997 X X hlX hlX
        rw [decide_eq_true rfl] at this; exact this
      have hG : Tryd.prog.eqGuardType Tryd.prog.depth 30 = false := by kernel_rfl
      have HEP := Lib.hid hEP; have HEX := Lib.hid hEX; have HG := Lib.hid hG; have HCO := Lib.hid hco; have HLP := Lib.hid hlP; have HLX := Lib.hid hlX; have HRD := Lib.hid hRD; have CMK := Lib.hid cMk; have CRM := Lib.hid cRM
      clear hEP hEX hG hco hlP hlX hRD cMk cRM
      go_enter Tryd.func3, Tryd.ntmps3
      go_wp2_with fail
      refine (cA _ hT'.out).mono ?_
      rintro e w1 ⟨rfl, hb1⟩
      have HB1 := Lib.hid hb1; clear hb1
      go_wp2_with fail
      refine (RdNew_calls _ _).mono ?_
      rintro e w2 ⟨rfl, hr, hb, hsz⟩
      have HB2 := Lib.hid (bn HB1.out hb)
      have hle := HB1.out.size
      have hr2 : RRd w2.heap.size s.data.toList 0 (w2.alloc (.cells #[.string s, .int .i64 0] 27)) := heap_alloc_new w2 _
      have hr1 := hr.below ((Below.refl _ _).alloc (Nat.le_refl _) (.cells #[.string s, .int .i64 0] 27))
      have hb3 := HB2.out.alloc HB2.out.size (.cells #[.string s, .int .i64 0] 27)
      have HR := Lib.hid hr1; have HQ := Lib.hid hr2; have HB := Lib.hid hb3; have HS := Lib.hid hsz; have HLE := Lib.hid hle
      have HELD : Hid (Held [] (w2.alloc (.cells #[.string s, .int .i64 0] 27))) := Lib.hid (fun x hx => by cases hx)
      clear hr hb hsz hle hr2 hr1 hb3 HB1 HB2
      go_wp2_with fail
      generalize w2.alloc (.cells #[.string s, .int .i64 0] 27) = w3 at *
      generalize w2.heap.size = g2 at *
      generalize w1.heap.size = g at *
      have HGG : Hid (g ≠ g2) := Lib.hid (by have := HS.out; omega)
      have HG2 : Hid (w.heap.size ≤ g2) := Lib.hid (by have := HS.out; have := HLE.out; omega)
      refine (Read2_calls _ g _ HR.out).mono ?_
      unfold ReadPost2
      rw [HRD.out]
      dsimp only
      rintro e w4 ⟨rfl, hr, hk⟩
      have HQ' : Hid (RRd g2 s.data.toList 0 w4) := Lib.hid ((hk.block g2 HQ.out.lt (fun h => HGG.out h.symm)).trans HQ.out)
      have HB' := Lib.hid (HB.out.trans (hk.below HLE.out HB.out.size))
      clear HR HQ HB HELD hk; have HR := Lib.hid hr; have HQ := HQ'; have HB := HB'; clear hr HQ' HB'
      have HELD : Hid (Held [] w4) := Lib.hid (fun x hx => by cases hx)
      go_wp2_with (with_reducible refine wpList_mark (o := ⟨none, _, _, _, _, _⟩) ?_)
      rw [← zero_row]
      refine Marked.intro ?_
      refine wpList_do rfl (exec_store_px rfl rfl rfl (PxAt.new w4 Px.zero (by rfl)) HLP.out) ?_
      have hh := HELD.out.store P HLP.out
      have hb := below_store w4 P
      have HR' := Lib.hid (HR.out.below hb); have HQ' := Lib.hid (HQ.out.below hb); have HB' := Lib.hid (bn HB.out hb)
      have hne : w4.heap.size ≠ g2 := Nat.ne_of_gt HQ.out.lt
      have HNb11 := Lib.hid hne
      clear HELD HR HQ HB hb hne; have HELD := Lib.hid hh; have HR := HR'; have HQ := HQ'; have HB := HB'; clear HR' HQ' HB' hh
      generalize World.setRow _ w4.heap.size (Px.row P) = w4s at *
      generalize w4.heap.size = b11 at *
      go_wp2_with fail
      refine (RRead_calls _ g2 _ HQ.out).mono ?_
      unfold RReadPost
      rw [HRD.out]
      dsimp only
      rintro e w5 ⟨rfl, hq, hk⟩
      have HR' : Hid (Rd g rest e0 w5) := Lib.hid ((hk.block g HR.out.lt HGG.out).trans HR.out)
      have HELD' := Lib.hid (HELD.out.keeps hk (fun x hx => by simp only [List.mem_cons, List.not_mem_nil, or_false] at hx; subst hx; exact HNb11.out))
      have HB' := Lib.hid (HB.out.trans (hk.below HG2.out HB.out.size))
      clear HR HQ HB HELD hk; have HR := HR'; have HQ := Lib.hid hq; have HB := HB'; have HELD := HELD'; clear hq HR' HB' HELD'
      go_wp2_with (with_reducible refine wpList_mark (o := ⟨none, _, _, _, _, _⟩) ?_)
      rw [← zero_row]
      refine Marked.intro ?_
      refine wpList_do rfl (exec_store_px rfl rfl rfl (PxAt.new w5 Px.zero (by rfl)) HLP.out) ?_
      have hh := HELD.out.store P HLP.out
      have hb := below_store w5 P
      have HR' := Lib.hid (HR.out.below hb); have HQ' := Lib.hid (HQ.out.below hb); have HB' := Lib.hid (bn HB.out hb)
      have hne : w5.heap.size ≠ g2 := Nat.ne_of_gt HQ.out.lt
      have HNb13 := Lib.hid hne
      clear HELD HR HQ HB hb hne; have HELD := Lib.hid hh; have HR := HR'; have HQ := HQ'; have HB := HB'; clear HR' HQ' HB' hh
      generalize World.setRow _ w5.heap.size (Px.row P) = w5s at *
      generalize w5.heap.size = b13 at *
      go_wp2_with fail
      refine (CMK.out _).mono ?_
      rintro e w6 ⟨rfl, hb⟩
      have HELD' := Lib.hid (HELD.out.b hb); have HR' := Lib.hid (HR.out.below hb); have HQ' := Lib.hid (HQ.out.below hb); have HB' := Lib.hid (bn HB.out hb)
      clear HELD HR HQ HB hb; have HELD := HELD'; have HR := HR'; have HQ := HQ'; have HB := HB'; clear HELD' HR' HQ' HB'
      go_wp2_with (with_reducible refine wpList_mark (o := ⟨none, _, _, _, _, _⟩) ?_)
      rw [← zero_row]
      refine Marked.intro ?_
      refine wpList_do rfl (exec_store_px rfl rfl rfl (PxAt.new w6 Px.zero (by rfl)) HLX.out) ?_
      have hh := HELD.out.store X HLX.out
      have hb := below_store w6 X
      have HR' := Lib.hid (HR.out.below hb); have HQ' := Lib.hid (HQ.out.below hb); have HB' := Lib.hid (bn HB.out hb)
      have hne : w6.heap.size ≠ g2 := Nat.ne_of_gt HQ.out.lt
      have HNb15 := Lib.hid hne
      clear HELD HR HQ HB hb hne; have HELD := Lib.hid hh; have HR := HR'; have HQ := HQ'; have HB := HB'; clear HR' HQ' HB' hh
      generalize World.setRow _ w6.heap.size (Px.row X) = w6s at *
      generalize w6.heap.size = b15 at *
      go_wp2_with fail
      refine (CRM.out _).mono ?_
      rintro e w8 ⟨rfl, hb⟩
      have HELD' := Lib.hid (HELD.out.b hb); have HR' := Lib.hid (HR.out.below hb); have HQ' := Lib.hid (HQ.out.below hb); have HB' := Lib.hid (bn HB.out hb)
      clear HELD HR HQ HB hb; have HELD := HELD'; have HR := HR'; have HQ := HQ'; have HB := HB'; clear HELD' HR' HQ' HB'
      go_wp2_with (with_reducible refine wpList_mark (o := ⟨none, _, _, _, _, _⟩) ?_)
      rw [← zero_row]
      refine Marked.intro ?_
      refine wpList_do rfl (exec_store_px rfl rfl rfl (PxAt.new w8 Px.zero (by rfl)) HLX.out) ?_
      have hh := HELD.out.store X HLX.out
      have hb := below_store w8 X
      have HR' := Lib.hid (HR.out.below hb); have HQ' := Lib.hid (HQ.out.below hb); have HB' := Lib.hid (bn HB.out hb)
      have hne : w8.heap.size ≠ g2 := Nat.ne_of_gt HQ.out.lt
      have HNb17 := Lib.hid hne
      clear HELD HR HQ HB hb hne; have HELD := Lib.hid hh; have HR := HR'; have HQ := HQ'; have HB := HB'; clear HR' HQ' HB' hh
      generalize World.setRow _ w8.heap.size (Px.row X) = w8s at *
      generalize w8.heap.size = b17 at *
      go_wp2_with fail
      have hEP := HEP.out
      have hEX := HEX.out
      have hG := HG.out
      clear cA
      by_cases hf : f = 0
      · subst hf
        have hf0 : (((0 : Nat) : Int) != 0) = false := rfl
        rcases HCO.out with ⟨rfl, rfl⟩ | ⟨rfl, rfl⟩
        · skip
          have c0 := HQ.out.c0
          have kq := cell_regrown c0
          clear c0
          have kL : ∀ d os, Calls Tryd.prog 15 #[.pointer (some ⟨g, 0, none⟩)] (Sort.grow (redrawn w8s d) os) fun e w'' => e = .returned (.int .i64 rest.length) ∧ Lib.Grows (Sort.grow (redrawn w8s d) os) w'' := fun d os => Lib.Calls.grows_of (((Left_calls _ g e0 rest (HR.out.below (below_regrown w8s d os))).mono fun e w' ⟨h1, h2⟩ => ⟨h1, h2 ▸ Below.refl _ _⟩))
          have hsz := bstr_size rest
          rw [← hsz] at kL
          generalize bstr rest = S at *
          clear hsz
          refine Lib.wp_region_made 41 (fun _ => none) (by kernel_rfl) (by kernel_rfl) Lib.stabP_none ?_
          simp only [List.take_succ_cons, List.take_zero, List.drop_succ_cons, List.drop_zero]
          repeat (first | refine Lib.wpML_val _ (by rfl) (by rfl) (fun w' hw' => exec_load_whole rfl rfl ((HELD.out (b11, P) (by simp)).b hw')) ?_ | refine Lib.wpML_val _ (by rfl) (by rfl) (fun w' hw' => exec_load_whole rfl rfl ((HELD.out (b13, P) (by simp)).b hw')) ?_ | refine Lib.wpML_val _ (by rfl) (by rfl) (fun w' hw' => exec_load_whole rfl rfl ((HELD.out (b15, X) (by simp)).b hw')) ?_ | refine Lib.wpML_val _ (by rfl) (by rfl) (fun w' hw' => exec_load_whole rfl rfl ((HELD.out (b17, X) (by simp)).b hw')) ?_ | (refine Lib.wpML_step (by rfl) (fun K hK => ?_); go_simp; first | (refine hK _ ?_; clear hK K) | (apply Exists.intro; refine ⟨fun _ => ?_, hK _ ?_⟩; (first | (refine ⟨?_, by with_reducible exact kL _ _⟩; exact Lib.noInit (by kernel_rfl))); clear hK K)))
          refine Lib.wpML_nil ?_
          intro wz hwz _
          have hb := Lib.Behind.below hwz
          clear hwz kL kq
          have HBZ := Lib.hid (bn HB.out hb)
          clear HB hb
          go_wp2
          go_ret
          exact ⟨rfl, HBZ.out⟩

        · skip
          have c0 := HQ.out.c0
          have kq := cell_regrown c0
          clear c0
          have kL : ∀ d os, Calls Tryd.prog 15 #[.pointer (some ⟨g, 0, none⟩)] (Sort.grow (redrawn w8s d) os) fun e w'' => e = .returned (.int .i64 rest.length) ∧ Lib.Grows (Sort.grow (redrawn w8s d) os) w'' := fun d os => Lib.Calls.grows_of (((Left_calls _ g e0 rest (HR.out.below (below_regrown w8s d os))).mono fun e w' ⟨h1, h2⟩ => ⟨h1, h2 ▸ Below.refl _ _⟩))
          have hsz := bstr_size rest
          rw [← hsz] at kL
          generalize bstr rest = S at *
          clear hsz
          refine Lib.wp_region_made 41 (fun _ => none) (by kernel_rfl) (by kernel_rfl) Lib.stabP_none ?_
          simp only [List.take_succ_cons, List.take_zero, List.drop_succ_cons, List.drop_zero]
          repeat (first | refine Lib.wpML_val _ (by rfl) (by rfl) (fun w' hw' => exec_load_whole rfl rfl ((HELD.out (b11, P) (by simp)).b hw')) ?_ | refine Lib.wpML_val _ (by rfl) (by rfl) (fun w' hw' => exec_load_whole rfl rfl ((HELD.out (b13, P) (by simp)).b hw')) ?_ | refine Lib.wpML_val _ (by rfl) (by rfl) (fun w' hw' => exec_load_whole rfl rfl ((HELD.out (b15, X) (by simp)).b hw')) ?_ | refine Lib.wpML_val _ (by rfl) (by rfl) (fun w' hw' => exec_load_whole rfl rfl ((HELD.out (b17, X) (by simp)).b hw')) ?_ | (refine Lib.wpML_step (by rfl) (fun K hK => ?_); go_simp; first | (refine hK _ ?_; clear hK K) | (apply Exists.intro; refine ⟨fun _ => ?_, hK _ ?_⟩; (first | (refine ⟨?_, by with_reducible exact kL _ _⟩; exact Lib.noInit (by kernel_rfl))); clear hK K)))
          refine Lib.wpML_nil ?_
          intro wz hwz _
          have hb := Lib.Behind.below hwz
          clear hwz kL kq
          have HBZ := Lib.hid (bn HB.out hb)
          clear HB hb
          go_wp2
          go_ret
          exact ⟨rfl, HBZ.out⟩

      · have hf0 : ((f : Int) != 0) = true := by simp; omega
        rcases HCO.out with ⟨rfl, rfl⟩ | ⟨rfl, rfl⟩
        · skip
          have c0 := HQ.out.c0
          have kq := cell_regrown c0
          clear c0
          have kL : ∀ d os, Calls Tryd.prog 15 #[.pointer (some ⟨g, 0, none⟩)] (Sort.grow (redrawn w8s d) os) fun e w'' => e = .returned (.int .i64 rest.length) ∧ Lib.Grows (Sort.grow (redrawn w8s d) os) w'' := fun d os => Lib.Calls.grows_of (((Left_calls _ g e0 rest (HR.out.below (below_regrown w8s d os))).mono fun e w' ⟨h1, h2⟩ => ⟨h1, h2 ▸ Below.refl _ _⟩))
          have hsz := bstr_size rest
          rw [← hsz] at kL
          generalize bstr rest = S at *
          clear hsz
          refine Lib.wp_region_made 41 (fun _ => none) (by kernel_rfl) (by kernel_rfl) Lib.stabP_none ?_
          simp only [List.take_succ_cons, List.take_zero, List.drop_succ_cons, List.drop_zero]
          repeat (first | refine Lib.wpML_val _ (by rfl) (by rfl) (fun w' hw' => exec_load_whole rfl rfl ((HELD.out (b11, P) (by simp)).b hw')) ?_ | refine Lib.wpML_val _ (by rfl) (by rfl) (fun w' hw' => exec_load_whole rfl rfl ((HELD.out (b13, P) (by simp)).b hw')) ?_ | refine Lib.wpML_val _ (by rfl) (by rfl) (fun w' hw' => exec_load_whole rfl rfl ((HELD.out (b15, X) (by simp)).b hw')) ?_ | refine Lib.wpML_val _ (by rfl) (by rfl) (fun w' hw' => exec_load_whole rfl rfl ((HELD.out (b17, X) (by simp)).b hw')) ?_ | (refine Lib.wpML_step (by rfl) (fun K hK => ?_); go_simp; first | (refine hK _ ?_; clear hK K) | (apply Exists.intro; refine ⟨fun _ => ?_, hK _ ?_⟩; (first | (refine ⟨?_, by with_reducible exact kL _ _⟩; exact Lib.noInit (by kernel_rfl))); clear hK K)))
          refine Lib.wpML_nil ?_
          intro wz hwz _
          have hb := Lib.Behind.below hwz
          clear hwz kL kq
          have HBZ := Lib.hid (bn HB.out hb)
          clear HB hb
          go_wp2
          go_ret
          exact ⟨rfl, HBZ.out⟩

        · skip
          have c0 := HQ.out.c0
          have kq := cell_regrown c0
          clear c0
          have kL : ∀ d os, Calls Tryd.prog 15 #[.pointer (some ⟨g, 0, none⟩)] (Sort.grow (redrawn w8s d) os) fun e w'' => e = .returned (.int .i64 rest.length) ∧ Lib.Grows (Sort.grow (redrawn w8s d) os) w'' := fun d os => Lib.Calls.grows_of (((Left_calls _ g e0 rest (HR.out.below (below_regrown w8s d os))).mono fun e w' ⟨h1, h2⟩ => ⟨h1, h2 ▸ Below.refl _ _⟩))
          have hsz := bstr_size rest
          rw [← hsz] at kL
          generalize bstr rest = S at *
          clear hsz
          refine Lib.wp_region_made 41 (fun _ => none) (by kernel_rfl) (by kernel_rfl) Lib.stabP_none ?_
          simp only [List.take_succ_cons, List.take_zero, List.drop_succ_cons, List.drop_zero]
          repeat (first | refine Lib.wpML_val _ (by rfl) (by rfl) (fun w' hw' => exec_load_whole rfl rfl ((HELD.out (b11, P) (by simp)).b hw')) ?_ | refine Lib.wpML_val _ (by rfl) (by rfl) (fun w' hw' => exec_load_whole rfl rfl ((HELD.out (b13, P) (by simp)).b hw')) ?_ | refine Lib.wpML_val _ (by rfl) (by rfl) (fun w' hw' => exec_load_whole rfl rfl ((HELD.out (b15, X) (by simp)).b hw')) ?_ | refine Lib.wpML_val _ (by rfl) (by rfl) (fun w' hw' => exec_load_whole rfl rfl ((HELD.out (b17, X) (by simp)).b hw')) ?_ | (refine Lib.wpML_step (by rfl) (fun K hK => ?_); go_simp; first | (refine hK _ ?_; clear hK K) | (apply Exists.intro; refine ⟨fun _ => ?_, hK _ ?_⟩; (first | (refine ⟨?_, by with_reducible exact kL _ _⟩; exact Lib.noInit (by kernel_rfl))); clear hK K)))
          refine Lib.wpML_nil ?_
          intro wz hwz _
          have hb := Lib.Behind.below hwz
          clear hwz kL kq
          have HBZ := Lib.hid (bn HB.out hb)
          clear HB hb
          go_wp2
          go_ret
          exact ⟨rfl, HBZ.out⟩


end Go.Proofs.YtmccnmccegbdjaaDoor
