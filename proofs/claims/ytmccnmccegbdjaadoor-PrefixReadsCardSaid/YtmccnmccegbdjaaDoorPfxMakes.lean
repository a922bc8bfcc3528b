/- The walk of the law PrefixMakes. (Printed by wip/print/pfxmakes.py.) -/
import Derived.Test.YtmccnmccegbdjaaDoorPfxMk
namespace Go.Proofs.YtmccnmccegbdjaaDoor
open Go.RowKit Go.Sort
set_option linter.unusedVariables false
set_option linter.unusedSimpArgs false
theorem wrap_small (y : Nat) (h : y < 256) : wrap64 (y : Int) = (y : Int) ∧ IntKind.i64.wrap (y : Int) = (y : Int) := ⟨by unfold wrap64; omega, IntWalk.i64_in _ (by omega)⟩
set_option maxRecDepth 100000 in
set_option maxHeartbeats 16000000 in
theorem PrefixMakes_walk (six : Bool) (s : ByteArray) (a b : Int) (hs : s.size ≤ 140737488351232) (wa : (Lit.int .i64 a).wf = true) (wb : (Lit.int .i64 b).wf = true) (w : World) (ht : Tab w) : Calls Tryd.prog 7 #[.bool six, .string s, .int .i64 a, .int .i64 b] w fun e w' => e = .returned (.bool true) ∧ Below w.heap.size w w' := by
  have HELD : Hid (Held [] w) := Lib.hid (fun x hx => by cases hx)
  have HB := Lib.hid (Below.refl w.heap.size w); have HT := Lib.hid ht; clear ht
  have cA := fun w h => awake_calls w h
  have cMa := fun w => Make_calls w six s a hs
  have cMb := fun w => Make_calls w six s b hs
  have hlen : ∀ n, (mkR six s n).1.A.length = 16 := fun n => by
    unfold mkR
    cases h : goodMk six s.size n with
    | false => rfl
    | true =>
      unfold goodMk at h
      simp only [Bool.and_eq_true, decide_eq_true_eq] at h
      have := widthN_le six
      show (maskL (padL s) n).length = 16
      rw [mask_len, padL_length s (by omega)]
  have hla := hlen a
  have hlb := hlen b
  clear hlen
  have hbad : ∀ n, goodMk six s.size n = false → (mkR six s n).2 = 1 := fun n h => by unfold mkR; rw [h]; rfl
  have hgood : ∀ n, goodMk six s.size n = true → mkR six s n = (mkPx six s n, 0) := fun n h => by unfold mkR; rw [h]; rfl
  cases e1 : goodMk six s.size a with
  | false =>
    have h1 := hbad a e1
    obtain ⟨pa, hpa⟩ : ∃ p, (mkR six s a).1 = p := ⟨_, rfl⟩
    obtain ⟨pb, hpb⟩ : ∃ p, (mkR six s b).1 = p := ⟨_, rfl⟩
    obtain ⟨eb, heb⟩ : ∃ p, (mkR six s b).2 = p := ⟨_, rfl⟩
    rw [h1, hpa] at cMa
    rw [hpb, heb] at cMb
    rw [hpa] at hla
    rw [hpb] at hlb
    clear h1 hpa hpb heb e1 hbad hgood
    go_enter Tryd.func7, Tryd.ntmps7
    go_wp2_with fail
    refine (cMa _).mono ?_
    rintro e wN ⟨rfl, hb⟩
    have HELD' := Lib.hid (HELD.out.b hb); have HT' := Lib.hid (HT.out.below hb); have HB' := Lib.hid (bn HB.out hb)
    clear HELD HT HB hb; have HELD := HELD'; have HT := HT'; have HB := HB'; clear HELD' HT' HB'
    go_wp2_with (with_reducible refine wpList_mark (o := ⟨none, _, _, _, _, _⟩) ?_)
    rw [← zero_row]
    refine Marked.intro ?_
    refine wpList_do rfl (exec_store_px rfl rfl rfl (PxAt.new wN Px.zero (by rfl)) hla) ?_
    have hh := HELD.out.store pa hla
    have hb := below_store wN pa
    have HELD' := Lib.hid hh; have HT' := Lib.hid (HT.out.below hb); have HB' := Lib.hid (bn HB.out hb)
    clear HELD HT HB hb hh; have HELD := HELD'; have HT := HT'; have HB := HB'; clear HELD' HT' HB'
    generalize World.setRow _ wN.heap.size (Px.row pa) = wM at *
    generalize wN.heap.size = b1 at *
    go_wp2_with fail
    refine (cMb _).mono ?_
    rintro e wN ⟨rfl, hb⟩
    have HELD' := Lib.hid (HELD.out.b hb); have HT' := Lib.hid (HT.out.below hb); have HB' := Lib.hid (bn HB.out hb)
    clear HELD HT HB hb; have HELD := HELD'; have HT := HT'; have HB := HB'; clear HELD' HT' HB'
    go_wp2_with (with_reducible refine wpList_mark (o := ⟨none, _, _, _, _, _⟩) ?_)
    rw [← zero_row]
    refine Marked.intro ?_
    refine wpList_do rfl (exec_store_px rfl rfl rfl (PxAt.new wN Px.zero (by rfl)) hlb) ?_
    have hh := HELD.out.store pb hlb
    have hb := below_store wN pb
    have HELD' := Lib.hid hh; have HT' := Lib.hid (HT.out.below hb); have HB' := Lib.hid (bn HB.out hb)
    clear HELD HT HB hb hh; have HELD := HELD'; have HT := HT'; have HB := HB'; clear HELD' HT' HB'
    generalize World.setRow _ wN.heap.size (Px.row pb) = wM at *
    generalize wN.heap.size = b2 at *
    go_wp2_with fail
    refine (cA _ HT.out).mono ?_
    rintro e wN ⟨rfl, hb⟩
    have HELD' := Lib.hid (HELD.out.b hb); have HT' := Lib.hid (HT.out.below hb); have HB' := Lib.hid (bn HB.out hb)
    clear HELD HT HB hb; have HELD := HELD'; have HT := HT'; have HB := HB'; clear HELD' HT' HB'
    go_wp2_with fail
    refine (cA _ HT.out).mono ?_
    rintro e wN ⟨rfl, hb⟩
    have HELD' := Lib.hid (HELD.out.b hb); have HT' := Lib.hid (HT.out.below hb); have HB' := Lib.hid (bn HB.out hb)
    clear HELD HT HB hb; have HELD := HELD'; have HT := HT'; have HB := HB'; clear HELD' HT' HB'
    go_wp2
    go_ret
    exact ⟨rfl, HB.out⟩

  | true =>
    cases e2 : goodMk six s.size b with
    | false =>
      have h1 := hbad b e2
      have h2 : (mkR six s a).2 = 0 := by rw [hgood a e1]
      obtain ⟨pa, hpa⟩ : ∃ p, (mkR six s a).1 = p := ⟨_, rfl⟩
      obtain ⟨pb, hpb⟩ : ∃ p, (mkR six s b).1 = p := ⟨_, rfl⟩
      rw [h2, hpa] at cMa
      rw [hpb, h1] at cMb
      rw [hpa] at hla
      rw [hpb] at hlb
      clear h1 h2 hpa hpb e1 e2 hbad hgood
      go_enter Tryd.func7, Tryd.ntmps7
      go_wp2_with fail
      refine (cMa _).mono ?_
      rintro e wN ⟨rfl, hb⟩
      have HELD' := Lib.hid (HELD.out.b hb); have HT' := Lib.hid (HT.out.below hb); have HB' := Lib.hid (bn HB.out hb)
      clear HELD HT HB hb; have HELD := HELD'; have HT := HT'; have HB := HB'; clear HELD' HT' HB'
      go_wp2_with (with_reducible refine wpList_mark (o := ⟨none, _, _, _, _, _⟩) ?_)
      rw [← zero_row]
      refine Marked.intro ?_
      refine wpList_do rfl (exec_store_px rfl rfl rfl (PxAt.new wN Px.zero (by rfl)) hla) ?_
      have hh := HELD.out.store pa hla
      have hb := below_store wN pa
      have HELD' := Lib.hid hh; have HT' := Lib.hid (HT.out.below hb); have HB' := Lib.hid (bn HB.out hb)
      clear HELD HT HB hb hh; have HELD := HELD'; have HT := HT'; have HB := HB'; clear HELD' HT' HB'
      generalize World.setRow _ wN.heap.size (Px.row pa) = wM at *
      generalize wN.heap.size = b1 at *
      go_wp2_with fail
      refine (cMb _).mono ?_
      rintro e wN ⟨rfl, hb⟩
      have HELD' := Lib.hid (HELD.out.b hb); have HT' := Lib.hid (HT.out.below hb); have HB' := Lib.hid (bn HB.out hb)
      clear HELD HT HB hb; have HELD := HELD'; have HT := HT'; have HB := HB'; clear HELD' HT' HB'
      go_wp2_with (with_reducible refine wpList_mark (o := ⟨none, _, _, _, _, _⟩) ?_)
      rw [← zero_row]
      refine Marked.intro ?_
      refine wpList_do rfl (exec_store_px rfl rfl rfl (PxAt.new wN Px.zero (by rfl)) hlb) ?_
      have hh := HELD.out.store pb hlb
      have hb := below_store wN pb
      have HELD' := Lib.hid hh; have HT' := Lib.hid (HT.out.below hb); have HB' := Lib.hid (bn HB.out hb)
      clear HELD HT HB hb hh; have HELD := HELD'; have HT := HT'; have HB := HB'; clear HELD' HT' HB'
      generalize World.setRow _ wN.heap.size (Px.row pb) = wM at *
      generalize wN.heap.size = b2 at *
      go_wp2_with fail
      refine (cA _ HT.out).mono ?_
      rintro e wN ⟨rfl, hb⟩
      have HELD' := Lib.hid (HELD.out.b hb); have HT' := Lib.hid (HT.out.below hb); have HB' := Lib.hid (bn HB.out hb)
      clear HELD HT HB hb; have HELD := HELD'; have HT := HT'; have HB := HB'; clear HELD' HT' HB'
      go_wp2_with fail
      refine (cA _ HT.out).mono ?_
      rintro e wN ⟨rfl, hb⟩
      have HELD' := Lib.hid (HELD.out.b hb); have HT' := Lib.hid (HT.out.below hb); have HB' := Lib.hid (bn HB.out hb)
      clear HELD HT HB hb; have HELD := HELD'; have HT := HT'; have HB := HB'; clear HELD' HT' HB'
      go_wp2
      go_ret
      exact ⟨rfl, HB.out⟩

    | true =>
      have g1 := hgood a e1
      have g2 := hgood b e2
      rw [g1] at cMa hla
      rw [g2] at cMb hlb
      unfold goodMk at e1 e2
      simp only [Bool.and_eq_true, decide_eq_true_eq] at e1 e2
      obtain ⟨q1, q2, q3⟩ := e1
      obtain ⟨-, q4, q5⟩ := e2
      obtain ⟨n, rfl⟩ := Int.eq_ofNat_of_zero_le q2
      obtain ⟨m, rfl⟩ := Int.eq_ofNat_of_zero_le q4
      have hw := widthN_le six
      have hw8 : widthN six % 8 = 0 := by cases six <;> rfl
      have s16 : s.size ≤ 16 := by omega
      have hA := padL_length s s16
      have hS := padL_small s
      have r1 := mk_right six (padL s) hA hS n (by omega)
      have L2 := mk_contains six (padL s) hA hS n m (by omega) (by omega)
      have L3 := mk_common six (padL s) hA hS n m (by omega) (by omega)
      have L4 := mk_compare six (padL s) hA hS n m
      have hbit : ∀ i : Nat, i < n → (mkPx six s n).bit i = bitN (padL s) i := fun i hi => by
        unfold Px.bit
        rw [show (mkPx six s n).right = true from r1, decide_eq_true (show (0 : Int) ≤ i by omega), decide_eq_true (show (i : Int) < (mkPx six s n).n by show (i : Int) < n; omega)]
        show ((bitN (maskL (padL s) n) i : Nat) : Int) = _
        rw [mask_bit (padL s) hA hS n i hi (by omega)]
      have wf1 : (mkPx six s n).wf := ⟨hla, mask_small (padL s) n hA hS⟩
      have wf2 : (mkPx six s m).wf := ⟨hlb, mask_small (padL s) m hA hS⟩
      have HCC := Lib.hid (fun w => Contains_calls w _ _ wf1 wf2)
      have HCD := Lib.hid (fun w => Common_calls w _ _ wf1 wf2)
      have HCF := Lib.hid (fun w => Compare_calls w _ _ wf1 wf2)
      have HCB := Lib.hid (fun w i h1 h2 => Bit_calls w _ wf1 i h1 h2)
      have HBIT := Lib.hid hbit
      have HSZ : Hid (∀ i : Nat, i < n → i / 8 < s.size) := Lib.hid (fun i hi => by omega)
      have HL2 : Hid ((mkPx six s n).contains (mkPx six s m) = decide (n ≤ m)) := Lib.hid L2
      have HL3 : Hid ((mkPx six s n).common (mkPx six s m) = ((min n m : Nat) : Int)) := Lib.hid L3
      have HL4 : Hid (n ≤ m → (mkPx six s n).compare (mkPx six s m) ≤ 0) := Lib.hid L4
      have HN1 : Hid ((mkPx six s n).n = (n : Int)) := Lib.hid rfl
      have hn128 : n ≤ 128 := by omega
      have hm128 : m ≤ 128 := by omega
      clear r1 L2 L3 L4 hbit wf1 wf2 hA hS q1 q2 q3 q4 q5 hw hw8 s16 g1 g2 hbad hgood wa wb
      generalize mkPx six s n = pa at *
      generalize mkPx six s m = pb at *
      go_enter Tryd.func7, Tryd.ntmps7
      go_wp2_with fail
      refine (cMa _).mono ?_
      rintro e wN ⟨rfl, hb⟩
      have HELD' := Lib.hid (HELD.out.b hb); have HT' := Lib.hid (HT.out.below hb); have HB' := Lib.hid (bn HB.out hb)
      clear HELD HT HB hb; have HELD := HELD'; have HT := HT'; have HB := HB'; clear HELD' HT' HB'
      go_wp2_with (with_reducible refine wpList_mark (o := ⟨none, _, _, _, _, _⟩) ?_)
      rw [← zero_row]
      refine Marked.intro ?_
      refine wpList_do rfl (exec_store_px rfl rfl rfl (PxAt.new wN Px.zero (by rfl)) hla) ?_
      have hh := HELD.out.store pa hla
      have hb := below_store wN pa
      have HELD' := Lib.hid hh; have HT' := Lib.hid (HT.out.below hb); have HB' := Lib.hid (bn HB.out hb)
      clear HELD HT HB hb hh; have HELD := HELD'; have HT := HT'; have HB := HB'; clear HELD' HT' HB'
      generalize World.setRow _ wN.heap.size (Px.row pa) = wM at *
      generalize wN.heap.size = b1 at *
      go_wp2_with fail
      refine (cMb _).mono ?_
      rintro e wN ⟨rfl, hb⟩
      have HELD' := Lib.hid (HELD.out.b hb); have HT' := Lib.hid (HT.out.below hb); have HB' := Lib.hid (bn HB.out hb)
      clear HELD HT HB hb; have HELD := HELD'; have HT := HT'; have HB := HB'; clear HELD' HT' HB'
      go_wp2_with (with_reducible refine wpList_mark (o := ⟨none, _, _, _, _, _⟩) ?_)
      rw [← zero_row]
      refine Marked.intro ?_
      refine wpList_do rfl (exec_store_px rfl rfl rfl (PxAt.new wN Px.zero (by rfl)) hlb) ?_
      have hh := HELD.out.store pb hlb
      have hb := below_store wN pb
      have HELD' := Lib.hid hh; have HT' := Lib.hid (HT.out.below hb); have HB' := Lib.hid (bn HB.out hb)
      clear HELD HT HB hb hh; have HELD := HELD'; have HT := HT'; have HB := HB'; clear HELD' HT' HB'
      generalize World.setRow _ wN.heap.size (Px.row pb) = wM at *
      generalize wN.heap.size = b2 at *
      go_wp2_with fail
      refine (cA _ HT.out).mono ?_
      rintro e wN ⟨rfl, hb⟩
      have HELD' := Lib.hid (HELD.out.b hb); have HT' := Lib.hid (HT.out.below hb); have HB' := Lib.hid (bn HB.out hb)
      clear HELD HT HB hb; have HELD := HELD'; have HT := HT'; have HB := HB'; clear HELD' HT' HB'
      have k1 := (HELD.out (b1, pa) (by simp)).len
      rw [HN1.out] at k1
      go_wp2_with fail
      clear k1
      go_loopw [41] (fun s41 wr => ∃ i : Nat, s41 = .int .i64 i ∧ i ≤ n ∧ Hid (Below w.heap.size w wr) ∧ Hid (Tab wr) ∧ Hid (Held [(b2, pb), (b1, pa)] wr)) (fun s41 _ => n - (intOf s41).toNat)
      case atStart => exact ⟨0, by first | rfl | trivial, by omega, HB, HT, HELD⟩
      case round =>
        clear HB HT HELD
        obtain ⟨wo, rfl⟩ : ∃ wo : World, wo = wr := ⟨_, rfl⟩
        obtain ⟨i, rfl, hi, HB, HT, HELD⟩ := hrel
        by_cases hlt : i < n
        · have hltI : (i : Int) < (n : Int) := by omega
          have hbit := HBIT.out i hlt
          have cBI : ∀ d os, Calls Tryd.prog 28 #[.agg pa.row, .int .i64 i] (Sort.grow (redrawn wo d) os) fun e w'' => e = .returned (.int .i64 (bitN (padL s) i : Nat)) ∧ Lib.Grows (Sort.grow (redrawn wo d) os) w'' := fun d os => by
            rw [← hbit]; exact Lib.Calls.grows_of (HCB.out _ _ (by omega) (by omega))
          have hix := fun w' => run_str_index w' s (i / 8) (by exact HSZ.out i hlt)
          have hx := padL_small s (i / 8)
          have hbn : bitN (padL s) i = (padL s).getD (i / 8) 0 / 2 ^ (7 - i % 8) % 2 := rfl
          rw [hbn] at cBI
          have ha := and_one ((padL s).getD (i / 8) 0) (i % 8) hx
          have hq : IntKind.i64.wrap ((i : Int) / 8) = ((i / 8 : Nat) : Int) := by
            rw [show (i : Int) / 8 = ((i / 8 : Nat) : Int) by simp]; exact IntWalk.i64_in _ (by omega)
          have hr : Int.tmod (i : Int) 8 = ((i % 8 : Nat) : Int) := rfl
          have hr8 : i % 8 < 8 := by omega
          clear hbit hbn
          generalize (padL s).getD (i / 8) 0 = x at *
          generalize i / 8 = u at *
          generalize i % 8 = v at *
          obtain ⟨k, hk⟩ : ∃ k, 7 - v = k := ⟨_, rfl⟩
          have h7 : IntKind.i64.wrap (7 - (v : Int)) = (k : Int) := by rw [show (7 : Int) - v = (k : Int) by omega]; exact IntWalk.i64_in _ (by omega)
          have hmk : min k 8 = k := by omega
          rw [hk] at ha cBI
          obtain ⟨y, hy⟩ : ∃ y, x / 2 ^ k = y := ⟨_, rfl⟩
          have hyI : (x : Int) / 2 ^ k = (y : Int) := by rw [← hy]; simp
          have hy256 : y < 256 := by rw [← hy]; exact Nat.lt_of_le_of_lt (Nat.div_le_self _ _) hx
          obtain ⟨hwy, hwy2⟩ := wrap_small y hy256
          rw [hyI, hwy] at ha
          rw [hy] at ha cBI
          obtain ⟨z, hz⟩ : ∃ z, y % 2 = z := ⟨_, rfl⟩
          rw [hz] at ha cBI
          clear hy hk hz
          go_wp2_with fail
          refine Lib.wp_region_made 14 (fun _ => none) (by kernel_rfl) (by kernel_rfl) Lib.stabP_none ?_
          simp only [List.take_succ_cons, List.take_zero, List.drop_succ_cons, List.drop_zero]
          repeat (first | refine Lib.wpML_val _ (by rfl) (by rfl) (fun w' hw' => exec_load_whole rfl rfl ((HELD.out (b1, pa) (by simp)).b hw')) ?_ | (refine Lib.wpML_step (by rfl) (fun K hK => ?_); go_simp; first | (refine hK _ ?_; clear hK K) | (apply Exists.intro; refine ⟨fun _ => ?_, hK _ ?_⟩; (first | (refine ⟨?_, by with_reducible exact cBI _ _⟩; exact Lib.noInit (by kernel_rfl))); clear hK K)))
          refine Lib.wpML_nil ?_
          intro w2 hw2 _
          have hb := Lib.Behind.below hw2
          clear hw2 cBI ha hix
          have HELD' := Lib.hid (HELD.out.b hb); have HT' := Lib.hid (HT.out.below hb); have HB' := Lib.hid (bn HB.out hb)
          clear HELD HT HB hb; have HELD := HELD'; have HT := HT'; have HB := HB'; clear HELD' HT' HB'
          go_wp2
          exact ⟨⟨i + 1, by go_num, by omega, HB, HT, HELD⟩, by simp only [intOf]; omega⟩
        · obtain rfl : i = n := by omega
          obtain ⟨wN, rfl⟩ : ∃ wN : World, wN = wo := ⟨_, rfl⟩
          clear HBIT HSZ HCB
          by_cases hab : i ≤ m
          · have hC := fun w => HCC.out w
            rw [HL2.out, decide_eq_true hab] at hC
            have hD := fun w => HCD.out w
            rw [HL3.out, Nat.min_eq_left hab] at hD
            have hF := fun w => HCF.out w
            have hle := HL4.out hab
            obtain ⟨y, hy⟩ : ∃ y, pa.compare pb = y := ⟨_, rfl⟩
            rw [hy] at hF hle
            clear hy
            have HC := Lib.hid hC; have HD := Lib.hid hD; have HF := Lib.hid hF
            clear hC hD hF
            have d1 : decide ((i : Int) ≤ (m : Int)) = true := decide_eq_true (by omega)
            have d2 : decide ((m : Int) < (i : Int)) = false := decide_eq_false (by omega)
            have d1n : decide (i ≤ m) = true := decide_eq_true hab
            have d2n : decide (m < i) = false := decide_eq_false (by omega)
            have d3 : decide (y ≤ 0) = true := decide_eq_true hle
            have hmin : (if m < i then (m : Int) else (i : Int)) = (i : Int) := if_neg (by omega)
            have hmin2 : min (i : Int) (m : Int) = (i : Int) := by omega
            go_wp2_with (with_reducible refine wpList_mark (o := ⟨some 59, _, _, _, _, _⟩) ?_)
            refine Marked.intro ?_
            refine wpList_run rfl (exec_load_whole rfl rfl (HELD.out (b1, pa) (by simp))) ?_
            go_wp2_with (with_reducible refine wpList_mark (o := ⟨some 60, _, _, _, _, _⟩) ?_)
            refine Marked.intro ?_
            refine wpList_run rfl (exec_load_whole rfl rfl (HELD.out (b2, pb) (by simp))) ?_
            go_wp2_with fail
            refine (HC.out _).mono ?_
            rintro e wN ⟨rfl, hb⟩
            have HELD' := Lib.hid (HELD.out.b hb); have HT' := Lib.hid (HT.out.below hb); have HB' := Lib.hid (bn HB.out hb)
            clear HELD HT HB hb; have HELD := HELD'; have HT := HT'; have HB := HB'; clear HELD' HT' HB'
            go_wp2_with (with_reducible refine wpList_mark (o := ⟨some 67, _, _, _, _, _⟩) ?_)
            refine Marked.intro ?_
            refine Lib.wpList_runG (by rfl) (exec_load_whole rfl rfl (HELD.out (b1, pa) (by simp))) ?_
            go_wp2_with (with_reducible refine wpList_mark (o := ⟨some 68, _, _, _, _, _⟩) ?_)
            refine Marked.intro ?_
            refine Lib.wpList_runG (by rfl) (exec_load_whole rfl rfl (HELD.out (b2, pb) (by simp))) ?_
            go_wp2_with fail
            refine (HD.out _).mono ?_
            rintro e wN ⟨rfl, hb⟩
            have HELD' := Lib.hid (HELD.out.b hb); have HT' := Lib.hid (HT.out.below hb); have HB' := Lib.hid (bn HB.out hb)
            clear HELD HT HB hb; have HELD := HELD'; have HT := HT'; have HB := HB'; clear HELD' HT' HB'
            go_wp2_with (with_reducible refine wpList_mark (o := ⟨some 80, _, _, _, _, _⟩) ?_)
            refine Marked.intro ?_
            refine Lib.wpList_runG (by rfl) (exec_load_whole rfl rfl (HELD.out (b1, pa) (by simp))) ?_
            go_wp2_with (with_reducible refine wpList_mark (o := ⟨some 81, _, _, _, _, _⟩) ?_)
            refine Marked.intro ?_
            refine Lib.wpList_runG (by rfl) (exec_load_whole rfl rfl (HELD.out (b2, pb) (by simp))) ?_
            go_wp2_with fail
            refine (HF.out _).mono ?_
            rintro e wN ⟨rfl, hb⟩
            have HELD' := Lib.hid (HELD.out.b hb); have HT' := Lib.hid (HT.out.below hb); have HB' := Lib.hid (bn HB.out hb)
            clear HELD HT HB hb; have HELD := HELD'; have HT := HT'; have HB := HB'; clear HELD' HT' HB'
            go_wp2
            go_ret
            exact ⟨rfl, HB.out⟩

          · have hC := fun w => HCC.out w
            rw [HL2.out, decide_eq_false hab] at hC
            have hD := fun w => HCD.out w
            rw [HL3.out, Nat.min_eq_right (by omega)] at hD
            have HC := Lib.hid hC; have HD := Lib.hid hD
            clear hC hD
            have d1 : decide ((i : Int) ≤ (m : Int)) = false := decide_eq_false (by omega)
            have d2 : decide ((m : Int) < (i : Int)) = true := decide_eq_true (by omega)
            have d1n : decide (i ≤ m) = false := decide_eq_false hab
            have d2n : decide (m < i) = true := decide_eq_true (by omega)
            have hmin : (if m < i then (m : Int) else (i : Int)) = (m : Int) := if_pos (by omega)
            have hmin2 : min (i : Int) (m : Int) = (m : Int) := by omega
            go_wp2_with (with_reducible refine wpList_mark (o := ⟨some 59, _, _, _, _, _⟩) ?_)
            refine Marked.intro ?_
            refine wpList_run rfl (exec_load_whole rfl rfl (HELD.out (b1, pa) (by simp))) ?_
            go_wp2_with (with_reducible refine wpList_mark (o := ⟨some 60, _, _, _, _, _⟩) ?_)
            refine Marked.intro ?_
            refine wpList_run rfl (exec_load_whole rfl rfl (HELD.out (b2, pb) (by simp))) ?_
            go_wp2_with fail
            refine (HC.out _).mono ?_
            rintro e wN ⟨rfl, hb⟩
            have HELD' := Lib.hid (HELD.out.b hb); have HT' := Lib.hid (HT.out.below hb); have HB' := Lib.hid (bn HB.out hb)
            clear HELD HT HB hb; have HELD := HELD'; have HT := HT'; have HB := HB'; clear HELD' HT' HB'
            go_wp2_with (with_reducible refine wpList_mark (o := ⟨some 67, _, _, _, _, _⟩) ?_)
            refine Marked.intro ?_
            refine Lib.wpList_runG (by rfl) (exec_load_whole rfl rfl (HELD.out (b1, pa) (by simp))) ?_
            go_wp2_with (with_reducible refine wpList_mark (o := ⟨some 68, _, _, _, _, _⟩) ?_)
            refine Marked.intro ?_
            refine Lib.wpList_runG (by rfl) (exec_load_whole rfl rfl (HELD.out (b2, pb) (by simp))) ?_
            go_wp2_with fail
            refine (HD.out _).mono ?_
            rintro e wN ⟨rfl, hb⟩
            have HELD' := Lib.hid (HELD.out.b hb); have HT' := Lib.hid (HT.out.below hb); have HB' := Lib.hid (bn HB.out hb)
            clear HELD HT HB hb; have HELD := HELD'; have HT := HT'; have HB := HB'; clear HELD' HT' HB'
            go_wp2
            go_ret
            exact ⟨rfl, HB.out⟩
end Go.Proofs.YtmccnmccegbdjaaDoor
