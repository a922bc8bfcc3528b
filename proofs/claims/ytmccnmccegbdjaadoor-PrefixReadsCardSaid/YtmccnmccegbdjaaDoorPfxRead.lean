/- The walk of prefix.Read. (Printed by wip/print/pfxread.py.) -/
import Derived.Test.YtmccnmccegbdjaaDoorPfxMake
import Derived.Test.YtmccnmccegbdjaaDoorPfxReader
namespace Go.Proofs.YtmccnmccegbdjaaDoor
open Go.RowKit Go.Sort
set_option linter.unusedVariables false
set_option linter.unusedSimpArgs false
theorem UpV.px {g k : Nat} {p : Px} {w w' : World} (hu : UpV g w w') (h : PxAt k p w) (hk : k ≠ g) : PxAt k p w' := ⟨(hu.other k hk).trans h.1, h.2⟩
theorem PxAt.row_other {g k : Nat} {p : Px} {w : World} (h : PxAt g p w) (hk : g ≠ k) (cs : Array Value) : PxAt g p (w.setRow k cs) := ⟨(setRow_other w k g cs hk).trans h.1, h.2⟩
theorem Rd.row_other {g k e : Nat} {l : List UInt8} {w : World} (h : Rd g l e w) (hk : g ≠ k) (cs : Array Value) : Rd g l e (w.setRow k cs) := (setRow_other w k g cs hk).trans h
/-- What reading gives, leaves of the bytes, and finds wrong (the reader's own error). -/
def headSix (c : Nat) : Bool := decide (64 ≤ c)
def headLen (c : Nat) : Nat := if 64 ≤ c then c - 64 else c
def readPx (c : Nat) (s : List UInt8) : Px := ⟨headSix c, padL (bstr s), headLen c⟩
def readR (l : List UInt8) : Px × Nat × List UInt8 × Nat :=
  match l with
  | [] => (Px.zero, 3, [], 3)
  | c :: r =>
    if widthN (headSix c.toNat) < headLen c.toNat then (Px.zero, 4, r, 0)
    else if r.length < (headLen c.toNat + 7) / 8 then (Px.zero, 3, r, 3)
    else if (readPx c.toNat (r.take ((headLen c.toNat + 7) / 8))).right then (readPx c.toNat (r.take ((headLen c.toNat + 7) / 8)), 0, r.drop ((headLen c.toNat + 7) / 8), 0)
    else (Px.zero, 4, r.drop ((headLen c.toNat + 7) / 8), 0)
def ReadPost (g : Nat) (l : List UInt8) (w : World) (e : Ending) (w' : World) : Prop :=
  e = .returned (.tuple #[.agg (readR l).1.row, .int .i64 (readR l).2.1]) ∧ Rd g (readR l).2.2.1 (readR l).2.2.2 w' ∧ Below g w w'
def zs : List Nat := List.replicate 16 0
theorem built_px2 (six : Bool) (n : Int) : Tryd.prog.built 30 [(0, .bool six), (2, .int .i64 n)] = some (⟨six, zs, n⟩ : Px).row := by
  kernel_rfl
theorem exec_build_px2 {a : Act} {o : Oper} {x z : Operand} (ho : o.op = .build 30 #[(0, x), (2, z)]) (w : World) {six : Bool} {n : Int} (hx : a.eval x = .bool six) (hz : a.eval z = .int .i64 n) :
    (execOp a.eval o).run Tryd.prog w = .ok (.value (.agg (⟨six, zs, n⟩ : Px).row)) w := by
  have h := run_build (P := Tryd.prog) w 30 #[(0, .bool six), (2, .int .i64 n)] _ (built_px2 six n)
  unfold execOp
  simp only [ho, List.map_toArray, List.map_cons, List.map_nil, hx, hz, Sem.run_bind, h, Result.andThen_ok, Sem.run_pure]
theorem copy_row2 (six : Bool) (n : Int) (s : ByteArray) (h : s.size ≤ 16) : ((⟨six, zs, n⟩ : Px).row.toList.take 1 ++ Lib.byteCells s.data.toList ++ (⟨six, zs, n⟩ : Px).row.toList.drop (1 + s.size)).toArray = (⟨six, padL s, n⟩ : Px).row := by
  rw [byteCells_sl]
  show _ = (Value.bool six :: (bv (padL s) ++ [Value.int .i64 n])).toArray
  congr 1
  have e1 : (⟨six, zs, n⟩ : Px).row.toList = Value.bool six :: (bv (List.replicate 16 0) ++ [Value.int .i64 n]) := rfl
  rw [e1, show 1 + s.size = s.size + 1 by omega, List.drop_succ_cons, List.take_succ_cons, List.take_zero]
  rw [List.drop_append_of_le_length (by simp [bv_length]; omega)]
  unfold padL
  have e2 : (bv (List.replicate 16 0)).drop s.size = bv (List.replicate (16 - s.size) 0) := by
    unfold bv
    rw [List.map_replicate, List.drop_replicate, List.map_replicate]
  rw [e2]
  simp [bv]
set_option maxRecDepth 100000 in
set_option maxHeartbeats 8000000 in
theorem Read_calls (w : World) (g : Nat) (l : List UInt8) (h : Rd g l 0 w) : Calls Tryd.prog 11 #[.pointer (some ⟨g, 0, none⟩)] w (ReadPost g l w) := by
  have hg := h.lt
  have hb0 := (Below.refl w.heap.size w).alloc (Nat.le_refl _) (.cells Px.zero.row 30)
  have h0 := PxAt.new w Px.zero (by rfl)
  have hr0 := h.below ((Below.refl w.heap.size w).alloc (Nat.le_refl _) (.cells Px.zero.row 30))
  have HB0 := Lib.hid (hb0.mono (Nat.le_of_lt hg)); have H0 := Lib.hid h0; have HR0 := Lib.hid hr0; have HG := Lib.hid hg; clear hb0 h0 h hr0 hg
  unfold ReadPost
  obtain ⟨rr, hrr⟩ : ∃ rr, rr = readR l := ⟨_, rfl⟩
  rw [← hrr]
  have HRR := Lib.hid hrr; clear hrr
  go_enter Tryd.func11, Tryd.ntmps11
  go_wp2_with fail
  rw [← zero_row]
  generalize w.alloc (.cells Px.zero.row 30) = w1 at *
  cases l with
  | nil =>
    have hR : readR [] = (Px.zero, 3, [], 3) := rfl
    refine (Byte_calls _ g 0 [] HR0.out (by omega)).mono ?_
    rw [show byteR [] 0 = (0, [], 3) from rfl]
    rintro e w2 ⟨rfl, hr, hu⟩
    have HR1 := Lib.hid hr; have HB1 := Lib.hid (HB0.out.trans (hu.below (Nat.le_refl _)))
    have H0' := Lib.hid (hu.px H0.out (Nat.ne_of_gt HG.out))
    clear H0; have H0 := H0'; clear H0' hr hu
    go_wp2_with fail
    refine (RdErr_calls _ g 3 [] HR1.out).mono ?_
    rintro e w' ⟨rfl, rfl⟩
    go_wp2_with (with_reducible refine wpList_mark (o := ⟨some 17, _, _, _, _, _⟩) ?_)
    refine Marked.intro ?_
    refine wpList_run rfl (exec_load_whole rfl rfl H0.out) ?_
    go_wp2_with (with_reducible refine wpList_mark (o := ⟨none, _, _, _, _, _⟩) ?_)
    refine Marked.intro ?_
    refine wpList_do rfl (exec_store_px rfl rfl rfl H0.out (by rfl)) ?_
    have HX := Lib.hid (H0.out.set (q := Px.zero) (by rfl))
    have hRX := HR1.out.row_other (Nat.ne_of_lt HG.out) Px.zero.row
    have HRX := Lib.hid hRX; clear hRX
    have HBX := Lib.hid (below_row HB1.out (Nat.le_of_lt HG.out) Px.zero.row)
    generalize World.setRow _ w.heap.size Px.zero.row = wX at *
    go_wp2
    refine bodyPost_ret (results_two rfl _ _ _ ⟨w.heap.size, 0, none⟩ _ _ rfl rfl (load_px HX.out)) rfl ?_
    rw [HRR.out, hR]
    exact ⟨rfl, HRX.out, HBX.out⟩
  | cons c r =>
    refine (Byte_calls _ g 0 (c :: r) HR0.out (by omega)).mono ?_
    rw [show byteR (c :: r) 0 = (c.toNat, r, 0) from rfl]
    rintro e w2 ⟨rfl, hr, hu⟩
    have HR1 := Lib.hid hr; have HB1 := Lib.hid (HB0.out.trans (hu.below (Nat.le_refl _)))
    have H0' := Lib.hid (hu.px H0.out (Nat.ne_of_gt HG.out))
    clear H0; have H0 := H0'; clear H0' hr hu
    go_wp2_with fail
    refine (RdErr_calls _ g 0 r HR1.out).mono ?_
    rintro e w' ⟨rfl, rfl⟩
    have hR0 : readR (c :: r) = if widthN (headSix c.toNat) < headLen c.toNat then (Px.zero, 4, r, 0)
      else if r.length < (headLen c.toNat + 7) / 8 then (Px.zero, 3, r, 3)
      else if (readPx c.toNat (r.take ((headLen c.toNat + 7) / 8))).right then (readPx c.toNat (r.take ((headLen c.toNat + 7) / 8)), 0, r.drop ((headLen c.toNat + 7) / 8), 0)
      else (Px.zero, 4, r.drop ((headLen c.toNat + 7) / 8), 0) := rfl
    have hx256 : c.toNat < 256 := c.toNat_lt
    have hpx : ∀ s, readPx c.toNat s = ⟨headSix c.toNat, padL (bstr s), headLen c.toNat⟩ := fun s => rfl
    obtain ⟨x, hx⟩ : ∃ x, c.toNat = x := ⟨_, rfl⟩
    rw [hx] at hR0 hx256 hpx
    have HX0 := Lib.hid hx
    rw [hx]
    clear hx
    by_cases h64 : 64 ≤ x
    · obtain ⟨n, hn⟩ : ∃ n, x = n + 64 := ⟨x - 64, by omega⟩
      have hwx : wrap64 (x : Int) = (x : Int) := by unfold wrap64; omega
      have hsub : (x : Int) - 64 = (n : Int) := by omega
      have d1 : decide (64 ≤ (x : Int)) = true := decide_eq_true (by omega)
      have hS : headSix x = true := decide_eq_true h64
      have hL : headLen x = n := by unfold headLen; rw [if_pos h64]; omega
      have hw : widthN true = 128 := rfl
      have hW : ∀ w, Calls Tryd.prog 31 #[.bool true] w fun e w' => e = .returned (.int .i64 128) ∧ w = w' := fun w => width_calls w true
      rw [hS, hL, hw] at hR0
      rw [hS, hL] at hpx
      have HPX := Lib.hid hpx; clear hpx hS hL hw
      by_cases hwd : 128 < n
      · rw [if_pos hwd] at hR0
        have d2 : decide ((128 : Int) < (n : Int)) = true := decide_eq_true (by omega)
        have HR00 := Lib.hid hR0
        clear hR0 hwd h64 hn
        go_wp2_with fail
        refine (hW _).mono ?_
        rintro e w' ⟨rfl, rfl⟩
        go_wp2_with (with_reducible refine wpList_mark (o := ⟨some 28, _, _, _, _, _⟩) ?_)
        refine Marked.intro ?_
        refine wpList_run rfl (exec_load_whole rfl rfl H0.out) ?_
        go_wp2_with (with_reducible refine wpList_mark (o := ⟨none, _, _, _, _, _⟩) ?_)
        refine Marked.intro ?_
        refine wpList_do rfl (exec_store_px rfl rfl rfl H0.out (by rfl)) ?_
        have HX := Lib.hid (H0.out.set (q := Px.zero) (by rfl))
        have hRX := HR1.out.row_other (Nat.ne_of_lt HG.out) Px.zero.row
        have HRX := Lib.hid hRX; clear hRX
        have HBX := Lib.hid (below_row HB1.out (Nat.le_of_lt HG.out) Px.zero.row)
        generalize World.setRow _ w.heap.size Px.zero.row = wX at *
        go_wp2
        refine bodyPost_ret (results_two rfl _ _ _ ⟨w.heap.size, 0, none⟩ _ _ rfl rfl (load_px HX.out)) rfl ?_
        rw [HRR.out, HR00.out]
        exact ⟨rfl, HRX.out, HBX.out⟩
      · rw [if_neg hwd] at hR0
        have d2 : decide ((128 : Int) < (n : Int)) = false := decide_eq_false (by omega)
        obtain ⟨m, hm⟩ : ∃ m, (n + 7) / 8 = m := ⟨_, rfl⟩
        have hm16 : m ≤ 16 := by omega
        rw [hm] at hR0
        have w4_ : (((n : Nat) : Int) + 7).tdiv 8 = (m : Int) := by rw [Int.tdiv_eq_ediv_of_nonneg (by omega)]; omega
        have w5_ : (((n : Nat) : Int) + 7) / 8 = (m : Int) := by omega
        have HMY := Lib.hid hm
        clear hm
        have hraw : rawR r 0 (m : Int) = if r.length < m then ([], r, 3) else (r.take m, r.drop m, 0) := by
          unfold rawR
          rw [if_neg (by simp), if_neg (by omega)]
          by_cases h : r.length < m
          · rw [if_pos h, if_pos (by omega)]
          · rw [if_neg h, if_neg (by omega)]; rfl
        have HRW : Hid (∀ w, Rd g r 0 w → Calls Tryd.prog 32 #[.pointer (some ⟨g, 0, none⟩), .int .i64 m] w fun x w' => x = .returned (.string (bstr (rawR r 0 m).1)) ∧ Rd g (rawR r 0 m).2.1 (rawR r 0 m).2.2 w' ∧ UpV g w w') := Lib.hid (fun w h => Raw_calls w g 0 r m h (by omega))
        rw [hraw] at HRW
        clear hraw h64 hn
        go_wp2_with fail
        refine (hW _).mono ?_
        rintro e w' ⟨rfl, rfl⟩
        go_wp2_with fail
        refine (HRW.out _ HR1.out).mono ?_
        by_cases hlen : r.length < m
        · rw [if_pos hlen] at hR0 ⊢
          have HR00 := Lib.hid hR0
          rintro e w3 ⟨rfl, hr, hu⟩
          have HR2 := Lib.hid hr; have HB2 := Lib.hid (HB1.out.trans (hu.below (Nat.le_refl _)))
          have H0' := Lib.hid (hu.px H0.out (Nat.ne_of_gt HG.out))
          clear H0; have H0 := H0'; clear H0' hr hu
          go_wp2_with fail
          refine (RdErr_calls _ g 3 r HR2.out).mono ?_
          rintro e w' ⟨rfl, rfl⟩
          go_wp2_with (with_reducible refine wpList_mark (o := ⟨some 38, _, _, _, _, _⟩) ?_)
          refine Marked.intro ?_
          refine wpList_run rfl (exec_load_whole rfl rfl H0.out) ?_
          go_wp2_with (with_reducible refine wpList_mark (o := ⟨none, _, _, _, _, _⟩) ?_)
          refine Marked.intro ?_
          refine wpList_do rfl (exec_store_px rfl rfl rfl H0.out (by rfl)) ?_
          have HX := Lib.hid (H0.out.set (q := Px.zero) (by rfl))
          have hRX := HR2.out.row_other (Nat.ne_of_lt HG.out) Px.zero.row
          have HRX := Lib.hid hRX; clear hRX
          have HBX := Lib.hid (below_row HB2.out (Nat.le_of_lt HG.out) Px.zero.row)
          generalize World.setRow _ w.heap.size Px.zero.row = wX at *
          go_wp2
          refine bodyPost_ret (results_two rfl _ _ _ ⟨w.heap.size, 0, none⟩ _ _ rfl rfl (load_px HX.out)) rfl ?_
          rw [HRR.out, HR00.out]
          exact ⟨rfl, HRX.out, HBX.out⟩
        · rw [if_neg hlen] at hR0 ⊢
          rintro e w3 ⟨rfl, hr, hu⟩
          have HR2 := Lib.hid hr; have HB2 := Lib.hid (HB1.out.trans (hu.below (Nat.le_refl _)))
          have H0' := Lib.hid (hu.px H0.out (Nat.ne_of_gt HG.out))
          clear H0; have H0 := H0'; clear H0' hr hu
          go_wp2_with fail
          refine (RdErr_calls _ g 0 (r.drop m) HR2.out).mono ?_
          rintro e w' ⟨rfl, rfl⟩
          have hs16 : (bstr (r.take m)).size ≤ 16 := by rw [bstr_size, List.length_take]; omega
          obtain ⟨S, hS⟩ : ∃ S, bstr (r.take m) = S := ⟨_, rfl⟩
          rw [hS] at hs16
          rw [hS]
          have HS16 := Lib.hid hs16; have HS := Lib.hid hS
          clear hs16 hS
          go_wp2_with (with_reducible refine wpList_mark (o := ⟨some 42, _, _, _, _, _⟩) ?_)
          refine Marked.intro ?_
          refine wpList_run rfl (exec_build_px2 rfl _ rfl rfl) ?_
          go_wp2_with (with_reducible refine wpList_mark (o := ⟨none, _, _, _, _, _⟩) ?_)
          rw [← zero_row]
          have hn5 := PxAt.new w3 Px.zero (by rfl)
          have hb5 := HB2.out.alloc (Nat.le_trans (Nat.le_of_lt HG.out) (Nat.le_of_lt H0.out.lt)) (.cells Px.zero.row 30)
          have hr5 := HR2.out.below ((Below.refl w3.heap.size w3).alloc (Nat.le_refl _) (.cells Px.zero.row 30))
          have h05 := H0.out.b ((Below.refl w3.heap.size w3).alloc (Nat.le_refl _) (.cells Px.zero.row 30))
          have HBB := Lib.hid H0.out.lt
          clear H0
          have HN := Lib.hid hn5; have HB := Lib.hid hb5; have HR := Lib.hid hr5; have H0 := Lib.hid h05
          clear hn5 hb5 hr5 h05 HB2 HR2
          generalize w3.alloc (.cells Px.zero.row 30) = w5 at *
          generalize w3.heap.size = b at *
          refine Marked.intro ?_
          refine wpList_do rfl (exec_store_px rfl rfl rfl HN.out (by rfl)) ?_
          have HN' := Lib.hid (HN.out.set (q := ⟨true, zs, (n : Nat)⟩) (by rfl))
          have hr' := HR.out.row_other (Nat.ne_of_lt (Nat.lt_trans HG.out HBB.out)) (⟨true, zs, (n : Nat)⟩ : Px).row
          have h0' := H0.out.row_other (Nat.ne_of_lt HBB.out) (⟨true, zs, (n : Nat)⟩ : Px).row
          have HR' := Lib.hid hr'; have H0' := Lib.hid h0'
          have HB' := Lib.hid (below_row HB.out (Nat.le_of_lt (Nat.lt_trans HG.out HBB.out)) (⟨true, zs, (n : Nat)⟩ : Px).row)
          clear HN HR H0 HB hr' h0'; have HN := HN'; have HR := HR'; have H0 := H0'; have HB := HB'; clear HN' HR' H0' HB'
          generalize World.setRow _ b (⟨true, zs, (n : Nat)⟩ : Px).row = wN at *
          go_wp2_with (with_reducible refine wpList_mark (o := ⟨some 46, _, _, _, _, _⟩) ?_)
          refine Marked.intro ?_
          have hcp := Go.Lib.run_copy_row_string (P := Tryd.prog) wN 56 9 3 5 b 1 16 16 S _ 30 Tryd.underlying56 (by kernel_rfl) HN.out.1 HS16.out (by have := HS16.out; show 1 + S.size ≤ 18; omega)
          rw [copy_row2 _ _ _ HS16.out] at hcp
          have HN' := Lib.hid (HN.out.set (q := ⟨true, padL S, (n : Nat)⟩) (padL_length _ HS16.out))
          have hr' := HR.out.row_other (Nat.ne_of_lt (Nat.lt_trans HG.out HBB.out)) (⟨true, padL S, (n : Nat)⟩ : Px).row
          have h0' := H0.out.row_other (Nat.ne_of_lt HBB.out) (⟨true, padL S, (n : Nat)⟩ : Px).row
          have HR' := Lib.hid hr'; have H0' := Lib.hid h0'
          have HB' := Lib.hid (below_row HB.out (Nat.le_of_lt (Nat.lt_trans HG.out HBB.out)) (⟨true, padL S, (n : Nat)⟩ : Px).row)
          clear HN HR H0 HB hr' h0'; have HN := HN'; have HR := HR'; have H0 := H0'; have HB := HB'; clear HN' HR' H0' HB'
          generalize World.setRow _ b (⟨true, padL S, (n : Nat)⟩ : Px).row = wN at *
          go_wp2_with (with_reducible refine wpList_mark (o := ⟨some 47, _, _, _, _, _⟩) ?_)
          refine Marked.intro ?_
          refine wpList_run rfl (exec_load_whole rfl rfl HN.out) ?_
          go_wp2_with fail
          clear hcp
          have hwf : (⟨true, padL S, (n : Nat)⟩ : Px).wf := ⟨padL_length _ HS16.out, padL_small _⟩
          have hRC := fun w => Right_calls w ⟨true, padL S, (n : Nat)⟩ hwf
          have hpl := hwf.len
          rw [HPX.out, HS.out] at hR0
          clear hwf
          refine (hRC _).mono ?_
          rintro e w8 ⟨rfl, hb⟩
          have HN' := Lib.hid (HN.out.b hb); have HR' := Lib.hid (HR.out.below hb); have H0' := Lib.hid (H0.out.b hb)
          have HB' := Lib.hid (HB.out.trans (hb.mono (Nat.le_trans (Nat.le_of_lt HG.out) (Nat.le_of_lt H0.out.lt))))
          clear HN HR H0 HB hb; have HN := HN'; have HR := HR'; have H0 := H0'; have HB := HB'; clear HN' HR' H0' HB' hRC
          cases e1 : (⟨true, padL S, (n : Nat)⟩ : Px).right with
          | false =>
            rw [if_neg (by rw [e1]; simp)] at hR0
            have HR00 := Lib.hid hR0
            clear hR0 e1
            go_wp2_with (with_reducible refine wpList_mark (o := ⟨some 50, _, _, _, _, _⟩) ?_)
            refine Marked.intro ?_
            refine wpList_run rfl (exec_load_whole rfl rfl H0.out) ?_
            go_wp2_with (with_reducible refine wpList_mark (o := ⟨none, _, _, _, _, _⟩) ?_)
            refine Marked.intro ?_
            refine wpList_do rfl (exec_store_px rfl rfl rfl H0.out (by rfl)) ?_
            have HX := Lib.hid (H0.out.set (q := Px.zero) (by rfl))
            have hRX := HR.out.row_other (Nat.ne_of_lt HG.out) Px.zero.row
            have HRX := Lib.hid hRX; clear hRX
            have HBX := Lib.hid (below_row HB.out (Nat.le_of_lt HG.out) Px.zero.row)
            generalize World.setRow _ w.heap.size Px.zero.row = wX at *
            go_wp2
            refine bodyPost_ret (results_two rfl _ _ _ ⟨w.heap.size, 0, none⟩ _ _ rfl rfl (load_px HX.out)) rfl ?_
            rw [HRR.out, HR00.out]
            exact ⟨rfl, HRX.out, HBX.out⟩
          | true =>
            rw [if_pos e1] at hR0
            have HR00 := Lib.hid hR0
            clear hR0 e1
            go_wp2_with (with_reducible refine wpList_mark (o := ⟨some 51, _, _, _, _, _⟩) ?_)
            refine Marked.intro ?_
            refine wpList_run rfl (exec_load_whole rfl rfl HN.out) ?_
            go_wp2_with (with_reducible refine wpList_mark (o := ⟨none, _, _, _, _, _⟩) ?_)
            refine Marked.intro ?_
            refine wpList_do rfl (exec_store_px rfl rfl rfl H0.out hpl) ?_
            have HX := Lib.hid (H0.out.set (q := (⟨true, padL S, (n : Nat)⟩ : Px)) hpl)
            have hRX := HR.out.row_other (Nat.ne_of_lt HG.out) (⟨true, padL S, (n : Nat)⟩ : Px).row
            have HRX := Lib.hid hRX; clear hRX
            have HBX := Lib.hid (below_row HB.out (Nat.le_of_lt HG.out) (⟨true, padL S, (n : Nat)⟩ : Px).row)
            generalize World.setRow _ w.heap.size (⟨true, padL S, (n : Nat)⟩ : Px).row = wX at *
            go_wp2
            refine bodyPost_ret (results_two rfl _ _ _ ⟨w.heap.size, 0, none⟩ _ _ rfl rfl (load_px HX.out)) rfl ?_
            rw [HRR.out, HR00.out]
            exact ⟨rfl, HRX.out, HBX.out⟩



    · obtain ⟨n, hn⟩ : ∃ n, x = n := ⟨x, rfl⟩
      have d1 : decide (64 ≤ (x : Int)) = false := decide_eq_false (by omega)
      have hS : headSix x = false := decide_eq_false h64
      have hL : headLen x = n := by unfold headLen; rw [if_neg h64]; exact hn
      subst hn
      have hwx : wrap64 (x : Int) = (x : Int) := by unfold wrap64; omega
      have hw : widthN false = 32 := rfl
      have hW : ∀ w, Calls Tryd.prog 31 #[.bool false] w fun e w' => e = .returned (.int .i64 32) ∧ w = w' := fun w => width_calls w false
      rw [hS, hL, hw] at hR0
      rw [hS, hL] at hpx
      have HPX := Lib.hid hpx; clear hpx hS hL hw
      by_cases hwd : 32 < x
      · rw [if_pos hwd] at hR0
        have d2 : decide ((32 : Int) < (x : Int)) = true := decide_eq_true (by omega)
        have HR00 := Lib.hid hR0
        clear hR0 hwd h64
        go_wp2_with fail
        refine (hW _).mono ?_
        rintro e w' ⟨rfl, rfl⟩
        go_wp2_with (with_reducible refine wpList_mark (o := ⟨some 28, _, _, _, _, _⟩) ?_)
        refine Marked.intro ?_
        refine wpList_run rfl (exec_load_whole rfl rfl H0.out) ?_
        go_wp2_with (with_reducible refine wpList_mark (o := ⟨none, _, _, _, _, _⟩) ?_)
        refine Marked.intro ?_
        refine wpList_do rfl (exec_store_px rfl rfl rfl H0.out (by rfl)) ?_
        have HX := Lib.hid (H0.out.set (q := Px.zero) (by rfl))
        have hRX := HR1.out.row_other (Nat.ne_of_lt HG.out) Px.zero.row
        have HRX := Lib.hid hRX; clear hRX
        have HBX := Lib.hid (below_row HB1.out (Nat.le_of_lt HG.out) Px.zero.row)
        generalize World.setRow _ w.heap.size Px.zero.row = wX at *
        go_wp2
        refine bodyPost_ret (results_two rfl _ _ _ ⟨w.heap.size, 0, none⟩ _ _ rfl rfl (load_px HX.out)) rfl ?_
        rw [HRR.out, HR00.out]
        exact ⟨rfl, HRX.out, HBX.out⟩
      · rw [if_neg hwd] at hR0
        have d2 : decide ((32 : Int) < (x : Int)) = false := decide_eq_false (by omega)
        obtain ⟨m, hm⟩ : ∃ m, (x + 7) / 8 = m := ⟨_, rfl⟩
        have hm16 : m ≤ 16 := by omega
        rw [hm] at hR0
        have w4_ : (((x : Nat) : Int) + 7).tdiv 8 = (m : Int) := by rw [Int.tdiv_eq_ediv_of_nonneg (by omega)]; omega
        have w5_ : (((x : Nat) : Int) + 7) / 8 = (m : Int) := by omega
        have HMY := Lib.hid hm
        clear hm
        have hraw : rawR r 0 (m : Int) = if r.length < m then ([], r, 3) else (r.take m, r.drop m, 0) := by
          unfold rawR
          rw [if_neg (by simp), if_neg (by omega)]
          by_cases h : r.length < m
          · rw [if_pos h, if_pos (by omega)]
          · rw [if_neg h, if_neg (by omega)]; rfl
        have HRW : Hid (∀ w, Rd g r 0 w → Calls Tryd.prog 32 #[.pointer (some ⟨g, 0, none⟩), .int .i64 m] w fun x w' => x = .returned (.string (bstr (rawR r 0 m).1)) ∧ Rd g (rawR r 0 m).2.1 (rawR r 0 m).2.2 w' ∧ UpV g w w') := Lib.hid (fun w h => Raw_calls w g 0 r m h (by omega))
        rw [hraw] at HRW
        clear hraw h64
        go_wp2_with fail
        refine (hW _).mono ?_
        rintro e w' ⟨rfl, rfl⟩
        go_wp2_with fail
        refine (HRW.out _ HR1.out).mono ?_
        by_cases hlen : r.length < m
        · rw [if_pos hlen] at hR0 ⊢
          have HR00 := Lib.hid hR0
          rintro e w3 ⟨rfl, hr, hu⟩
          have HR2 := Lib.hid hr; have HB2 := Lib.hid (HB1.out.trans (hu.below (Nat.le_refl _)))
          have H0' := Lib.hid (hu.px H0.out (Nat.ne_of_gt HG.out))
          clear H0; have H0 := H0'; clear H0' hr hu
          go_wp2_with fail
          refine (RdErr_calls _ g 3 r HR2.out).mono ?_
          rintro e w' ⟨rfl, rfl⟩
          go_wp2_with (with_reducible refine wpList_mark (o := ⟨some 38, _, _, _, _, _⟩) ?_)
          refine Marked.intro ?_
          refine wpList_run rfl (exec_load_whole rfl rfl H0.out) ?_
          go_wp2_with (with_reducible refine wpList_mark (o := ⟨none, _, _, _, _, _⟩) ?_)
          refine Marked.intro ?_
          refine wpList_do rfl (exec_store_px rfl rfl rfl H0.out (by rfl)) ?_
          have HX := Lib.hid (H0.out.set (q := Px.zero) (by rfl))
          have hRX := HR2.out.row_other (Nat.ne_of_lt HG.out) Px.zero.row
          have HRX := Lib.hid hRX; clear hRX
          have HBX := Lib.hid (below_row HB2.out (Nat.le_of_lt HG.out) Px.zero.row)
          generalize World.setRow _ w.heap.size Px.zero.row = wX at *
          go_wp2
          refine bodyPost_ret (results_two rfl _ _ _ ⟨w.heap.size, 0, none⟩ _ _ rfl rfl (load_px HX.out)) rfl ?_
          rw [HRR.out, HR00.out]
          exact ⟨rfl, HRX.out, HBX.out⟩
        · rw [if_neg hlen] at hR0 ⊢
          rintro e w3 ⟨rfl, hr, hu⟩
          have HR2 := Lib.hid hr; have HB2 := Lib.hid (HB1.out.trans (hu.below (Nat.le_refl _)))
          have H0' := Lib.hid (hu.px H0.out (Nat.ne_of_gt HG.out))
          clear H0; have H0 := H0'; clear H0' hr hu
          go_wp2_with fail
          refine (RdErr_calls _ g 0 (r.drop m) HR2.out).mono ?_
          rintro e w' ⟨rfl, rfl⟩
          have hs16 : (bstr (r.take m)).size ≤ 16 := by rw [bstr_size, List.length_take]; omega
          obtain ⟨S, hS⟩ : ∃ S, bstr (r.take m) = S := ⟨_, rfl⟩
          rw [hS] at hs16
          rw [hS]
          have HS16 := Lib.hid hs16; have HS := Lib.hid hS
          clear hs16 hS
          go_wp2_with (with_reducible refine wpList_mark (o := ⟨some 42, _, _, _, _, _⟩) ?_)
          refine Marked.intro ?_
          refine wpList_run rfl (exec_build_px2 rfl _ rfl rfl) ?_
          go_wp2_with (with_reducible refine wpList_mark (o := ⟨none, _, _, _, _, _⟩) ?_)
          rw [← zero_row]
          have hn5 := PxAt.new w3 Px.zero (by rfl)
          have hb5 := HB2.out.alloc (Nat.le_trans (Nat.le_of_lt HG.out) (Nat.le_of_lt H0.out.lt)) (.cells Px.zero.row 30)
          have hr5 := HR2.out.below ((Below.refl w3.heap.size w3).alloc (Nat.le_refl _) (.cells Px.zero.row 30))
          have h05 := H0.out.b ((Below.refl w3.heap.size w3).alloc (Nat.le_refl _) (.cells Px.zero.row 30))
          have HBB := Lib.hid H0.out.lt
          clear H0
          have HN := Lib.hid hn5; have HB := Lib.hid hb5; have HR := Lib.hid hr5; have H0 := Lib.hid h05
          clear hn5 hb5 hr5 h05 HB2 HR2
          generalize w3.alloc (.cells Px.zero.row 30) = w5 at *
          generalize w3.heap.size = b at *
          refine Marked.intro ?_
          refine wpList_do rfl (exec_store_px rfl rfl rfl HN.out (by rfl)) ?_
          have HN' := Lib.hid (HN.out.set (q := ⟨false, zs, (x : Nat)⟩) (by rfl))
          have hr' := HR.out.row_other (Nat.ne_of_lt (Nat.lt_trans HG.out HBB.out)) (⟨false, zs, (x : Nat)⟩ : Px).row
          have h0' := H0.out.row_other (Nat.ne_of_lt HBB.out) (⟨false, zs, (x : Nat)⟩ : Px).row
          have HR' := Lib.hid hr'; have H0' := Lib.hid h0'
          have HB' := Lib.hid (below_row HB.out (Nat.le_of_lt (Nat.lt_trans HG.out HBB.out)) (⟨false, zs, (x : Nat)⟩ : Px).row)
          clear HN HR H0 HB hr' h0'; have HN := HN'; have HR := HR'; have H0 := H0'; have HB := HB'; clear HN' HR' H0' HB'
          generalize World.setRow _ b (⟨false, zs, (x : Nat)⟩ : Px).row = wN at *
          go_wp2_with (with_reducible refine wpList_mark (o := ⟨some 46, _, _, _, _, _⟩) ?_)
          refine Marked.intro ?_
          have hcp := Go.Lib.run_copy_row_string (P := Tryd.prog) wN 56 9 3 5 b 1 16 16 S _ 30 Tryd.underlying56 (by kernel_rfl) HN.out.1 HS16.out (by have := HS16.out; show 1 + S.size ≤ 18; omega)
          rw [copy_row2 _ _ _ HS16.out] at hcp
          have HN' := Lib.hid (HN.out.set (q := ⟨false, padL S, (x : Nat)⟩) (padL_length _ HS16.out))
          have hr' := HR.out.row_other (Nat.ne_of_lt (Nat.lt_trans HG.out HBB.out)) (⟨false, padL S, (x : Nat)⟩ : Px).row
          have h0' := H0.out.row_other (Nat.ne_of_lt HBB.out) (⟨false, padL S, (x : Nat)⟩ : Px).row
          have HR' := Lib.hid hr'; have H0' := Lib.hid h0'
          have HB' := Lib.hid (below_row HB.out (Nat.le_of_lt (Nat.lt_trans HG.out HBB.out)) (⟨false, padL S, (x : Nat)⟩ : Px).row)
          clear HN HR H0 HB hr' h0'; have HN := HN'; have HR := HR'; have H0 := H0'; have HB := HB'; clear HN' HR' H0' HB'
          generalize World.setRow _ b (⟨false, padL S, (x : Nat)⟩ : Px).row = wN at *
          go_wp2_with (with_reducible refine wpList_mark (o := ⟨some 47, _, _, _, _, _⟩) ?_)
          refine Marked.intro ?_
          refine wpList_run rfl (exec_load_whole rfl rfl HN.out) ?_
          go_wp2_with fail
          clear hcp
          have hwf : (⟨false, padL S, (x : Nat)⟩ : Px).wf := ⟨padL_length _ HS16.out, padL_small _⟩
          have hRC := fun w => Right_calls w ⟨false, padL S, (x : Nat)⟩ hwf
          have hpl := hwf.len
          rw [HPX.out, HS.out] at hR0
          clear hwf
          refine (hRC _).mono ?_
          rintro e w8 ⟨rfl, hb⟩
          have HN' := Lib.hid (HN.out.b hb); have HR' := Lib.hid (HR.out.below hb); have H0' := Lib.hid (H0.out.b hb)
          have HB' := Lib.hid (HB.out.trans (hb.mono (Nat.le_trans (Nat.le_of_lt HG.out) (Nat.le_of_lt H0.out.lt))))
          clear HN HR H0 HB hb; have HN := HN'; have HR := HR'; have H0 := H0'; have HB := HB'; clear HN' HR' H0' HB' hRC
          cases e1 : (⟨false, padL S, (x : Nat)⟩ : Px).right with
          | false =>
            rw [if_neg (by rw [e1]; simp)] at hR0
            have HR00 := Lib.hid hR0
            clear hR0 e1
            go_wp2_with (with_reducible refine wpList_mark (o := ⟨some 50, _, _, _, _, _⟩) ?_)
            refine Marked.intro ?_
            refine wpList_run rfl (exec_load_whole rfl rfl H0.out) ?_
            go_wp2_with (with_reducible refine wpList_mark (o := ⟨none, _, _, _, _, _⟩) ?_)
            refine Marked.intro ?_
            refine wpList_do rfl (exec_store_px rfl rfl rfl H0.out (by rfl)) ?_
            have HX := Lib.hid (H0.out.set (q := Px.zero) (by rfl))
            have hRX := HR.out.row_other (Nat.ne_of_lt HG.out) Px.zero.row
            have HRX := Lib.hid hRX; clear hRX
            have HBX := Lib.hid (below_row HB.out (Nat.le_of_lt HG.out) Px.zero.row)
            generalize World.setRow _ w.heap.size Px.zero.row = wX at *
            go_wp2
            refine bodyPost_ret (results_two rfl _ _ _ ⟨w.heap.size, 0, none⟩ _ _ rfl rfl (load_px HX.out)) rfl ?_
            rw [HRR.out, HR00.out]
            exact ⟨rfl, HRX.out, HBX.out⟩
          | true =>
            rw [if_pos e1] at hR0
            have HR00 := Lib.hid hR0
            clear hR0 e1
            go_wp2_with (with_reducible refine wpList_mark (o := ⟨some 51, _, _, _, _, _⟩) ?_)
            refine Marked.intro ?_
            refine wpList_run rfl (exec_load_whole rfl rfl HN.out) ?_
            go_wp2_with (with_reducible refine wpList_mark (o := ⟨none, _, _, _, _, _⟩) ?_)
            refine Marked.intro ?_
            refine wpList_do rfl (exec_store_px rfl rfl rfl H0.out hpl) ?_
            have HX := Lib.hid (H0.out.set (q := (⟨false, padL S, (x : Nat)⟩ : Px)) hpl)
            have hRX := HR.out.row_other (Nat.ne_of_lt HG.out) (⟨false, padL S, (x : Nat)⟩ : Px).row
            have HRX := Lib.hid hRX; clear hRX
            have HBX := Lib.hid (below_row HB.out (Nat.le_of_lt HG.out) (⟨false, padL S, (x : Nat)⟩ : Px).row)
            generalize World.setRow _ w.heap.size (⟨false, padL S, (x : Nat)⟩ : Px).row = wX at *
            go_wp2
            refine bodyPost_ret (results_two rfl _ _ _ ⟨w.heap.size, 0, none⟩ _ _ rfl rfl (load_px HX.out)) rfl ?_
            rw [HRR.out, HR00.out]
            exact ⟨rfl, HRX.out, HBX.out⟩



end Go.Proofs.YtmccnmccegbdjaaDoor
