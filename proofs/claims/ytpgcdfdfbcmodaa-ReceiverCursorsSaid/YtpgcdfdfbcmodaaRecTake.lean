/- The walks of Receiver.Take, Done, There, Drops. -/
import Derived.Test.YtpgcdfdfbcmodaaRecWalk
namespace Go.Proofs.Ytpgcdfdfbcmodaa
open Go.RowKit Go.Maps
set_option linter.unusedVariables false
set_option linter.unusedSimpArgs false
/-- Nothing that was there has turned but some blocks. -/
structure Chg (K : List Nat) (w w' : World) : Prop where
  os : w'.os = w.os
  tape : w'.tape = w.tape
  output : w'.output = w.output
  size : w.heap.size ≤ w'.heap.size
  other : ∀ k, k < w.heap.size → k ∉ K → w'.heap[k]? = w.heap[k]?
theorem Chg.refl (K : List Nat) (w : World) : Chg K w w := ⟨rfl, rfl, rfl, Nat.le_refl _, fun _ _ _ => rfl⟩
theorem Chg.trans {K : List Nat} {x y z : World} (h : Chg K x y) (k : Chg K y z) : Chg K x z := ⟨k.os.trans h.os, k.tape.trans h.tape, k.output.trans h.output, Nat.le_trans h.size k.size, fun i h1 h2 => (k.other i (Nat.lt_of_lt_of_le h1 h.size) h2).trans (h.other i h1 h2)⟩
theorem Chg.of_below {K : List Nat} {w w' : World} (h : Below w.heap.size w w') : Chg K w w' := ⟨h.os, h.tape, h.output, h.size, fun k hk _ => h.block k hk⟩
theorem Chg.of_upd {K : List Nat} {w w' : World} {g : Nat} (h : Upd g w w') (hg : g ∈ K) : Chg K w w' := ⟨h.os, h.tape, h.output, Nat.le_of_eq h.size.symm, fun k _ hk => h.other k fun e => hk (e ▸ hg)⟩
theorem Chg.below {K : List Nat} {w w' : World} {B : Nat} (h : Chg K w w') (hB : ∀ k ∈ K, B ≤ k) (hs : B ≤ w.heap.size) : Below B w w' := ⟨h.os, h.tape, h.output, h.size, fun k hk => h.other k (by omega) fun e => by have := hB k e; omega⟩
theorem upd_drewN (g n : Nat) (w : World) : Upd g w (w.drewN n) := ⟨rfl, rfl, rfl, rfl, fun _ _ => rfl⟩
theorem upd_set (g i : Nat) (w : World) (v : Value) : Upd g w (w.setCell ⟨g, i, none⟩ v) := ⟨rfl, rfl, rfl, by simp [World.setCell], fun k hk => Below.heap_setCell w _ _ k hk⟩
theorem strsV_set (C : List ByteArray) (i : Nat) (d : ByteArray) : (strsV C).setIfInBounds i (.string d) = strsV (C.set i d) := by
  unfold strsV
  apply Array.ext_getElem?
  intro k
  simp only [Array.getElem?_setIfInBounds, List.getElem?_toArray, List.getElem?_map, List.getElem?_set, List.size_toArray, List.length_map]
  by_cases hk : i = k
  · subst hk
    by_cases hi : i < C.length <;> simp [hi]
  · simp [hk]
theorem RvAt.dropped {R : Rv} {a : Ra} {w w' : World} (h : RvAt R a w) (e : Nat) {M : DataW Unit} (hM : IsMap M) (hat : ∀ e : Int, M.atKey (.int .i64 e) (.lit (.int .i64 0)) = .lit (.int .i64 (R.D e : Int))) (c : Int) (hc : M.atKey (.int .i64 (e : Int)) (.lit (.int .i64 0)) = .lit (.int .i64 c))
    (hown : w'.ownsMap Try.prog 24 (plainElem Try.prog 3) a.gd (R.cnt + 1) (M.put (.int .i64 (e : Int)) (.lit (.int .i64 (c + 1))))) (hg : w.grownBy w' (some a.gd)) : RvAt (R.drop e) a w' := by
  obtain ⟨n1, n2, n3, n4, n5, n6⟩ := h.nodup
  have hl := h.lt
  have ot : ∀ k ∈ a.all, k ≠ a.gd → w'.heap[k]? = w.heap[k]? := fun k hk hne => hg.block k (hl k hk) (by simpa using hne)
  have hcc : c = (R.D e : Int) := by
    have := hat e
    rw [hc] at this
    simpa using this
  subst hcc
  refine ⟨(ot _ (by simp [Ra.all]) n3).trans h.row, ⟨(ot _ (by simp [Ra.all]) n5).trans h.mp.row, h.mp.one, h.mp.le⟩, (ot _ (by simp [Ra.all]) n6).trans h.crow, ⟨_, hM.put _ _, hown, fun x => ?_⟩, h.wf.drop e, h.ne⟩
  show (M.put _ _).atKey _ _ = .lit (.int .i64 ((if x = (e : Int) then R.D x + 1 else R.D x : Nat) : Int))
  by_cases hx : x = (e : Int)
  · subst hx
    rw [atKey_put_same hM (by simp [WideAt.IsKeyLit]), if_pos rfl]
    simp
  · rw [atKey_put_other (by simpa using hx), if_neg hx]
    exact hat x
theorem wf_small (c : Int) (h0 : 0 ≤ c) (h1 : c ≤ 2000000) : (Lit.int .i64 c).wf = true := by
  have e1 : IntKind.i64.min ≤ c := by have : IntKind.i64.min = -9223372036854775808 := by decide
                                      omega
  have e2 : c ≤ IntKind.i64.max := by have : IntKind.i64.max = 9223372036854775807 := by decide
                                      omega
  simp [Lit.wf, e1, e2]; omega
def TakePost (R : Rv) (a : Ra) (w : World) (r : Nat × Rv) (e : Ending) (w' : World) : Prop := e = .returned (.int .i64 (r.1 : Nat)) ∧ RvAt r.2 a w' ∧ Chg a.all w w'
set_option maxHeartbeats 8000000 in
set_option maxRecDepth 100000 in
theorem Take_bad (w : World) (R : Rv) (a : Ra) (f : Fr) (h : RvAt R a w) (hn : R.cnt < 1000000) (hd : ∀ e, R.D e < 1000000) (hw : R.wrong f ≠ 0) :
    Calls Try.prog 18 #[.pointer (some ⟨a.g, 0, none⟩), f.val] w (TakePost R a w (R.wrong f, R.drop (R.wrong f))) := by
  have hbw := (Below.refl w.heap.size w).alloc (Nat.le_refl _) (.cells #[.int .i64 f.k, .int .i64 f.s, .int .i64 f.e, .int .i64 f.i, .int .i64 f.t, .string f.d] 32)
  have hR := heap_alloc_new w (.cells #[.int .i64 f.k, .int .i64 f.s, .int .i64 f.e, .int .i64 f.i, .int .i64 f.t, .string f.d] 32)
  have h1 := h.below hbw (Nat.le_refl _)
  have hwr := wrong_calls _ R a f w.heap.size h1 hR
  have hwl := R.wrong_lt f
  generalize R.wrong f = W at *
  have H1 := Lib.hid h1; have HBW := Lib.hid hbw; have HWR := Lib.hid hwr
  clear h1 hbw hR hwr h
  have hne : ((W : Int) != 0) = true := by simp; omega
  unfold Fr.val
  go_enter Try.func18, Try.ntmps18
  go_wp2_with fail
  refine HWR.out.mono ?_
  rintro e w1 ⟨rfl, hb1⟩
  have h2 := H1.out.below hb1 (Nat.le_refl _)
  obtain ⟨-, -, -, -, c4⟩ := h2.cells
  obtain ⟨M, hM, hown, hat⟩ := h2.drops
  have hc2 := Chg.of_below (K := a.all) (bn HBW.out hb1)
  have H2 := Lib.hid h2; have HM := Lib.hid hM; have HOWN := Lib.hid hown; have HAT := Lib.hid hat; have HC2 := Lib.hid hc2; have HDD := Lib.hid hd
  clear h2 hM hown hat hc2 hb1 H1 HBW HWR hd
  have hkey : keyOf Try.prog 24 (.int .i64 (W : Int)) = some (.int .i64 (W : Int)) := keyOf_int_mk Try.underlying24 (wf_small _ (by omega) (by omega))
  have HKEY := Lib.hid hkey; clear hkey
  go_wp2_with (at_lookup; with_reducible refine wpList_mark ?_)
  refine Marked.intro ?_
  refine wpList_lookup_own_int _ rfl _ _ 72 rfl 24 3 .i64 lawE Try.underlying72 Try.underlying3 (zeroInt _) a.gd R.cnt M (by rfl) HOWN.out _ _ (by rfl) HKEY.out ?_
  intro c hatc hwc
  have hcD : c = (R.D (W : Int) : Int) := by
    have := HAT.out (W : Int)
    rw [hatc] at this
    simpa using this
  have hcb : 0 ≤ c ∧ c < 1000000 := by have := HDD.out (W : Int); omega
  obtain ⟨hcb1, hcb2⟩ := hcb
  have HATC := Lib.hid hatc
  clear hatc hcD hwc
  go_wp2_with (at_mapUpdate; with_reducible refine wpList_mark ?_)
  refine Marked.intro ?_
  refine wpList_mapUpdate_own _ rfl _ _ _ 72 rfl 24 3 lawE Try.underlying72 _ a.gd R.cnt M (by rfl) HOWN.out (by unfold maxLen; omega) _ _ _ (by rfl) (by rfl) HKEY.out _ [] (plainElem_int Try.underlying3 (wf_small _ (by omega) (by omega))) ?_
  intro w2 hown2 hg2
  have h3 := H2.out.dropped W HM.out HAT.out c HATC.out hown2 hg2
  have hc3 : Chg a.all w1 w2 := ⟨hg2.os, hg2.tape, hg2.output, hg2.size, fun k hk hk2 => hg2.block k hk fun e => hk2 (by
    have : k = a.gd := by simpa using e
    rw [this]; simp [Ra.all])⟩
  have H3 := Lib.hid h3; have HC3 := Lib.hid hc3
  clear h3 hc3 hown2 hg2
  go_wp2
  go_ret
  exact ⟨rfl, H3.out, HC2.out.trans HC3.out⟩
theorem RvAt.put {R : Rv} {a : Ra} {w w1 w2 : World} (h : RvAt R a w) (i : Nat) (d : ByteArray) (hd : d.size ≤ 1000) (hm : Mp (R.B.set i true) a.gm w1) (hu : Upd a.gm w w1) (hw2 : w2.heap[a.gc]? = some (.cells (strsV (R.C.set i d)) 9 (0, 0))) (hu2 : Upd a.gc w1 w2) : RvAt (R.put i d) a w2 := by
  obtain ⟨n1, n2, n3, n4, n5, n6⟩ := h.nodup
  refine ⟨((hu2.other _ n2).trans (hu.other _ n1)).trans ?_, ⟨(hu2.other _ n4).trans hm.row, hm.one, hm.le⟩, hw2, h.drops.keep ((hu2.other _ n6.symm).trans (hu.other _ n5.symm)), h.wf.put i d hd, h.ne⟩
  rw [h.row]
  simp [recRow, Rv.put]
set_option maxHeartbeats 8000000 in
set_option maxRecDepth 100000 in
theorem Take_good (w : World) (R : Rv) (a : Ra) (f : Fr) (h : RvAt R a w) (hw : R.wrong f = 0) :
    Calls Try.prog 18 #[.pointer (some ⟨a.g, 0, none⟩), f.val] w (TakePost R a w (0, R.put f.i.toNat f.d)) := by
  have hbw := (Below.refl w.heap.size w).alloc (Nat.le_refl _) (.cells #[.int .i64 f.k, .int .i64 f.s, .int .i64 f.e, .int .i64 f.i, .int .i64 f.t, .string f.d] 32)
  have hR := heap_alloc_new w (.cells #[.int .i64 f.k, .int .i64 f.s, .int .i64 f.e, .int .i64 f.i, .int .i64 f.t, .string f.d] 32)
  have h1 := h.below hbw (Nat.le_refl _)
  have hwr := wrong_calls _ R a f w.heap.size h1 hR
  obtain ⟨-, hok, -, -, ht, hit, hdl, -⟩ := Rv.wrong_zero hw
  obtain ⟨-, -, -, -, -, hi0, -⟩ := hok
  rw [hw] at hwr
  obtain ⟨ii, hii⟩ : ∃ ii : Nat, f.i = (ii : Int) := ⟨f.i.toNat, by omega⟩
  have hiN : ii < R.B.length := by omega
  have hle := h.mp.le
  have hset := fun w h => Set_calls w a.gm R.B f.i h
  rw [hii] at hset
  rw [show setB R.B (ii : Int) = R.B.set ii true by unfold setB; rw [if_pos (by omega)]; rfl] at hset
  have hsz : (w.alloc (.cells #[.int .i64 f.k, .int .i64 f.s, .int .i64 f.e, .int .i64 f.i, .int .i64 f.t, .string f.d] 32)).heap.size = w.heap.size + 1 := by simp
  have hall := h.lt
  have hit2 : f.i.toNat = ii := by rw [hii]; rfl
  have H1 := Lib.hid h1; have HBW := Lib.hid hbw; have HWR := Lib.hid hwr; have HR := Lib.hid hR; have HSet := Lib.hid hset; have HII := Lib.hid hii; have HSZ := Lib.hid hsz; have HALL := Lib.hid hall; have HIT := Lib.hid hit2
  clear h1 hbw hR hwr h hset hsz hall hit2 hw ht hit hi0
  unfold Fr.val
  go_enter Try.func18, Try.ntmps18
  clear hii
  go_wp2_with fail
  refine HWR.out.mono ?_
  rintro e w1 ⟨rfl, hb1⟩
  have h2 := H1.out.below hb1 (Nat.le_refl _)
  have hR2 := (hb1.block w.heap.size (by rw [HSZ.out]; omega)).trans HR.out
  have hc2 := Chg.of_below (K := a.all) (bn HBW.out hb1)
  obtain ⟨-, -, c2, -, -⟩ := h2.cells
  have q3 : w1.cell? ⟨w.heap.size, 3, none⟩ = some (.int .i64 (ii : Int)) := by rw [cell_of_row _ _ 3 _ _ _ hR2, ← HII.out]; rfl
  have H2 := Lib.hid h2; have HR2 := Lib.hid hR2; have HC2 := Lib.hid hc2
  clear h2 hR2 hc2 hb1 H1 HBW HWR HR
  go_wp2_with fail
  go_still_tail 6, (by kernel_rfl)
  change wpList _ _ _ _ _ w1.drew
  go_wp2_with fail
  refine (HSet.out w1.drew ⟨H2.out.mp.row, H2.out.mp.one, H2.out.mp.le⟩).mono ?_
  rintro e w3 ⟨rfl, hm3, hu3⟩
  have hu3' : Upd a.gm w1 w3 := ⟨hu3.os, hu3.tape, hu3.output, hu3.size, hu3.other⟩
  have hng : w.heap.size ≠ a.gm := fun e => by have := HALL.out a.gm (by simp [Ra.all]); omega
  obtain ⟨n1, n2, n3, n4, n5, n6⟩ := H2.out.nodup
  have hR3 := (hu3'.other w.heap.size hng).trans HR2.out
  have hrow3 := (hu3'.other a.g n1).trans H2.out.row
  have hcr3 := (hu3'.other a.gc n4.symm).trans H2.out.crow
  have c3 : w3.cell? ⟨a.g, 3, none⟩ = some (.slice (some ⟨a.gc, 0, none⟩) R.B.length R.B.length) := by rw [cell_of_row _ _ 3 _ _ _ hrow3]; rfl
  have q3' : w3.cell? ⟨w.heap.size, 3, none⟩ = some (.int .i64 (ii : Int)) := by rw [cell_of_row _ _ 3 _ _ _ hR3, ← HII.out]; rfl
  have q5' : w3.cell? ⟨w.heap.size, 5, none⟩ = some (.string f.d) := by rw [cell_of_row _ _ 5 _ _ _ hR3]; rfl
  have hcl : ii < R.C.length := by rw [H2.out.wf.lc]; exact hiN
  have cc : w3.cell? ⟨a.gc, ii, none⟩ = some (.string (R.C.getD ii ⟨#[]⟩)) := by
    rw [cell_of_row _ _ _ _ _ _ hcr3]
    simp [strsV, List.getD_eq_getElem?_getD, hcl]
  generalize R.C.getD ii ⟨#[]⟩ = old at *
  have fc : w3.frozen? ⟨a.gc, ii, none⟩ = false := by simp [World.frozen?, hcr3]
  have hset3 := row_setCell w3 a.gc ii _ _ _ (.string f.d) hcr3
  rw [strsV_set] at hset3
  have hfin := H2.out.put (w1 := w3) (w2 := (w3.setCell ⟨a.gc, ii, none⟩ (.string f.d)).drew) ii f.d hdl hm3 hu3' hset3 ((upd_set a.gc ii w3 _).trans (upd_drewN a.gc 1 _))
  have hcf : Chg a.all w1 (w3.setCell ⟨a.gc, ii, none⟩ (.string f.d)).drew := ((Chg.of_upd hu3' (by simp [Ra.all])).trans (Chg.of_upd (upd_set a.gc ii w3 (.string f.d)) (by simp [Ra.all]))).trans (Chg.of_upd (upd_drewN a.gc 1 _) (by simp [Ra.all]))
  have HFin := Lib.hid hfin; have HCF := Lib.hid hcf
  clear hm3 hu3 hu3' hR3 hrow3 hcr3 hset3 hfin hcf q3 c2 hng n1 n2 n3 n4 n5 n6
  have hii : (ii : Int) < (R.B.length : Int) := by omega
  have hii0 : (0 : Int) ≤ (ii : Int) := by omega
  go_wp2_with fail
  go_region
  go_wp2
  go_ret
  rw [HIT.out]
  exact ⟨rfl, HFin.out, HC2.out.trans HCF.out⟩
theorem Take_calls (w : World) (R : Rv) (a : Ra) (f : Fr) (h : RvAt R a w) (hn : R.cnt < 1000000) (hd : ∀ e, R.D e < 1000000) :
    Calls Try.prog 18 #[.pointer (some ⟨a.g, 0, none⟩), f.val] w (TakePost R a w (R.take f)) := by
  unfold Rv.take
  by_cases hw : R.wrong f = 0
  · rw [if_neg (by simpa using hw)]
    exact Take_good w R a f h hw
  · rw [if_pos hw]
    exact Take_bad w R a f h hn hd hw
set_option maxHeartbeats 4000000 in
theorem RDone_calls (w : World) (R : Rv) (a : Ra) (h : RvAt R a w) :
    Calls Try.prog 20 #[.pointer (some ⟨a.g, 0, none⟩)] w fun e w' => e = .returned (.bool (decide (baseB R.B = R.B.length))) ∧ Below w.heap.size w w' := by
  obtain ⟨-, -, c2, -, -⟩ := h.cells
  have hf := Full_calls w a.gm R.B h.mp
  have HF := Lib.hid hf; clear hf h
  go_enter Try.func20, Try.ntmps20
  go_wp2_with fail
  refine HF.out.mono ?_
  rintro e w1 ⟨rfl, hb⟩
  go_wp2
  go_ret
  exact ⟨rfl, hb⟩
set_option maxHeartbeats 4000000 in
theorem RThere_calls (w : World) (R : Rv) (a : Ra) (h : RvAt R a w) :
    Calls Try.prog 21 #[.pointer (some ⟨a.g, 0, none⟩)] w fun e w' => e = .returned (.pointer (some ⟨w.heap.size, 0, none⟩)) ∧ Mp R.B w.heap.size w' ∧ Below w.heap.size w w' ∧ w'.heap.size = w.heap.size + 1 := by
  obtain ⟨-, -, c2, -, -⟩ := h.cells
  have hf := Copy_calls w a.gm R.B h.mp
  have HF := Lib.hid hf; clear hf h
  go_enter Try.func21, Try.ntmps21
  go_wp2_with fail
  refine HF.out.mono ?_
  rintro e w1 ⟨rfl, h1, h2, h3⟩
  go_wp2
  go_ret
  exact ⟨rfl, h1, h2, h3⟩
set_option maxHeartbeats 4000000 in
theorem RDrops_calls (w : World) (R : Rv) (a : Ra) (e : Nat) (h : RvAt R a w) (he : e ≤ 1000) :
    Calls Try.prog 17 #[.pointer (some ⟨a.g, 0, none⟩), .int .i64 (e : Int)] w fun x w' => x = .returned (.int .i64 (R.D (e : Int) : Nat)) ∧ w = w' := by
  obtain ⟨-, -, -, -, c4⟩ := h.cells
  obtain ⟨M, hM, hown, hat⟩ := h.drops
  have HOWN := Lib.hid hown; have HAT := Lib.hid hat
  clear hown hat hM h
  have hkey : keyOf Try.prog 24 (.int .i64 (e : Int)) = some (.int .i64 (e : Int)) := keyOf_int_mk Try.underlying24 (wf_small _ (by omega) (by omega))
  have HKEY := Lib.hid hkey; clear hkey
  go_enter Try.func17, Try.ntmps17
  go_wp2_with (at_lookup; with_reducible refine wpList_mark ?_)
  refine Marked.intro ?_
  refine wpList_lookup_own_int _ rfl _ _ 72 rfl 24 3 .i64 lawE Try.underlying72 Try.underlying3 (zeroInt _) a.gd R.cnt M (by rfl) HOWN.out _ _ (by rfl) HKEY.out ?_
  intro c hatc hwc
  have hcD : c = (R.D (e : Int) : Int) := by
    have := HAT.out (e : Int)
    rw [hatc] at this
    simpa using this
  subst hcD
  clear hatc hwc
  go_wp2
  go_ret
  exact ⟨rfl, rfl⟩
end Go.Proofs.Ytpgcdfdfbcmodaa
