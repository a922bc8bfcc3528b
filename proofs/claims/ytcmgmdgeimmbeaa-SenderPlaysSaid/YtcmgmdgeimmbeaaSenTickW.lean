/- The walk of Sender.Tick, in all its ways. -/
import Derived.Test.YtcmgmdgeimmbeaaSenTick
import Derived.Test.YtcmgmdgeimmbeaaQuietAlloc
import Derived.StillTailTactics
namespace Go.Proofs.Ytcmgmdgeimmbeaa
open Go.RowKit
attribute [local go_sem] Lib.two Lib.twoUpon_value Lib.twoUpon_skip Lib.twoUpon_enter
set_option linter.unusedVariables false
set_option linter.unusedSimpArgs false
theorem info_frame : (Try.prog.info? 31).map (fun i => (i.zero, i.size, i.bytes)) = some (some (.agg #[.int .i64 0, .int .i64 0, .int .i64 0, .int .i64 0, .int .i64 0, .string ⟨#[]⟩]), 6, 56) := by kernel_rfl
theorem not_in_take' (l : List Nat) (j : Nat) (h : j < l.length) (hn : l.Nodup) : l[j] ∉ l.take j := by
  intro hm
  have e := List.take_append_drop j l
  rw [← e, List.nodup_append] at hn
  exact hn.2.2 _ hm l[j] (by rw [List.drop_eq_getElem_cons h]; exact List.mem_cons_self) rfl
theorem cell_later_alloc {w : World} {a : Addr} {v : Value} (h : w.cell? a = some v) (o : Obj) : (w.alloc o).cell? a = some v := Lib.cell?_alloc_some (W := w) o h
def TickPost (S : Sn) (a : Sa) (w : World) (r : List Nat × Nat × Sn) (e : Ending) (w' : World) : Prop :=
  ∃ v, e = .returned (.tuple #[v, .int .i64 (r.2.1 : Nat)]) ∧ SnAt r.2.2 a w' ∧ FrV S r.1 v w.heap.size w' ∧ Chg a.all w w'
set_option maxHeartbeats 4000000 in
set_option maxRecDepth 100000 in
theorem Tick_full (w : World) (S : Sn) (a : Sa) (h : SnAt S a w) (hf : S.full = true) :
    Calls Try.prog 15 #[.pointer (some ⟨a.g, 0, none⟩)] w (TickPost S a w ([], 15, S)) := by
  have hbw := (Below.refl w.heap.size w).alloc (Nat.le_refl _) (.cells #[.pointer (some ⟨a.g, 0, none⟩)] 26)
  have h1 := h.below hbw (Nat.le_refl _)
  obtain ⟨c0, -⟩ := h1.cells
  have hfull := Full_calls _ a.gm S.B h1.mp
  rw [show decide (baseB S.B = S.B.length) = true from hf] at hfull
  have HF := Lib.hid hfull; clear hfull
  have HBW := Lib.hid hbw; clear hbw
  have H1 := Lib.hid h1; clear h1 h
  go_enter Try.func15, Try.ntmps15
  go_wp2_with fail
  refine HF.out.mono ?_
  rintro e w1 ⟨rfl, hb⟩
  go_wp2
  go_ret2
  exact ⟨_, rfl, H1.out.below hb (Nat.le_refl _), FrV.nil _ _ _, Chg.of_below (bn HBW.out hb)⟩
set_option maxHeartbeats 4000000 in
set_option maxRecDepth 100000 in
theorem Tick_lost (w : World) (S : Sn) (a : Sa) (h : SnAt S a w) (hf : S.full = false) (hl : S.lost = true) :
    Calls Try.prog 15 #[.pointer (some ⟨a.g, 0, none⟩)] w (TickPost S a w ([], 16, S)) := by
  have hbw := (Below.refl w.heap.size w).alloc (Nat.le_refl _) (.cells #[.pointer (some ⟨a.g, 0, none⟩)] 26)
  have hbx : (w.alloc (.cells #[.pointer (some ⟨a.g, 0, none⟩)] 26)).cell? ⟨w.heap.size, 0, none⟩ = some (.pointer (some ⟨a.g, 0, none⟩)) := by rw [World.cell?_alloc_new]; rfl
  have hsz : (w.alloc (.cells #[.pointer (some ⟨a.g, 0, none⟩)] 26)).heap.size = w.heap.size + 1 := by simp
  have h1 := h.below hbw (Nat.le_refl _)
  obtain ⟨c0, -⟩ := h1.cells
  have hfull := Full_calls _ a.gm S.B h1.mp
  rw [show decide (baseB S.B = S.B.length) = false from hf] at hfull
  have HF := Lib.hid hfull; clear hfull
  have HBW := Lib.hid hbw; clear hbw
  have H1 := Lib.hid h1; clear h1 h
  have HSZ := Lib.hid hsz; clear hsz
  go_enter Try.func15, Try.ntmps15
  go_wp2_with fail
  refine HF.out.mono ?_
  rintro e w1 ⟨rfl, hb⟩
  have hbx2 := (hb.cell (p := ⟨w.heap.size, 0, none⟩) (by rw [HSZ.out]; exact Nat.lt_succ_self _)).trans hbx
  have h2 := H1.out.below hb (Nat.le_refl _)
  obtain ⟨-, -, -, -, -, -, -, c7⟩ := h2.cells
  rw [hl] at c7
  have H2 := Lib.hid h2; clear h2
  go_wp2
  go_ret2
  exact ⟨_, rfl, H2.out, FrV.nil _ _ _, Chg.of_below (bn HBW.out hb)⟩
set_option maxHeartbeats 8000000 in
set_option maxRecDepth 100000 in
theorem Tick_open (w : World) (S : Sn) (a : Sa) (h : SnAt S a w) (hs : S.now < 900000) (hf : S.full = false) (hl : S.lost = false) :
    Calls Try.prog 15 #[.pointer (some ⟨a.g, 0, none⟩)] w (TickPost S a w S.tick) := by
  have hbw := (Below.refl w.heap.size w).alloc (Nat.le_refl _) (.cells #[.pointer (some ⟨a.g, 0, none⟩)] 26)
  have hbx : (w.alloc (.cells #[.pointer (some ⟨a.g, 0, none⟩)] 26)).cell? ⟨w.heap.size, 0, none⟩ = some (.pointer (some ⟨a.g, 0, none⟩)) := by rw [World.cell?_alloc_new]; rfl
  have hsz : (w.alloc (.cells #[.pointer (some ⟨a.g, 0, none⟩)] 26)).heap.size = w.heap.size + 1 := by simp
  have hall := h.lt
  have h1 := h.below hbw (Nat.le_refl _)
  obtain ⟨c0, -⟩ := h1.cells
  have hfull := Full_calls _ a.gm S.B h1.mp
  rw [show decide (baseB S.B = S.B.length) = false from hf] at hfull
  have HF := Lib.hid hfull; clear hfull
  have HBW := Lib.hid hbw; clear hbw
  have H1 := Lib.hid h1; clear h1 h
  have HSZ := Lib.hid hsz; clear hsz
  have HALL := Lib.hid hall; clear hall
  have hRt : S.step.due.any S.step.tried = true → S.tick = ([], 16, { S.step with lost := true }) := fun e => by
    unfold Sn.tick
    rw [if_neg (by rw [hf]; simp), if_neg (by rw [hl]; simp), if_pos e]
  have hRf : S.step.due.any S.step.tried = false → S.tick = (S.step.due, 0, S.step.sentL S.step.due) := fun e => by
    unfold Sn.tick
    rw [if_neg (by rw [hf]; simp), if_neg (by rw [hl]; simp), if_neg (by rw [e]; simp)]
  have HRt := Lib.hid hRt; clear hRt
  have HRf := Lib.hid hRf; clear hRf
  generalize S.tick = R at *
  go_enter Try.func15, Try.ntmps15
  go_wp2_with fail
  refine HF.out.mono ?_
  rintro e w1 ⟨rfl, hb⟩
  have hbx2 := (hb.cell (p := ⟨w.heap.size, 0, none⟩) (by rw [HSZ.out]; exact Nat.lt_succ_self _)).trans hbx
  have h2 := H1.out.below hb (Nat.le_refl _)
  obtain ⟨-, -, -, -, -, -, c6, c7⟩ := h2.cells
  rw [hl] at c7
  have f6 : w1.frozen? ⟨a.g, 6, none⟩ = false := by simp [World.frozen?, h2.row]
  have hc1 := Chg.of_below (K := a.all) (bn HBW.out hb)
  have hw1 := hb.size
  rw [HSZ.out] at hw1
  have h3 := h2.set_now
  rw [show ((S.now + 1 : Nat) : Int) = (S.now : Int) + 1 from by simp] at h3
  have hng : w.heap.size ≠ a.g := fun e => by have := HALL.out a.g (by simp [Sa.all]); omega
  have hb3 : (w1.setCell ⟨a.g, 6, none⟩ (.int .i64 ((S.now : Int) + 1))).cell? ⟨w.heap.size, 0, none⟩ = some (.pointer (some ⟨a.g, 0, none⟩)) := (World.cell?_of_block (Below.heap_setCell w1 ⟨a.g, 6, none⟩ _ w.heap.size hng)).trans hbx2
  have hc3 := hc1.trans (Chg.of_upd (upd_set a.g 6 w1 (.int .i64 ((S.now : Int) + 1))) (by simp [Sa.all]))
  have hw3 : w.heap.size + 1 ≤ (w1.setCell ⟨a.g, 6, none⟩ (.int .i64 ((S.now : Int) + 1))).heap.size := by simp [World.setCell]; exact hw1
  have H3 := Lib.hid h3; clear h3 h2
  have hnow : (S.now : Int) < 900000 := by omega
  clear hc1 hbx hb
  go_wp2_with fail
  generalize w1.setCell ⟨a.g, 6, none⟩ (.int .i64 ((S.now : Int) + 1)) = w3 at *
  have hst : S.step.full = false := hf
  have hsl : S.step.lost = false := hl
  have hss : S.step.now < 1000000 := by show S.now + 1 < 1000000; omega
  have hB : S.step.B = S.B := rfl
  have hfr : ∀ l, frL S.step l = frL S l := fun l => rfl
  have hFV : ∀ l v N w, FrV S.step l v N w → FrV S l v N w := fun l v N w h => h
  have HFV := Lib.hid hFV
  clear hFV hfr hB
  have hle := H3.out.mp.le
  have hnow1 : ((S.now : Int) + 1) = (S.step.now : Int) := by show _ = ((S.now + 1 : Nat) : Int); simp
  have HNOW := Lib.hid hnow1
  clear hnow1 c0 c6 c7 f6 hbx2 hs hnow hf hl
  generalize S.step = S1 at *
  refine (due_calls w3 S1 a H3.out hss hst).mono ?_
  rintro e w4 ⟨v, rfl, ⟨ad, cap, rfl, hlv⟩, hb4⟩
  have h4 := H3.out.below hb4 (Nat.le_refl _)
  have hb40 := (hb4.cell (p := ⟨w.heap.size, 0, none⟩) (show w.heap.size < w3.heap.size by omega)).trans hb3
  have hc4 := hc3.trans (Chg.of_below hb4)
  have hw4 := hb4.size
  have hdl := S1.due_lt
  have hdn := S1.due_nodup
  have hdlen : S1.due.length ≤ 256 := by
    unfold Sn.due
    have h1 := List.length_filter_le (fun i => !S1.hold i) (missB S1.B (baseB S1.B : Nat) ((baseB S1.B : Nat) + 8) S1.B.length)
    have h2 := missB_le S1.B (baseB S1.B : Nat) ((baseB S1.B : Nat) + 8) S1.B.length
    omega
  have hcon := ContainsFunc_int #[.pointer (some ⟨w.heap.size, 0, none⟩)] S1.tried ad cap S1.due w4 (by omega) (fun j x hx => by
    obtain ⟨gl, rfl, -, -, hc⟩ := hlv j x hx
    exact ⟨_, rfl, rfl, by show w4.cell? ⟨gl, 0 + j, none⟩ = _; rw [Nat.zero_add]; exact hc⟩) (fun j x hx W hW => by
    obtain ⟨q, rfl⟩ := hW
    exact tried_calls _ S1 a w.heap.size x (h4.drewN q) hb40 (hdl x (List.mem_of_getElem? hx)))
  have HC := Lib.hid hcon; clear hcon
  have H4 := Lib.hid h4; clear h4 H3 hst
  have HLV := Lib.hid hlv; clear hlv
  have HDL := Lib.hid hdl; clear hdl
  clear hc3 hb4 hb3
  go_wp2_with fail
  refine HC.out.mono ?_
  rintro e w5 ⟨rfl, q, rfl⟩
  have hany : ∀ b, S1.due.any S1.tried = b → S1.due.any S1.tried = b := fun _ h => h
  clear HC
  cases htr : S1.due.any S1.tried with
  | true =>
    have f7 : (w4.drewN q).frozen? ⟨a.g, 7, none⟩ = false := by simp [World.frozen?, H4.out.row]
    obtain ⟨-, -, -, -, -, -, -, c7⟩ := H4.out.cells
    have h5 := (H4.out.drewN q).set_lost
    have H5 := Lib.hid h5; clear h5
    have hc5 := (hc4.trans (Chg.of_upd (upd_drewN a.g q w4) (by simp [Sa.all]))).trans (Chg.of_upd (upd_set a.g 7 (w4.drewN q) (.bool true)) (by simp [Sa.all]))
    have HC5 := Lib.hid hc5; clear hc5 hc4 hany
    have hR := HRt.out htr
    have HR := Lib.hid hR; clear hR htr HRt HRf
    go_wp2
    go_ret2
    rw [HR.out]
    exact ⟨_, rfl, H5.out, FrV.nil _ _ _, HC5.out⟩
  | false =>
    have hnt : ∀ i ∈ S1.due, S1.T.getD i 0 < 8 := by
      intro i hi
      rw [List.any_eq_false] at htr
      have := htr i hi
      unfold Sn.tried at this
      simpa using this
    have hR := HRf.out htr
    have HR := Lib.hid hR; clear hR HRt HRf
    have HNT := Lib.hid hnt; clear hnt htr hany
    have HDN := Lib.hid hdn; clear hdn
    have h5 := H4.out.drewN q
    have hc5 := hc4.trans (Chg.of_upd (upd_drewN a.g q w4) (by simp [Sa.all]))
    have hlv5 : ∀ (j x : Nat), S1.due[j]? = some x → ∃ gl, ad = some ⟨gl, 0, none⟩ ∧ w3.heap.size ≤ gl ∧ gl < (w4.drewN q).heap.size ∧ (w4.drewN q).cell? ⟨gl, j, none⟩ = some (.int .i64 (x : Int)) := HLV.out
    have hb50 : (w4.drewN q).cell? ⟨w.heap.size, 0, none⟩ = some (.pointer (some ⟨a.g, 0, none⟩)) := hb40
    have hw5 : w3.heap.size ≤ (w4.drewN q).heap.size := hw4
    have HLV5 := Lib.hid hlv5
    have H5 := Lib.hid h5
    clear hlv5 h5 HLV H4 hc4 hb40 hw4
    generalize w4.drewN q = w5 at *
    obtain ⟨D, hD⟩ : ∃ D, S1.due = D := ⟨_, rfl⟩
    rw [hD] at HLV5 HDL HDN HNT HR hdlen ⊢
    have HD := Lib.hid hD; clear hD
    obtain ⟨i0, hi0, hz0, hz1, hz2⟩ := info_parts info_frame
    go_wp2
    go_loopw [2, 38] (fun s2 s38 wr => ∃ (j : Nat) (vv : Value), vv = s2 ∧ j ≤ D.length ∧ s38 = .int .i64 j ∧ Hid (SnAt (S1.sentL (D.take j)) a wr) ∧ Hid (wr.ownsRow w5.heap.size 31 6 vv j (frL S1 (D.take j))) ∧ Hid (Chg a.all w5 wr)) (fun _ s38 _ => D.length - (intOf s38).toNat)
    case atStart => exact ⟨0, _, rfl, by omega, rfl, H5, Lib.hid (World.ownsRow_nil _ _ _ _), Lib.hid (Chg.refl _ _)⟩
    case round =>
      obtain ⟨j, vv, hvv, hj, rfl, hr, how, hc⟩ := hrel
      subst hvv
      by_cases hlt : j < D.length
      · have hx := List.getElem?_eq_getElem hlt
        obtain ⟨gl, rfl, hgl1, hgl2, hcl⟩ := HLV5.out j D[j] hx
        have hmem := List.getElem_mem hlt
        have hi := HDL.out D[j] hmem
        have ht8 := HNT.out D[j] hmem
        have htk : D.take (j + 1) = D.take j ++ [D[j]] := by rw [List.take_succ_eq_append_getElem hlt]
        have hnin : D[j] ∉ D.take j := not_in_take' D j hlt HDN.out
        have hT := (Sn.sentL_T (D.take j) D[j] S1 hnin).1
        obtain ⟨e1, e2, e3, e4, e5, e6, -, -⟩ := Sn.sentL_same (D.take j) S1
        rw [← hT] at ht8
        have hsn := Sn.sentL_snoc S1 (D.take j) D[j]
        rw [← htk] at hsn
        have hfs := frL_snoc S1 (D.take j) D[j]
        rw [← htk] at hfs
        have HSN := Lib.hid hsn; have HFS := Lib.hid hfs
        clear HLV5 HDL HNT hmem hT hnin htk hx hsn hfs
        generalize D[j] = i at *
        have hglN : gl ∉ a.all := fun hk => by have := HALL.out gl hk; omega
        have hbxN : w.heap.size ∉ a.all := fun hk => by have := HALL.out _ hk; omega
        have d0 : wr.cell? ⟨gl, j, none⟩ = some (.int .i64 (i : Int)) := (World.cell?_of_block (hc.out.other gl hgl2 hglN)).trans hcl
        have bx : wr.cell? ⟨w.heap.size, 0, none⟩ = some (.pointer (some ⟨a.g, 0, none⟩)) := (World.cell?_of_block (hc.out.other w.heap.size (by omega) hbxN)).trans hb50
        have hown0 : ∀ k, vv.ownBlock = some k → w5.heap.size ≤ k ∧ k < wr.heap.size := fun k hk => ⟨(how.out.lt k hk).1, (how.out.lt k hk).2⟩
        have HOWN0 := Lib.hid hown0; clear hown0
        have E1 := Lib.hid e1; have E2 := Lib.hid e2; have E3 := Lib.hid e3; have E4 := Lib.hid e4; have E5 := Lib.hid e5
        clear e1 e2 e3 e4 e5 e6 hcl hglN hgl1 hgl2
        generalize S1.sentL (D.take j) = Sj at *
        have hij : i < Sj.B.length := by rw [E4.out]; exact hi
        obtain ⟨-, -, -, -, c4, -⟩ := hr.out.cells
        have t0 := hr.out.tcell i hij
        have ft : wr.frozen? ⟨a.gt, i, none⟩ = false := by simp [World.frozen?, hr.out.trow]
        have hse : ∀ w : World, SnAt (Sj.sent1 i) a w → SnAt (Sj.sent1 i) a w := fun _ h => h
        have hsent : Sj.sent1 i = { Sj with T := Sj.T.set i (Sj.T.getD i 0 + 1), A := Sj.A.set i Sj.now } := rfl
        have HSENT := Lib.hid hsent; clear hsent hse
        generalize Sj.T.getD i 0 = tt at *
        have h6 := hr.out.set_try i (tt + 1)
        rw [show ((tt + 1 : Nat) : Int) = (tt : Int) + 1 from by simp] at h6
        have hc6 := hc.out.trans (Chg.of_upd (upd_set a.gt i wr (.int .i64 ((tt : Int) + 1))) (by simp [Sa.all]))
        have how6 : (wr.setCell ⟨a.gt, i, none⟩ (.int .i64 ((tt : Int) + 1))).ownsRow w5.heap.size 31 6 vv j (frL S1 (D.take j)) := ownsRow_carry how.out fun k hk => (upd_set a.gt i wr _).other k fun e => by
          have h1 := (HOWN0.out k hk).1
          have h2 := HALL.out a.gt (by simp [Sa.all])
          omega
        have bx6 : (wr.setCell ⟨a.gt, i, none⟩ (.int .i64 ((tt : Int) + 1))).cell? ⟨w.heap.size, 0, none⟩ = some (.pointer (some ⟨a.g, 0, none⟩)) := (World.cell?_of_block ((upd_set a.gt i wr _).other w.heap.size fun e => by
          have h2 := HALL.out a.gt (by simp [Sa.all]); omega)).trans bx
        have hsz6 : wr.heap.size = (wr.setCell ⟨a.gt, i, none⟩ (.int .i64 ((tt : Int) + 1))).heap.size := by simp [World.setCell]
        have H6 := Lib.hid h6; have HC6 := Lib.hid hc6; have HOW6 := Lib.hid how6; have HSZ6 := Lib.hid hsz6
        clear h6 hc6 how6 hsz6 hr how hc
        have hii : (i : Int) < (Sj.B.length : Int) := by omega
        have hi0' : (0 : Int) ≤ (i : Int) := by omega
        have hjj : (j : Int) < (D.length : Int) := by omega
        have ht8' : (tt : Int) < 8 := by omega
        go_wp2_with fail
        clear t0 c4 ft d0 bx
        generalize hw6 : wr.setCell ⟨a.gt, i, none⟩ (.int .i64 ((tt : Int) + 1)) = w6 at *
        clear hw6
        obtain ⟨-, -, -, -, -, c5, c6, -⟩ := H6.out.cells
        have a0 := H6.out.acell i hij
        have fa : w6.frozen? ⟨a.ga, i, none⟩ = false := by simp [World.frozen?, H6.out.arow]
        simp only at c5 c6 a0
        have h7 : SnAt { Sj with T := Sj.T.set i (tt + 1), A := Sj.A.set i Sj.now } a (w6.setCell ⟨a.ga, i, none⟩ (.int .i64 (Sj.now : Int))).drew := (H6.out.set_at i).drew
        rw [← HSENT.out] at h7
        have hc7 : Chg a.all w5 (w6.setCell ⟨a.ga, i, none⟩ (.int .i64 (Sj.now : Int))).drew := (HC6.out.trans (Chg.of_upd (upd_set a.ga i w6 (.int .i64 (Sj.now : Int))) (by simp [Sa.all]))).trans (Chg.of_upd (upd_drewN a.ga 1 _) (by simp [Sa.all]))
        have how7 : (w6.setCell ⟨a.ga, i, none⟩ (.int .i64 (Sj.now : Int))).drew.ownsRow w5.heap.size 31 6 vv j (frL S1 (D.take j)) := ownsRow_carry HOW6.out fun k hk => (upd_set a.ga i w6 _).other k fun e => by
          have h1 := (HOWN0.out k hk).1
          have h2 := HALL.out a.ga (by simp [Sa.all])
          omega
        have bx7 : (w6.setCell ⟨a.ga, i, none⟩ (.int .i64 (Sj.now : Int))).drew.cell? ⟨w.heap.size, 0, none⟩ = some (.pointer (some ⟨a.g, 0, none⟩)) := (World.cell?_of_block ((upd_set a.ga i w6 _).other w.heap.size fun e => by
          have h2 := HALL.out a.ga (by simp [Sa.all]); omega)).trans bx6
        have hsz7 : w6.heap.size = (w6.setCell ⟨a.ga, i, none⟩ (.int .i64 (Sj.now : Int))).drew.heap.size := by simp [World.setCell]
        have H7 := Lib.hid h7; have HC7 := Lib.hid hc7; have HOW7 := Lib.hid how7; have BX7 := Lib.hid bx7; have HSZ7 := Lib.hid hsz7
        clear h7 hc7 how7 bx7 hsz7
        go_region
        clear c5 c6 a0 fa bx6
        generalize hw7 : (w6.setCell ⟨a.ga, i, none⟩ (.int .i64 (Sj.now : Int))).drew = w7 at *
        clear hw7
        have bx7 := BX7.out
        obtain ⟨-, c1, c2, c3, -⟩ := H7.out.cells
        have hs1 : (Sj.sent1 i).ses = S1.ses := E1.out
        have hs2 : (Sj.sent1 i).ep = S1.ep := E2.out
        have hs3 : (Sj.sent1 i).B = S1.B := E4.out
        have hs4 : (Sj.sent1 i).C = S1.C := E3.out
        have cc := H7.out.ccell i (by rw [hs3]; exact hi)
        rw [hs1] at c1; rw [hs2] at c2; rw [hs3] at c3; rw [hs4] at cc
        clear hs1 hs2 hs3 hs4 hii hij E1 E2 E3 E4 E5 HSENT H6 HC6 HOW6
        have hii : (i : Int) < (S1.B.length : Int) := by omega
        have hwl : w5.heap.size ≤ w7.heap.size := HC7.out.size
        have hfc : frC S1 i = [.int .i64 1, .int .i64 S1.ses, .int .i64 S1.ep, .int .i64 (i : Int), .int .i64 (S1.B.length : Nat), .string (S1.C.getD i ⟨#[]⟩)] := rfl
        have HFC := Lib.hid hfc; clear hfc
        generalize S1.C.getD i ⟨#[]⟩ = ci at *
        go_wp2_with fail
        have a1 := fun o => cell_later_alloc bx7 o
        have a2 := fun o => cell_later_alloc c1 o
        have a3 := fun o => cell_later_alloc c2 o
        have a4 := fun o => cell_later_alloc c3 o
        have a5 := fun o => cell_later_alloc cc o
        refine Lib.wp_region_make_tail 23 24 (w7.drew.alloc (.cells #[.int .i64 1, .int .i64 S1.ses, .int .i64 S1.ep, .int .i64 (i : Int), .int .i64 (S1.B.length : Nat), .string ci] 31)) (by kernel_rfl) (by omega) (by kernel_rfl) ?_
        simp only [List.take_succ_cons, List.take_zero, List.drop_succ_cons, List.drop_zero]
        iterate 23 (refine Lib.wpYL_step (by decide) (fun K hK => ?_); go_simp; refine hK _ ?_; clear hK K)
        refine Lib.wpYL_make (v := .slice (some ⟨w7.heap.size, 0, none⟩) 1 1) rfl rfl (by go_simp) ?_
        refine Lib.wpYL_nil ?_
        refine wpList_append_lies _ rfl _ _ _ (by rfl) w5.heap.size 31 i0 _ 6 56 Try.underlying23 hi0 hz0 hz1 hz2 rfl (by omega) vv j (frL S1 (D.take j)) (by rfl) (World.ownsRow.alloc (w := w7.drew) HOW7.out _) ⟨w7.heap.size, 0, none⟩ 1 1 (frC S1 i) (by rfl) (by rfl) (by
            rw [HFC.out]
            exact World.news_of_block (cs := #[.int .i64 1, .int .i64 S1.ses, .int .i64 S1.ep, .int .i64 (i : Int), .int .i64 (S1.B.length : Nat), .string ci]) (t := 31) (fr := (0, 0)) (heap_alloc_new w7.drew _)) (by rw [HFC.out]; simp [Value.oneCell']) (by omega) (by unfold maxLen; omega) (by omega) (by simp; omega) (w7.heap.size + 1) (by simp) ?_
        intro g cap2 w8 hown8 hgrow8 hat8 hg8
        clear a1 a2 a3 a4 a5 bx7 c1 c2 c3 cc
        have hs8 : w7.heap.size + 1 ≤ w8.heap.size := by have := hgrow8.size; simpa using this
        have hkeep8 : ∀ k, k < w7.heap.size → some k ≠ vv.ownBlock → w8.heap[k]? = w7.heap[k]? := fun k hk hne => by
          rw [hgrow8.block k (by simp; omega) hne, Below.heap_alloc w7.drew _ k hk]; rfl
        have hww : w.heap.size ≤ w5.heap.size := by omega
        have h8 : SnAt (Sj.sent1 i) a w8 := H7.out.keep fun k hk => hkeep8 k (H7.out.lt k hk) fun e => by
          have h1 := (HOWN0.out k e.symm).1
          have h2 := HALL.out k hk
          omega
        have hc8 : Chg a.all w5 w8 := ⟨hgrow8.os.trans HC7.out.os, hgrow8.tape.trans HC7.out.tape, hgrow8.output.trans HC7.out.output, by omega, fun k hk hk2 => (hkeep8 k (by omega) fun e => by
          have h1 := (HOWN0.out k e.symm).1
          omega).trans (HC7.out.other k hk hk2)⟩
        rw [← HSN.out] at h8
        rw [← HFS.out] at hown8
        have H8 := Lib.hid h8; have HC8 := Lib.hid hc8; have HOW8 := Lib.hid hown8
        clear h8 hc8 hown8 hgrow8 hat8 hg8 hkeep8 HOW7 H7 HC7
        go_wp2
        exact ⟨⟨j + 1, _, rfl, by omega, rfl, H8, HOW8, HC8⟩, by simp only [intOf]; omega⟩
      · obtain rfl : j = D.length := by omega
        rw [List.take_length] at hr how
        go_wp2
        go_ret2
        rw [HR.out]
        exact ⟨_, rfl, hr.out, HFV.out _ _ _ _ ((FrV.of_row how.out).mono (by omega)), hc5.trans hc.out⟩
theorem Tick_calls (w : World) (S : Sn) (a : Sa) (h : SnAt S a w) (hs : S.now < 900000) :
    Calls Try.prog 15 #[.pointer (some ⟨a.g, 0, none⟩)] w (TickPost S a w S.tick) := by
  cases hf : S.full with
  | true =>
    have : S.tick = ([], 15, S) := by unfold Sn.tick; rw [if_pos hf]
    rw [this]; exact Tick_full w S a h hf
  | false =>
    cases hl : S.lost with
    | true =>
      have : S.tick = ([], 16, S) := by unfold Sn.tick; rw [if_neg (by rw [hf]; simp), if_pos hl]
      rw [this]; exact Tick_lost w S a h hf hl
    | false => exact Tick_open w S a h hs hf hl
end Go.Proofs.Ytcmgmdgeimmbeaa
