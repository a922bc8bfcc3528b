/- The reference's sender as it lies in memory; the walks of its Err, Few, SameFrames. -/
import Derived.Test.YtcmgmdgeimmbeaaSenAwake
import Derived.Test.YtcmgmdgeimmbeaaSenMay
import Derived.Test.YtcmgmdgeimmbeaaRefSack
import Derived.Test.YtcmgmdgeimmbeaaQuietMade
namespace Go.Proofs.Ytcmgmdgeimmbeaa
open Go.RowKit Go.Sort
set_option linter.unusedVariables false
set_option linter.unusedSimpArgs false
structure Rs where
  g : Nat
  gi : Nat
  cap : Nat
  gt : Nat
  ga : Nat
  ad : Option Addr
  capc : Nat
def rfRow (S : Sn) (r : Rs) : Array Value := #[.int .i64 S.ses, .int .i64 S.ep, .slice r.ad S.B.length r.capc, .slice (some ⟨r.gi, 0, none⟩) S.B.length r.cap, .slice (some ⟨r.gt, 0, none⟩) S.B.length S.B.length, .slice (some ⟨r.ga, 0, none⟩) S.B.length S.B.length, .int .i64 (S.now : Nat), .bool S.lost]
def Rs.all (r : Rs) : List Nat := [r.g, r.gi, r.gt, r.ga]
structure RfAt (S : Sn) (r : Rs) (w : World) : Prop where
  row : w.heap[r.g]? = some (.cells (rfRow S r) 59 (0, 0))
  irow : BRow S.B r.gi r.cap w
  trow : w.heap[r.gt]? = some (.cells (intsV S.T).toArray 3 (0, 0))
  arow : w.heap[r.ga]? = some (.cells (intsV S.A).toArray 3 (0, 0))
  strs : Strs S.C r.ad w
  wf : S.wf
  one : 1 ≤ S.B.length
  le : S.B.length ≤ 256
  ne : r.all.Nodup
  cn : ∀ k ∈ r.all, ∀ a, r.ad = some a → a.block ≠ k
theorem RfAt.lt {S : Sn} {r : Rs} {w : World} (h : RfAt S r w) : ∀ k ∈ r.all, k < w.heap.size := by
  have lt : ∀ {k : Nat} {o}, w.heap[k]? = some o → k < w.heap.size := fun {k o} e => (Array.getElem?_eq_some_iff.1 e).1
  intro k hk
  simp only [Rs.all, List.mem_cons, List.not_mem_nil, or_false] at hk
  rcases hk with rfl | rfl | rfl | rfl
  · exact lt h.row
  · exact h.irow.lt
  · exact lt h.trow
  · exact lt h.arow
theorem Strs.block_lt {C : List ByteArray} {ad : Option Addr} {w : World} (h : Strs C ad w) (h1 : 1 ≤ C.length) : ∀ a, ad = some a → a.block < w.heap.size := fun a ha => by
  obtain ⟨b, hb, -, hc⟩ := h 0 _ (List.getElem?_eq_getElem (by omega))
  obtain rfl := Option.some.inj (ha.symm.trans hb)
  exact World.block_lt_of_cell? w ⟨a.block, a.off + 0, none⟩ hc
theorem Strs.keep {C : List ByteArray} {ad : Option Addr} {w w' : World} (h : Strs C ad w) (hk : ∀ a, ad = some a → w'.heap[a.block]? = w.heap[a.block]?) : Strs C ad w' := fun j c hj => by
  obtain ⟨a, ha, hs, hc⟩ := h j c hj
  exact ⟨a, ha, hs, (World.cell?_of_block (a := ⟨a.block, a.off + j, none⟩) (hk a ha)).trans hc⟩
theorem RfAt.keep {S : Sn} {r : Rs} {w w' : World} (h : RfAt S r w) (hk : ∀ k ∈ r.all, w'.heap[k]? = w.heap[k]?) (hc : ∀ a, r.ad = some a → w'.heap[a.block]? = w.heap[a.block]?) : RfAt S r w' :=
  ⟨(hk _ (by simp [Rs.all])).trans h.row, h.irow.keep (hk _ (by simp [Rs.all])), (hk _ (by simp [Rs.all])).trans h.trow, (hk _ (by simp [Rs.all])).trans h.arow, h.strs.keep hc, h.wf, h.one, h.le, h.ne, h.cn⟩
theorem RfAt.clt {S : Sn} {r : Rs} {w : World} (h : RfAt S r w) : ∀ a, r.ad = some a → a.block < w.heap.size := h.strs.block_lt (by rw [h.wf.lc]; exact h.one)
theorem RfAt.below {S : Sn} {r : Rs} {w w' : World} {N : Nat} (h : RfAt S r w) (hb : Below N w w') (hN : w.heap.size ≤ N) : RfAt S r w' :=
  h.keep (fun k hk => hb.block k (Nat.lt_of_lt_of_le (h.lt k hk) hN)) (fun a ha => hb.block _ (Nat.lt_of_lt_of_le (h.clt a ha) hN))
theorem RfAt.chg {S : Sn} {r : Rs} {w w' : World} {K : List Nat} (h : RfAt S r w) (hc : Chg K w w') (h1 : ∀ k ∈ r.all, k ∉ K) (h2 : ∀ a, r.ad = some a → a.block ∉ K) : RfAt S r w' :=
  h.keep (fun k hk => hc.other k (h.lt k hk) (h1 k hk)) (fun a ha => hc.other _ (h.clt a ha) (h2 a ha))
theorem RfAt.cells {S : Sn} {r : Rs} {w : World} (h : RfAt S r w) :
    w.cell? ⟨r.g, 0, none⟩ = some (.int .i64 S.ses) ∧ w.cell? ⟨r.g, 1, none⟩ = some (.int .i64 S.ep) ∧ w.cell? ⟨r.g, 2, none⟩ = some (.slice r.ad S.B.length r.capc) ∧ w.cell? ⟨r.g, 3, none⟩ = some (.slice (some ⟨r.gi, 0, none⟩) S.B.length r.cap) ∧
    w.cell? ⟨r.g, 4, none⟩ = some (.slice (some ⟨r.gt, 0, none⟩) S.B.length S.B.length) ∧ w.cell? ⟨r.g, 5, none⟩ = some (.slice (some ⟨r.ga, 0, none⟩) S.B.length S.B.length) ∧ w.cell? ⟨r.g, 6, none⟩ = some (.int .i64 (S.now : Nat)) ∧ w.cell? ⟨r.g, 7, none⟩ = some (.bool S.lost) :=
  ⟨by rw [cell_of_row _ _ 0 _ _ _ h.row]; rfl, by rw [cell_of_row _ _ 1 _ _ _ h.row]; rfl, by rw [cell_of_row _ _ 2 _ _ _ h.row]; rfl, by rw [cell_of_row _ _ 3 _ _ _ h.row]; rfl,
   by rw [cell_of_row _ _ 4 _ _ _ h.row]; rfl, by rw [cell_of_row _ _ 5 _ _ _ h.row]; rfl, by rw [cell_of_row _ _ 6 _ _ _ h.row]; rfl, by rw [cell_of_row _ _ 7 _ _ _ h.row]; rfl⟩
theorem RfAt.tcell {S : Sn} {r : Rs} {w : World} (h : RfAt S r w) (i : Nat) (hi : i < S.B.length) : w.cell? ⟨r.gt, i, none⟩ = some (.int .i64 (S.T.getD i 0 : Nat)) := intsV_cell h.trow i (by rw [h.wf.lt]; exact hi)
theorem RfAt.acell {S : Sn} {r : Rs} {w : World} (h : RfAt S r w) (i : Nat) (hi : i < S.B.length) : w.cell? ⟨r.ga, i, none⟩ = some (.int .i64 (S.A.getD i 0 : Nat)) := intsV_cell h.arow i (by rw [h.wf.la]; exact hi)
theorem RfAt.icell {S : Sn} {r : Rs} {w : World} (h : RfAt S r w) (i : Nat) (hi : i < S.B.length) : w.cell? ⟨r.gi, i, none⟩ = some (.bool (S.B.getD i false)) := h.irow.cell i hi
set_option maxRecDepth 100000 in
set_option maxHeartbeats 4000000 in
theorem RErr_calls (w : World) (S : Sn) (r : Rs) (h : RfAt S r w) : Calls Try.prog 25 #[.pointer (some ⟨r.g, 0, none⟩)] w fun e w' => e = .returned (.int .i64 (S.err : Nat)) ∧ Below w.heap.size w w' := by
  obtain ⟨-, -, c2, c3, -, -, -, c7⟩ := h.cells
  unfold Sn.err
  have hle := h.le
  have hbl := baseB_le S.B
  have hb := fun w' (hb : Below w.heap.size w w') => RBase_calls w' S.B r.gi r.cap ((h.below hb (Nat.le_refl _)).irow) (by omega)
  have HB := Lib.hid hb; clear hb h
  have hfu : S.full = decide (baseB S.B = S.B.length) := rfl
  cases hl : S.lost with
  | true =>
    rw [hl] at c7
    rw [if_pos rfl]
    clear hfu
    go_enter Try.func25, Try.ntmps25
    go_wp2
    go_ret
    exact ⟨rfl, Below.refl _ _⟩
  | false =>
    rw [hl] at c7
    rw [if_neg (by decide)]
    have hfi : (((baseB S.B : Nat) : Int) == (S.B.length : Int)) = S.full := by
      rw [hfu, Bool.eq_iff_iff, beq_iff_eq, decide_eq_true_iff]; omega
    clear hfu hbl
    generalize baseB S.B = bb at *
    generalize S.B.length = n at *
    generalize S.full = F at *
    go_enter Try.func25, Try.ntmps25
    go_wp2_with fail
    have k2 := cell_regrown c2
    have k3 := cell_regrown c3
    have cB : ∀ d os, Calls Try.prog 26 #[.slice (some ⟨r.gi, 0, none⟩) n r.cap] (Sort.grow (redrawn w d) os) fun e w'' => e = .returned (.int .i64 (bb : Nat)) ∧ Lib.Grows (Sort.grow (redrawn w d) os) w'' := fun d os => (HB.out _ (below_regrown w d os)).mono fun e w' ⟨h1, h2⟩ => ⟨h1, by subst h2; exact Lib.Grows.refl _⟩
    refine Lib.wp_region_made 11 (fun _ => none) (by kernel_rfl) (by kernel_rfl) Lib.stabP_none ?_
    simp only [List.take_succ_cons, List.take_zero, List.drop_succ_cons, List.drop_zero]
    repeat (first | (refine Lib.wpML_step (by rfl) (fun K hK => ?_); go_simp; first | (refine hK _ ?_; clear hK K) | (apply Exists.intro; refine ⟨fun _ => ?_, hK _ ?_⟩; (first | (refine ⟨?_, by with_reducible exact cB _ _⟩; exact Lib.noInit (by kernel_rfl))); clear hK K)))
    refine Lib.wpML_nil ?_
    intro w2 hw2 _
    have hb2 := Lib.Behind.below hw2
    have HB2 := Lib.hid hb2
    clear hw2 hb2 k2 k3 cB c2 c3 c7
    cases F with
    | true =>
      go_wp2
      go_ret
      exact ⟨rfl, HB2.out⟩
    | false =>
      go_wp2
      go_ret
      exact ⟨rfl, HB2.out⟩
/-- May chunks be played? -/
def fewB (C : List ByteArray) : Bool := !(C.any fun c => decide (1100 < c.size)) && decide (C.length ≤ 300)
set_option maxRecDepth 100000 in
set_option maxHeartbeats 8000000 in
theorem Few_calls (w : World) (C : List ByteArray) (ad : Option Addr) (cap : Nat) (h : Strs C ad w) (hn : C.length ≤ 9223372036854775807) :
    Calls Try.prog 20 #[.slice ad C.length cap] w fun e w' => e = .returned (.bool (fewB C)) ∧ w = w' := by
  have hany : ∀ (j : Nat) c, C[j]? = some c → 1100 < c.size → (C.any fun c => decide (1100 < c.size)) = true := fun j c hj hc => by
    rw [List.any_eq_true]; exact ⟨c, List.mem_of_getElem? hj, by simpa using hc⟩
  have hnone : (∀ (j : Nat) c, C[j]? = some c → ¬ 1100 < c.size) → (C.any fun c => decide (1100 < c.size)) = false := fun hh => by
    rw [List.any_eq_false]
    intro c hc
    obtain ⟨j, hj⟩ := List.getElem?_of_mem hc
    simpa using hh j c hj
  unfold fewB
  obtain ⟨n, hN⟩ : ∃ n, C.length = n := ⟨_, rfl⟩
  rw [hN] at hn ⊢
  generalize hA : (C.any fun c => decide (1100 < c.size)) = anyB at *
  have HN := Lib.hid hN; have HANY := Lib.hid hany; have HNONE := Lib.hid hnone; have HS := Lib.hid h
  clear hN hany hnone h hA
  go_enter Try.func20, Try.ntmps20
  go_wp2
  go_loop [3] (fun i => ∃ j : Nat, j ≤ n ∧ i = .int .i64 j ∧ Hid (∀ (k : Nat) c, k < j → C[k]? = some c → ¬ 1100 < c.size)) (fun i => n - (intOf i).toNat)
  case atStart => exact ⟨0, by omega, rfl, Lib.hid fun k c hk => absurd hk (Nat.not_lt_zero _)⟩
  case round =>
    obtain ⟨j, hj, rfl, hk⟩ := hrel
    by_cases hlt : j < n
    · have hx := List.getElem?_eq_getElem (by rw [HN.out]; exact hlt : j < C.length)
      obtain ⟨⟨ab, ao, asp⟩, rfl, hsp, hcell⟩ := HS.out j _ hx
      simp only at hsp hcell
      subst hsp
      have HX := Lib.hid hx; clear hx
      generalize C[j]'(by rw [HN.out]; exact hlt) = c at *
      by_cases hc : 1100 < c.size
      · have hci : 1100 < (c.size : Int) := by omega
        have HAT := Lib.hid (HANY.out j c HX.out hc)
        clear hc
        go_wp2
        go_ret
        exact ⟨by rw [HAT.out]; rfl, rfl⟩
      · have hci : ¬ 1100 < (c.size : Int) := by omega
        have hj1 : (j : Int) < (n : Int) := by omega
        go_wp2
        exact ⟨⟨j + 1, by omega, by go_num, Lib.hid fun k d hk2 hd => by
          by_cases e : k = j
          · subst e
            rw [HX.out] at hd
            obtain rfl : c = d := by simpa using hd
            exact hc
          · exact hk.out k d (by omega) hd⟩, by simp only [intOf]; omega⟩
    · have HAT := Lib.hid (HNONE.out fun k c hk2 => hk.out k c (by have := (List.getElem?_eq_some_iff.1 hk2).1; rw [HN.out] at this; omega) hk2)
      obtain rfl : j = n := by omega
      have hle : decide ((j : Int) ≤ 300) = decide (j ≤ 300) := by congr 1; rw [eq_iff_iff]; omega
      have HLE := Lib.hid hle
      clear hk HS HANY HNONE hle
      go_wp2
      go_ret
      exact ⟨by rw [HAT.out, ← HLE.out]; rfl, rfl⟩
end Go.Proofs.Ytcmgmdgeimmbeaa
