/- The walks of the reference's Behind, Missing, Same. -/
import Derived.Test.YtpgcdfdfbcmodaaRefSack
import Derived.Test.YtpgcdfdfbcmodaaQuietMade
namespace Go.Proofs.Ytpgcdfdfbcmodaa
open Go.RowKit Go.Sort
set_option linter.unusedVariables false
set_option linter.unusedSimpArgs false
/-- Some numbers lie there. -/
def IntsAt (l : List Nat) (v : Value) (w : World) : Prop := ∃ ad cap, v = .slice ad l.length cap ∧ (l ≠ [] → ∃ g, ad = some ⟨g, 0, none⟩ ∧ g < w.heap.size ∧ ∀ j, j < l.length → w.cell? ⟨g, j, none⟩ = some (.int .i64 (l.getD j 0 : Nat)))
theorem IntsAt.grows {l : List Nat} {v : Value} {w w' : World} (h : IntsAt l v w) (hg : Below w.heap.size w w') : IntsAt l v w' := by
  obtain ⟨ad, cap, h1, h2⟩ := h
  refine ⟨ad, cap, h1, fun hl => ?_⟩
  obtain ⟨g, q1, q2, q3⟩ := h2 hl
  exact ⟨g, q1, Nat.lt_of_lt_of_le q2 hg.size, fun j hj => (hg.cell (p := ⟨g, j, none⟩) q2).trans (q3 j hj)⟩
theorem ints_of_own {l : List Nat} {v : Value} {w : World} {b : Nat} (h : w.ownsRow b 3 1 v l.length (intsV l)) : IntsAt l v w := by
  have hlen := h.1
  rcases h.2 with ⟨rfl, h0⟩ | ⟨g, cap, cur, rfl, h1, h2, h3, h4, h5, h6⟩
  · obtain rfl : l = [] := List.length_eq_zero_iff.1 h0
    exact ⟨none, 0, rfl, fun h => absurd rfl h⟩
  · refine ⟨_, cap, rfl, fun _ => ⟨g, rfl, (Array.getElem?_eq_some_iff.1 h2).1, fun j hj => ?_⟩⟩
    have := h.cells (g := g) rfl j (.int .i64 (l.getD j 0 : Nat)) (by
      unfold intsV
      rw [List.getElem?_map, List.getD_eq_getElem?_getD, List.getElem?_eq_getElem hj]; rfl)
    rw [Addr.add_lit, Nat.zero_add] at this
    exact this
set_option maxRecDepth 100000 in
set_option maxHeartbeats 4000000 in
theorem RBehind_calls (w : World) (B : List Bool) (g cap : Nat) (k : Int) (h : BRow B g cap w) (hl : B.length ≤ 256) :
   Calls Try.prog 48 #[.slice (some ⟨g, 0, none⟩) B.length cap, .int .i64 k] w fun e w' => e = .returned (.string (tellB B k)) ∧ Below w.heap.size w w' := by
  have hbl := baseB_le B
  have hgl := h.lt
  have hbase := fun w h => RBase_calls w B g cap h (by omega)
  have HMo := Lib.hid (fun w' (hb : Below w.heap.size w w') => h.below hb)
  have hcell := fun w' (h : BRow B g cap w') => h.cell
  have hbe : ∀ j, behindF B j = B.getD (baseB B + 1 + j) false := fun j => rfl
  have hge : ∀ j, B.length ≤ j → B.getD j false = false := fun j hj => getD_ge hj
  obtain ⟨b, hb0⟩ : ∃ b, baseB B = b := ⟨_, rfl⟩
  rw [hb0] at hbase hbl hbe
  have hK := upTo_le k
  have htell : tellB B k = ⟨((bytesV (behindF B) (upTo k) ((upTo k + 7) / 8)).map UInt8.ofNat).toArray⟩ := rfl
  rw [htell]
  obtain ⟨K, hKe⟩ : ∃ K, upTo k = K := ⟨_, rfl⟩
  rw [hKe] at hK ⊢
  obtain ⟨M, hM⟩ : ∃ M, (K + 7) / 8 = M := ⟨_, rfl⟩
  rw [hM]
  generalize behindF B = F at *
  have hz := bytesV_zero F M
  have hlen := bytesV_length F
  have hget := bytesV_get F
  have hskip := fun i => bytesV_skip F i M
  have hsetp := fun i => bytesV_set F i M
  have hlt := byteV_lt F
  have HFR := Lib.hid (byteV_fresh F)
  have HB := Lib.hid hbase; clear hbase
  have HC := Lib.hid hcell; clear hcell
  have HBe := Lib.hid hbe; clear hbe
  have HGe := Lib.hid hge; clear hge
  have HZ := Lib.hid hz; clear hz
  have HLen := Lib.hid hlen; clear hlen
  have HG := Lib.hid hget; clear hget
  have HSk := Lib.hid hskip; clear hskip
  have HSt := Lib.hid hsetp; clear hsetp
  have HLt := Lib.hid hlt; clear hlt
  clear htell hb0 h
  obtain ⟨N, hN⟩ : ∃ N : Nat, B.length = N := ⟨_, rfl⟩
  rw [hN] at hl hbl HB HC HGe ⊢
  clear hN
  have hM8 : ((K : Int) + 7) / 8 = (M : Int) := by omega
  have hM33 : M ≤ 33 := by omega
  have HM := Lib.hid hM; clear hM
  obtain ⟨K0, hK0⟩ : ∃ K0 : Nat, max k 0 = (K0 : Int) := ⟨(max k 0).toNat, by omega⟩
  have hK1 : min (K0 : Int) 256 = (K : Int) := by unfold upTo at hKe; omega
  go_enter Try.func48, Try.ntmps48
  go_wp2_with (with_reducible refine wpList_mark (o := ⟨some 9, _, _, _, _, _⟩) ?_)
  refine Marked.intro ?_
  refine wpList_run (v := .int .i64 (K0 : Int)) (w' := w) rfl (by
    rcases Int.lt_or_le k 0 with h | h
    · have e : (0 : Int) = K0 := by omega
      have E := Lib.hid e; clear e
      go_simp
      rw [E.out]
    · have e : k = K0 := by omega
      have E := Lib.hid e; clear e
      have h' : ¬ k < 0 := by omega
      go_simp
      rw [E.out]) ?_
  refine wpList_run (v := .int .i64 (K : Int)) (w' := w) rfl (by
    rcases Int.lt_or_le 256 (K0 : Int) with h | h
    · have e : (256 : Int) = K := by omega
      have E := Lib.hid e; clear e
      go_simp
      rw [E.out]
    · have e : (K0 : Int) = K := by omega
      have E := Lib.hid e; clear e
      have h' : ¬ (256 : Int) < K0 := by omega
      go_simp
      rw [E.out]) ?_
  clear hK0 hK1 hKe
  go_wp2_with (with_reducible refine wpList_mark (o := ⟨some 14, _, _, _, _, _⟩) ?_)
  refine Marked.intro ?_
  rw [hM8]
  refine wpList_run rfl (exec_make _ 62 5 _ _ (by rfl) _ M .i64 .i64 (by rfl) (by rfl) Try.underlying62 (.int .u8 0) rfl 1 info_u8 (by omega) (by omega)) ?_
  have hA : (w.alloc (.cells (u8row (bytesV F 0 M)) 5)).heap[w.heap.size]? = some (.cells (u8row (bytesV F 0 M)) 5 (0, 0)) := heap_alloc_new _ _
  have hbA := (Below.refl w.heap.size w).alloc (Nat.le_refl _) (.cells (u8row (bytesV F 0 M)) 5)
  rw [show (List.replicate M (Value.int .u8 0)).toArray = u8row (bytesV F 0 M) by rw [HZ.out]; unfold u8row; rw [List.map_replicate]; rfl]
  generalize w.alloc (.cells (u8row (bytesV F 0 M)) 5) = w1 at *
  have HA := Lib.hid hA; clear hA
  generalize hGG : w.heap.size = G at *
  have HGG := Lib.hid hGG; clear hGG
  have HBA := Lib.hid hbA; clear hbA
  go_wp2_with fail
  with_reducible refine (HB.out _ (HMo.out _ HBA.out)).mono ?_
  rintro e w2 ⟨rfl, rfl⟩
  go_wp2
  go_loopw [7] (fun i wr => ∃ (j : Nat), j ≤ K ∧ i = .int .i64 j ∧ Hid (Below G w wr) ∧ Hid (wr.heap[G]? = some (.cells (u8row (bytesV F j M)) 5 (0, 0)))) (fun i _ => K - (intOf i).toNat)
  case atStart => exact ⟨0, by omega, rfl, HBA, HA⟩
  case round =>
    clear HBA HA
    obtain ⟨j, hj, rfl, hb, HRow⟩ := hrel
    by_cases hlt : j < K
    · have hjK : (j : Int) < (K : Int) := by omega
      by_cases hin : b + 1 + j < N
      · have hinI : (b : Int) + 1 + (j : Int) < (N : Int) := by omega
        have hc := HC.out wr (HMo.out _ hb.out) (b + 1 + j) hin
        rw [← HBe.out j] at hc
        obtain ⟨y, hy⟩ : ∃ y, b + 1 + j = y := ⟨_, rfl⟩
        rw [hy] at hc hin
        have hyI : (b : Int) + 1 + (j : Int) = (y : Int) := by omega
        clear hinI
        have hyN : (y : Int) < (N : Int) := by omega
        clear hy
        cases hF : F j with
        | false =>
          rw [hF] at hc
          have Hs := Lib.hid (HSk.out j hF); clear hF
          go_wp2
          exact ⟨⟨j + 1, by omega, by go_num, hb, by rw [Hs.out]; exact HRow⟩, by simp only [intOf]; omega⟩
        | true =>
          rw [hF] at hc
          have hjM : j / 8 < M := by have := HM.out; omega
          have hs := HSt.out j hF hjM
          have hx := HLt.out j (j / 8)
          have hfr := HFR.out j
          have hcell : wr.cell? ⟨G, j / 8, none⟩ = some (.int .u8 ((byteV F j (j / 8) : Nat) : Int)) := by
            rw [cell_of_row _ _ _ _ _ _ HRow.out]; exact u8row_get _ _ _ (HG.out j M (j / 8) hjM)
          have hfz : wr.frozen? ⟨G, j / 8, none⟩ = false := by simp [World.frozen?, HRow.out]
          have hset := row_setCell wr G (j / 8) _ _ _ (.int .u8 ((byteV F j (j / 8) ||| 2 ^ (j % 8) : Nat) : Int)) HRow.out
          have hnew := HLt.out (j + 1) (j / 8)
          rw [u8row_set, ← hs] at hset
          have hnx : byteV F j (j / 8) + 2 ^ (j % 8) < 256 := by
            rw [← hfr]
            refine Nat.or_lt_two_pow (n := 8) hx ?_
            exact Nat.pow_lt_pow_right (by omega) (by omega)
          rw [hfr] at hset
          have Hset := Lib.hid hset; clear hset hs hF hfr hnew
          have hq : IntKind.i64.wrap ((j : Int) / 8) = ((j / 8 : Nat) : Int) := by
            rw [show (j : Int) / 8 = ((j / 8 : Nat) : Int) by simp]; exact IntWalk.i64_in _ (by omega)
          have hr : Int.tmod (j : Int) 8 = ((j % 8 : Nat) : Int) := rfl
          have hr8 : j % 8 < 8 := by omega
          generalize byteV F j (j / 8) = x at *
          generalize j / 8 = q at *
          generalize j % 8 = r at *
          have hqM : (q : Int) < (M : Int) := by omega
          obtain ⟨tt, htt⟩ : ∃ tt, x + 2 ^ r = tt := ⟨_, rfl⟩
          rw [htt] at hnx Hset
          have hsum : ((x : Int) + 2 ^ r) % 256 = (tt : Int) := by
            have : (2 : Int) ^ r = ((2 ^ r : Nat) : Int) := by simp
            rw [this]
            generalize 2 ^ r = P at *
            omega
          clear htt
          go_wp2_with fail
          go_still_tail 10, (by kernel_rfl)
          go_wp2
          exact ⟨⟨j + 1, by omega, by go_num, Lib.hid ((hb.out.drew).setCell (Nat.le_refl _) _), Lib.hid Hset.out⟩, by simp only [intOf]; omega⟩
      · have hinI : ¬ (b : Int) + 1 + (j : Int) < (N : Int) := by omega
        have hF : F j = false := by rw [HBe.out j]; exact HGe.out _ (by omega)
        have Hs := Lib.hid (HSk.out j hF); clear hF
        go_wp2
        exact ⟨⟨j + 1, by omega, by go_num, hb, by rw [Hs.out]; exact HRow⟩, by simp only [intOf]; omega⟩
    · obtain rfl : j = K := by omega
      go_wp2_with (with_reducible refine wpList_mark (o := ⟨some 49, _, _, _, _, _⟩) ?_)
      refine Marked.intro ?_
      refine wpList_run rfl (exec_bytes_back _ 62 9 5 (.tmp 48) (by rfl) _ ⟨G, 0, none⟩ M M (by rfl) ((bytesV F j M).map UInt8.ofNat) (by rw [List.length_map, HLen.out]) Try.underlying62 Try.underlying5 Try.underlying9 ?_) ?_
      · intro i hi
        have hiM : i < M := by rw [List.length_map, HLen.out] at hi; exact hi
        have hg := HG.out j M i hiM
        rw [Addr.add_lit, Nat.zero_add, cell_of_row _ _ _ _ _ _ HRow.out, u8row_get _ _ _ hg]
        have : (bytesV F j M)[i]'(by rw [HLen.out]; exact hiM) = byteV F j i := by
          have h2 := List.getElem?_eq_getElem (l := bytesV F j M) (i := i) (by rw [HLen.out]; exact hiM)
          rw [hg] at h2
          exact (Option.some.inj h2).symm
        rw [List.getElem_map, this, UInt8.toNat_ofNat', Nat.mod_eq_of_lt (HLt.out j i)]
      · go_wp2
        go_ret
        exact ⟨rfl, by rw [HGG.out]; exact hb.out⟩
end Go.Proofs.Ytpgcdfdfbcmodaa
