/- The walk of package sack: Behind. -/
import Derived.Test.YtpgcdfdfbcmodaaSackTell
namespace Go.Proofs.Ytpgcdfdfbcmodaa
open Go.RowKit
set_option linter.unusedVariables false
set_option linter.unusedSimpArgs false
def u8row (L : List Nat) : Array Value := (L.map fun n : Nat => Value.int .u8 (n : Int)).toArray
theorem u8row_get (L : List Nat) (j : Nat) (x : Nat) (h : L[j]? = some x) : (u8row L)[j]? = some (.int .u8 (x : Int)) := by
  unfold u8row; rw [List.getElem?_toArray, List.getElem?_map, h]; rfl
theorem u8row_set (L : List Nat) (j : Nat) (x : Nat) : (u8row L).setIfInBounds j (.int .u8 (x : Int)) = u8row (L.set j x) := by
  unfold u8row
  apply Array.ext_getElem?
  intro k
  rw [Array.getElem?_setIfInBounds, List.getElem?_toArray, List.getElem?_toArray, List.getElem?_map, List.getElem?_map, List.getElem?_set]
  by_cases e : j = k
  · subst e
    by_cases h : j < L.length
    · simp [h]
    · simp [h]
  · simp [e]
theorem hasB_behind (B : List Bool) (j : Nat) : hasB B ((baseB B : Nat) + 1 + (j : Int)) = behindF B j := by
  have e : ((baseB B : Nat) + 1 + (j : Int)) = ((baseB B + 1 + j : Nat) : Int) := by omega
  rw [e, hasB_nat]; rfl
theorem u8_or_pow (x r : Nat) (hx : x < 256) (hr : r < 8) : bits .or .u8 (x : Int) (2 ^ r % 256) = ((x ||| 2 ^ r : Nat) : Int) := by
  have h2 : 2 ^ r < 256 := Nat.lt_of_lt_of_le (Nat.pow_lt_pow_right (by omega) hr) (by decide)
  have h3 : ((2 : Int) ^ r % 256) = ((2 ^ r : Nat) : Int) := by
    rw [show (2 : Int) ^ r = ((2 ^ r : Nat) : Int) by simp]
    generalize 2 ^ r = P at h2 ⊢
    omega
  rw [h3]
  generalize 2 ^ r = P at h2 ⊢
  rw [u8_or _ _ (by omega) (by omega) (by omega) (by omega)]
  rfl
theorem info_u8 : (Try.prog.info? 5).map (fun i => (i.zero, i.size, i.bytes)) = some (some (.int .u8 0), 1, 1) := by kernel_rfl
theorem upTo_le (k : Int) : upTo k ≤ 256 := by unfold upTo; omega
set_option maxRecDepth 100000 in
set_option maxHeartbeats 4000000 in
theorem Behind_calls (w : World) (g : Nat) (B : List Bool) (k : Int) (h : Mp B g w) :
   Calls Try.prog 47 #[.pointer (some ⟨g, 0, none⟩), .int .i64 k] w fun e w' => e = .returned (.string (tellB B k)) ∧ Below w.heap.size w w' := by
  have hbl := baseB_le B
  have hle := h.le
  have hgl := h.lt
  have hbase := fun w h => Base_calls w g B h
  have hhas := fun w (j : Nat) h => Has_calls w g B ((baseB B : Nat) + 1 + (j : Int)) h
  have hmono : ∀ w', Below w.heap.size w w' → Mp B g w' := fun w' hb => h.below hb
  have hbe := hasB_behind B
  obtain ⟨b, hb0⟩ : ∃ b, baseB B = b := ⟨_, rfl⟩
  rw [hb0] at hbase hhas hbl hbe
  have hK := upTo_le k
  have htell : tellB B k = ⟨((bytesV (behindF B) (upTo k) ((upTo k + 7) / 8)).map UInt8.ofNat).toArray⟩ := rfl
  rw [htell]
  obtain ⟨K, hKe⟩ : ∃ K, upTo k = K := ⟨_, rfl⟩
  rw [hKe] at hK ⊢
  obtain ⟨M, hM⟩ : ∃ M, (K + 7) / 8 = M := ⟨_, rfl⟩
  rw [hM]
  generalize behindF B = F at *
  have hz := bytesV_zero F M
  have hlen := bytesV_length F
  have hget := bytesV_get F
  have hskip := fun i => bytesV_skip F i M
  have hsetp := fun i => bytesV_set F i M
  have hlt := byteV_lt F
  have HB := Lib.hid hbase; clear hbase
  have HH := Lib.hid hhas; clear hhas
  have HMo := Lib.hid hmono; clear hmono
  have HBe := Lib.hid hbe; clear hbe
  have HZ := Lib.hid hz; clear hz
  have HLen := Lib.hid hlen; clear hlen
  have HG := Lib.hid hget; clear hget
  have HSk := Lib.hid hskip; clear hskip
  have HSt := Lib.hid hsetp; clear hsetp
  have HLt := Lib.hid hlt; clear hlt
  clear htell hb0 h
  have hM8 : ((K : Int) + 7) / 8 = (M : Int) := by omega
  have hM33 : M ≤ 33 := by omega
  have HM := Lib.hid hM; clear hM
  obtain ⟨K0, hK0⟩ : ∃ K0 : Nat, max k 0 = (K0 : Int) := ⟨(max k 0).toNat, by omega⟩
  have hK1 : min (K0 : Int) 256 = (K : Int) := by unfold upTo at hKe; omega
  go_enter Try.func47, Try.ntmps47
  go_wp2_with (with_reducible refine wpList_mark (o := ⟨some 11, _, _, _, _, _⟩) ?_)
  refine Marked.intro ?_
  refine wpList_run (v := .int .i64 (K0 : Int)) (w' := w) rfl (by
    rcases Int.lt_or_le k 0 with h | h
    · have e : (0 : Int) = K0 := by omega
      have E := Lib.hid e; clear e
      go_simp
      rw [E.out]
    · have e : k = K0 := by omega
      have E := Lib.hid e; clear e
      have h' : ¬ k < 0 := by omega
      go_simp
      rw [E.out]) ?_
  go_wp2_with (with_reducible refine wpList_mark (o := ⟨some 12, _, _, _, _, _⟩) ?_)
  refine Marked.intro ?_
  refine wpList_run (v := .int .i64 (K : Int)) (w' := w) rfl (by
    rcases Int.lt_or_le 256 (K0 : Int) with h | h
    · have e : (256 : Int) = K := by omega
      have E := Lib.hid e; clear e
      go_simp
      rw [E.out]
    · have e : (K0 : Int) = K := by omega
      have E := Lib.hid e; clear e
      have h' : ¬ (256 : Int) < K0 := by omega
      go_simp
      rw [E.out]) ?_
  clear hK0 hK1 hKe
  go_wp2_with (with_reducible refine wpList_mark (o := ⟨some 16, _, _, _, _, _⟩) ?_)
  refine Marked.intro ?_
  rw [hM8]
  refine wpList_run rfl (exec_make _ 62 5 _ _ (by rfl) _ M .i64 .i64 (by rfl) (by rfl) Try.underlying62 (.int .u8 0) rfl 1 info_u8 (by omega) (by omega)) ?_
  have hA : (w.alloc (.cells (u8row (bytesV F 0 M)) 5)).heap[w.heap.size]? = some (.cells (u8row (bytesV F 0 M)) 5 (0, 0)) := heap_alloc_new _ _
  have hbA := (Below.refl w.heap.size w).alloc (Nat.le_refl _) (.cells (u8row (bytesV F 0 M)) 5)
  rw [show (List.replicate M (Value.int .u8 0)).toArray = u8row (bytesV F 0 M) by rw [HZ.out]; unfold u8row; rw [List.map_replicate]; rfl]
  generalize w.alloc (.cells (u8row (bytesV F 0 M)) 5) = w1 at *
  have HA := Lib.hid hA; clear hA
  generalize hGG : w.heap.size = G at *
  have HGG := Lib.hid hGG; clear hGG
  go_wp2_with fail
  with_reducible refine (HB.out _ (HMo.out _ hbA)).mono ?_
  rintro e w2 ⟨rfl, rfl⟩
  go_wp2
  go_loopw [21] (fun i wr => ∃ (j : Nat), j ≤ K ∧ i = .int .i64 j ∧ Below G w wr ∧ wr.heap[G]? = some (.cells (u8row (bytesV F j M)) 5 (0, 0))) (fun i _ => K - (intOf i).toNat)
  case atStart => exact ⟨0, by omega, rfl, hbA, HA.out⟩
  case round =>
    obtain ⟨j, hj, rfl, hb, hrow⟩ := hrel
    have HRow := Lib.hid hrow; clear hrow
    by_cases hlt : j < K
    · have hbe := HBe.out j
      have Hbe := Lib.hid hbe; clear hbe
      go_wp2_with fail
      with_reducible refine (HH.out _ j (HMo.out _ hb)).mono ?_
      rintro e w3 ⟨rfl, rfl⟩
      rw [Hbe.out]
      cases hF : F j with
      | false =>
        have hs := HSk.out j hF
        have Hs := Lib.hid hs; clear hs hF
        go_wp2
        exact ⟨⟨j + 1, by omega, rfl, hb, by rw [Hs.out]; exact HRow.out⟩, by simp only [intOf]; omega⟩
      | true =>
        have hjM : j / 8 < M := by have := HM.out; omega
        have hs := HSt.out j hF hjM
        have hx := HLt.out j (j / 8)
        have hcell : wr.cell? ⟨G, j / 8, none⟩ = some (.int .u8 ((byteV F j (j / 8) : Nat) : Int)) := by
          rw [cell_of_row _ _ _ _ _ _ HRow.out]; exact u8row_get _ _ _ (HG.out j M (j / 8) hjM)
        have hfz : wr.frozen? ⟨G, j / 8, none⟩ = false := by simp [World.frozen?, HRow.out]
        have hset := row_setCell wr G (j / 8) _ _ _ (.int .u8 ((byteV F j (j / 8) ||| 2 ^ (j % 8) : Nat) : Int)) HRow.out
        rw [u8row_set, ← hs] at hset
        have Hset := Lib.hid hset; clear hset hs hF
        have hq : IntKind.i64.wrap ((j : Int) / 8) = ((j / 8 : Nat) : Int) := by
          rw [show (j : Int) / 8 = ((j / 8 : Nat) : Int) by simp]; exact IntWalk.i64_in _ (by omega)
        have hr : Int.tmod (j : Int) 8 = ((j % 8 : Nat) : Int) := rfl
        have hr8 : j % 8 < 8 := by omega
        have hor := u8_or_pow (byteV F j (j / 8)) (j % 8) hx hr8
        have Hor := Lib.hid hor; clear hor
        generalize byteV F j (j / 8) = x at *
        generalize j / 8 = q at *
        generalize j % 8 = r at *
        have hqM : (q : Int) < (M : Int) := by omega
        go_wp2_with fail
        go_still_tail 10, (by kernel_rfl)
        go_wp2
        rw [Hor.out]
        exact ⟨⟨j + 1, by omega, rfl, (hb.drew).setCell (Nat.le_refl _) _, Hset.out⟩, by simp only [intOf]; omega⟩
    · obtain rfl : j = K := by omega
      go_wp2_with (with_reducible refine wpList_mark (o := ⟨some 41, _, _, _, _, _⟩) ?_)
      refine Marked.intro ?_
      refine wpList_run rfl (exec_bytes_back _ 62 9 5 (.tmp 40) (by rfl) _ ⟨G, 0, none⟩ M M (by rfl) ((bytesV F j M).map UInt8.ofNat) (by rw [List.length_map, HLen.out]) Try.underlying62 Try.underlying5 Try.underlying9 ?_) ?_
      · intro i hi
        have hiM : i < M := by rw [List.length_map, HLen.out] at hi; exact hi
        have hg := HG.out j M i hiM
        rw [Addr.add_lit, Nat.zero_add, cell_of_row _ _ _ _ _ _ HRow.out, u8row_get _ _ _ hg]
        have : (bytesV F j M)[i]'(by rw [HLen.out]; exact hiM) = byteV F j i := by
          have h2 := List.getElem?_eq_getElem (l := bytesV F j M) (i := i) (by rw [HLen.out]; exact hiM)
          rw [hg] at h2
          exact (Option.some.inj h2).symm
        rw [List.getElem_map, this, UInt8.toNat_ofNat', Nat.mod_eq_of_lt (HLt.out j i)]
      · go_wp2
        go_ret
        exact ⟨rfl, by rw [HGG.out]; exact hb⟩
end Go.Proofs.Ytpgcdfdfbcmodaa
