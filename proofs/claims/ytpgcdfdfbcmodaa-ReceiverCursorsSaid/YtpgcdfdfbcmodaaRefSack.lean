/- The walks of the reference's Base, Count, Merge, Behind, Missing. -/
import Derived.Test.YtpgcdfdfbcmodaaSackRef0
import Derived.Deep.AppendLies
namespace Go.Proofs.Ytpgcdfdfbcmodaa
open Go.RowKit
set_option linter.unusedVariables false
set_option linter.unusedSimpArgs false
theorem info_bool : (Try.prog.info? 4).map (fun i => (i.zero, i.size, i.bytes)) = some (some (.bool false), 1, 1) := by kernel_rfl
/-- A row of bools lies there. -/
def BRow (B : List Bool) (g cap : Nat) (w : World) : Prop := ∃ cur, w.heap[g]? = some (.cells cur 4 (0, 0)) ∧ cur.size = cap ∧ B.length ≤ cap ∧ ∀ (j : Nat) b, B[j]? = some b → cur[j]? = some (.bool b)
theorem BRow.lt {B : List Bool} {g cap : Nat} {w : World} (h : BRow B g cap w) : g < w.heap.size := by
  obtain ⟨cur, h1, -⟩ := h
  exact (Array.getElem?_eq_some_iff.1 h1).1
theorem BRow.keep {B : List Bool} {g cap : Nat} {w w' : World} (h : BRow B g cap w) (hk : w'.heap[g]? = w.heap[g]?) : BRow B g cap w' := by
  obtain ⟨cur, h1, h2⟩ := h
  exact ⟨cur, hk.trans h1, h2⟩
theorem BRow.below {B : List Bool} {g cap : Nat} {w w' : World} (h : BRow B g cap w) (hb : Below w.heap.size w w') : BRow B g cap w' := h.keep (hb.block g h.lt)
theorem BRow.cell {B : List Bool} {g cap : Nat} {w : World} (h : BRow B g cap w) (i : Nat) (hi : i < B.length) : w.cell? ⟨g, i, none⟩ = some (.bool (B.getD i false)) := by
  obtain ⟨cur, h1, h2, h3, h4⟩ := h
  rw [cell_of_row _ _ _ _ _ _ h1]
  apply h4
  rw [List.getD_eq_getElem?_getD, List.getElem?_eq_getElem hi]; rfl
theorem BRow.frozen {B : List Bool} {g cap : Nat} {w : World} (h : BRow B g cap w) (i : Nat) : w.frozen? ⟨g, i, none⟩ = false := by
  obtain ⟨cur, h1, -⟩ := h
  simp [World.frozen?, h1]
theorem BRow.set {B : List Bool} {g cap : Nat} {w : World} (h : BRow B g cap w) (i : Nat) (b : Bool) (hi : i < B.length) : BRow (B.set i b) g cap (w.setCell ⟨g, i, none⟩ (.bool b)) := by
  obtain ⟨cur, h1, h2, h3, h4⟩ := h
  refine ⟨cur.setIfInBounds i (.bool b), row_setCell _ _ _ _ _ _ _ h1, by simp [h2], by simp [h3], fun j x hj => ?_⟩
  rw [List.getElem?_set] at hj
  by_cases e : i = j
  · subst e
    rw [if_pos rfl, if_pos hi] at hj
    obtain rfl : b = x := by simpa using hj
    rw [Array.getElem?_setIfInBounds_self_of_lt (by omega)]
  · rw [if_neg e] at hj
    rw [Array.getElem?_setIfInBounds_ne e]
    exact h4 j x hj
theorem set_same (B : List Bool) (j : Nat) (h : B.getD j false = true) : B.set j true = B := by
  refine list_ext_getD _ _ (by simp) fun i hi => ?_
  rw [getD_set _ _ _ _ (getD_lt h)]
  split
  · next e => rw [e, h]
  · rfl
set_option maxHeartbeats 4000000 in
theorem RBase_calls (w : World) (B : List Bool) (g cap : Nat) (h : BRow B g cap w) (hl : B.length ≤ 1000) :
    Calls Try.prog 25 #[.slice (some ⟨g, 0, none⟩) B.length cap] w fun e w' => e = .returned (.int .i64 (baseB B : Nat)) ∧ w = w' := by
  have hcell := h.cell
  have hun := baseB_unique B
  have hbl := baseB_below B
  have HC := Lib.hid hcell; have HU := Lib.hid hun
  clear hcell hun h hbl
  obtain ⟨N, hN⟩ : ∃ N, B.length = N := ⟨_, rfl⟩
  rw [hN] at hl HC ⊢
  have HN := Lib.hid hN; clear hN
  go_enter Try.func25, Try.ntmps25
  go_wp2
  go_loop [3] (fun i => ∃ j : Nat, j ≤ N ∧ i = .int .i64 j ∧ Hid (∀ k, k < j → B.getD k false = true)) (fun i => N - (intOf i).toNat)
  case atStart => exact ⟨0, by omega, rfl, Lib.hid fun k hk => absurd hk (Nat.not_lt_zero _)⟩
  case round =>
    obtain ⟨j, hj, rfl, hk⟩ := hrel
    by_cases hlt : j < N
    · have hc := HC.out j hlt
      cases hB : B.getD j false with
      | false =>
        rw [hB] at hc
        have hb := HU.out j hk.out hB
        have HB := Lib.hid hb
        clear hb hB
        go_wp2
        go_ret
        exact ⟨by rw [HB.out]; rfl, rfl⟩
      | true =>
        rw [hB] at hc
        have HB := Lib.hid hB; clear hB
        go_wp2
        exact ⟨⟨j + 1, by omega, by go_num, Lib.hid fun k hk2 => by
          by_cases e : k = j
          · rw [e]; exact HB.out
          · exact hk.out k (by omega)⟩, by simp only [intOf]; omega⟩
    · obtain rfl : j = N := by omega
      have hb := HU.out j hk.out (getD_ge (by rw [HN.out]; exact Nat.le_refl _))
      have HB := Lib.hid hb; clear hb
      go_wp2
      go_ret
      exact ⟨by rw [HB.out]; rfl, rfl⟩
theorem count_take_succ (B : List Bool) (j : Nat) (h : j < B.length) : (B.take (j + 1)).count true = (B.take j).count true + (B.getD j false).toNat := by
  rw [List.take_succ_eq_append_getElem h, List.count_append]
  have : B.getD j false = B[j] := by simp [List.getD_eq_getElem?_getD, h]
  rw [this]
  cases B[j] <;> simp
set_option maxHeartbeats 4000000 in
theorem RCount_calls (w : World) (B : List Bool) (g cap : Nat) (h : BRow B g cap w) (hl : B.length ≤ 1000) :
    Calls Try.prog 29 #[.slice (some ⟨g, 0, none⟩) B.length cap] w fun e w' => e = .returned (.int .i64 (B.count true : Nat)) ∧ w = w' := by
  have hcell := h.cell
  have hct := count_take_succ B
  have HC := Lib.hid hcell; have HT := Lib.hid hct
  clear hcell hct h
  obtain ⟨N, hN⟩ : ∃ N, B.length = N := ⟨_, rfl⟩
  rw [hN] at hl HC HT ⊢
  have hfin : (B.take N).count true = B.count true := by rw [← hN, List.take_length]
  have HF := Lib.hid hfin; clear hfin hN
  have hle : ∀ j, (B.take j).count true ≤ j := fun j => by
    have h1 := List.count_le_length (a := true) (l := B.take j)
    have h2 := List.length_take_le j B
    omega
  have HL := Lib.hid hle; clear hle
  go_enter Try.func29, Try.ntmps29
  go_wp2
  go_loop [3, 4] (fun n i => ∃ j : Nat, j ≤ N ∧ i = .int .i64 j ∧ n = .int .i64 ((B.take j).count true : Nat)) (fun _ i => N - (intOf i).toNat)
  case atStart => exact ⟨0, by omega, rfl, by simp⟩
  case round =>
    obtain ⟨j, hj, rfl, rfl⟩ := hrel
    have hlj := HL.out j
    by_cases hlt : j < N
    · have hc := HC.out j hlt
      have ht := HT.out j hlt
      have HTj := Lib.hid ht; clear ht
      generalize (B.take j).count true = c at *
      cases hB : B.getD j false with
      | false =>
        rw [hB] at hc HTj
        clear hB
        go_wp2
        exact ⟨⟨j + 1, by omega, by go_num, by rw [HTj.out]; rfl⟩, by simp only [intOf]; omega⟩
      | true =>
        rw [hB] at hc HTj
        clear hB
        go_wp2
        exact ⟨⟨j + 1, by omega, by go_num, by rw [HTj.out]; go_num⟩, by simp only [intOf]; omega⟩
    · obtain rfl : j = N := by omega
      go_wp2
      go_ret
      exact ⟨by rw [← HF.out]; rfl, rfl⟩
end Go.Proofs.Ytpgcdfdfbcmodaa
