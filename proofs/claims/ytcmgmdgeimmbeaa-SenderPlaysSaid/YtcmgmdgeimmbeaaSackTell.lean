/- The walks of package sack: Copy, Missing. -/
import Derived.Test.YtcmgmdgeimmbeaaSackRead
namespace Go.Proofs.Ytcmgmdgeimmbeaa
open Go.RowKit
set_option linter.unusedVariables false
set_option linter.unusedSimpArgs false
set_option maxRecDepth 100000 in
set_option maxHeartbeats 2000000 in
theorem Copy_calls (w : World) (g : Nat) (B : List Bool) (h : Mp B g w) :
   Calls Try.prog 33 #[.pointer (some ⟨g, 0, none⟩)] w fun e w' => e = .returned (.pointer (some ⟨w.heap.size, 0, none⟩)) ∧ Mp B w.heap.size w' ∧ Below w.heap.size w w' ∧ w'.heap.size = w.heap.size + 1 := by
  have hR := h.row
  have hb := (Below.refl w.heap.size w).alloc (Nat.le_refl _) (.cells (mapRow B) 72)
  have hm : Mp B w.heap.size (w.alloc (.cells (mapRow B) 72)) := ⟨heap_alloc_new _ _, h.one, h.le⟩
  have hs : (w.alloc (.cells (mapRow B) 72)).heap.size = w.heap.size + 1 := by simp
  have HM := Lib.hid hm; clear hm
  have HB := Lib.hid hb; clear hb
  have HS := Lib.hid hs; clear hs
  have HR := Lib.hid hR; clear hR h
  have hz := heap_alloc_new w (.cells #[.int .i64 0, .int .u64 0, .int .u64 0, .int .u64 0, .int .u64 0] 72)
  have HZ := Lib.hid hz; clear hz
  have hone : ∀ u ∈ (mapRow B).toList, u.oneCell' = true := by simp [mapRow, Value.oneCell']
  have H1 := Lib.hid hone; clear hone
  have hsz : (mapRow B).size = 5 := rfl
  have H5 := Lib.hid hsz; clear hsz
  generalize mapRow B = row at *
  go_enter Try.func33, Try.ntmps33
  go_wp2_with (with_reducible refine wpList_mark (o := ⟨some 8, _, _, _, _, _⟩) ?_)
  refine Marked.intro ?_
  refine wpList_run rfl (exec_load_row _ 72 (.tmp 7) (by rfl) w g _ _ _ (by rfl) _ Try.underlying72 rfl (by rw [H5.out]; kernel_rfl) HR.out) ?_
  go_wp2_with (with_reducible refine wpList_mark (o := ⟨none, .store _ _ _, _, _, _, _⟩) ?_)
  refine Marked.intro ?_
  refine wpList_do rfl (exec_store_row _ 72 (.tmp 3) (.tmp 8) (by rfl) _ w.heap.size 72 row #[.int .i64 0, .int .u64 0, .int .u64 0, .int .u64 0, .int .u64 0] (by rfl) (by rfl) (by rw [H5.out]; kernel_rfl) (by rw [H5.out]; rfl) H1.out HZ.out) ?_
  rw [setRow_alloc]
  go_wp2
  go_ret
  exact ⟨rfl, HM.out, HB.out, HS.out⟩
set_option maxRecDepth 100000 in
set_option maxHeartbeats 2000000 in
theorem Copy_nil (w : World) :
   Calls Try.prog 33 #[.pointer none] w fun e w' => e = .returned (.pointer none) ∧ w = w' := by
  go_enter Try.func33, Try.ntmps33
  go_wp2
  go_ret
  exact ⟨rfl, rfl⟩
theorem info_i64 : (Try.prog.info? 3).map (fun i => (i.zero, i.size, i.bytes)) = some (some (.int .i64 0), 1, 8) := by kernel_rfl
def intsV (l : List Nat) : List Value := l.map fun k : Nat => Value.int .i64 (k : Int)
theorem missB_le (B : List Bool) (a b : Int) (j : Nat) : (missB B a b j).length ≤ j := by
  have := List.length_filter_le (missF B a b) (List.range j)
  rw [List.length_range] at this; exact this
set_option maxRecDepth 100000 in
set_option maxHeartbeats 4000000 in
theorem Missing_calls (w : World) (g : Nat) (B : List Bool) (a b : Int) (h : Mp B g w) (ha : a < 9223372036854775808) :
   Calls Try.prog 45 #[.pointer (some ⟨g, 0, none⟩), .int .i64 a, .int .i64 b] w fun e w' => ∃ v, e = .returned v ∧ w'.ownsRow w.heap.size 3 1 v (missB B a b B.length).length (intsV (missB B a b B.length)) ∧ Below w.heap.size w w' := by
  have hle := h.le
  have hlen := fun w h => Len_calls w g B h
  have hhas := fun w i h => Has_calls w g B i h
  have hst := missB_step B a b
  have hml := missB_le B a b
  have hsk := missB_skip B a b
  obtain ⟨N, hN⟩ : ∃ N : Nat, B.length = N := ⟨_, rfl⟩
  rw [hN] at hlen hle ⊢
  -- the first and the last one asked for
  obtain ⟨A, hA⟩ : ∃ A : Nat, max a 0 = (A : Int) := ⟨(max a 0).toNat, by omega⟩
  have hmono : ∀ w', Below w.heap.size w w' → Mp B g w' := fun w' hb => h.below hb
  have hm0 : A ≤ N → missB B a b A = [] := by
    intro hAN
    have := missB_skip B a b A 0 (by omega) (fun i _ hi => by
      unfold missF
      rw [decide_eq_false (show ¬ a ≤ (i : Int) by omega)]; rfl)
    rw [this]; rfl
  have hfin : ∀ j, j ≤ N → A ≤ j → ((j : Int) < min b N → False) → missB B a b N = missB B a b j := by
    intro j hj hAj hn
    refine missB_skip B a b N j hj (fun i h1 h2 => ?_)
    unfold missF
    have : ¬ (i : Int) < b := fun h => hn (by omega)
    rw [decide_eq_false this]; simp
  have hbig : N < A → missB B a b N = [] := by
    intro hAN
    have := missB_skip B a b N 0 (by omega) (fun i _ hi => by
      unfold missF
      rw [decide_eq_false (show ¬ a ≤ (i : Int) by omega)]; rfl)
    rw [this]; rfl
  have hF : ∀ j : Nat, A ≤ j → (j : Int) < min b N → missF B a b j = !hasB B j := by
    intro j h1 h2
    unfold missF
    rw [decide_eq_true (show a ≤ (j : Int) by omega), decide_eq_true (show (j : Int) < b by omega), hasB_nat]; rfl
  have HL := Lib.hid hlen; clear hlen
  have HH := Lib.hid hhas; clear hhas
  have HSt := Lib.hid hst; clear hst
  have HMl := Lib.hid hml; clear hml
  have HM := Lib.hid hmono; clear hmono
  have HM0 := Lib.hid hm0; clear hm0
  have HFin := Lib.hid hfin; clear hfin
  have HBig := Lib.hid hbig; clear hbig
  have HF := Lib.hid hF; clear hF
  have HN := Lib.hid hN; clear hN hsk h
  by_cases h0 : a < 0
  · have hA0 : (0 : Int) = A := by omega
    have HA0 := Lib.hid hA0; clear hA0 hA
    go_enter Try.func45, Try.ntmps45
    go_wp2
    by_cases hAN : A ≤ N
    · go_loopw [6, 7] (fun v i wr => ∃ (j : Nat), A ≤ j ∧ j ≤ N ∧ i = .int .i64 j ∧ Below w.heap.size w wr ∧ wr.ownsRow w.heap.size 3 1 v (missB B a b j).length (intsV (missB B a b j))) (fun _ i _ => N - (intOf i).toNat)
      case atStart => exact ⟨A, by omega, hAN, by rw [HA0.out], Below.refl _ _, by rw [HM0.out hAN]; exact World.ownsRow_nil _ _ _ _⟩
      case round =>
        obtain ⟨j, hAj, hj, rfl, hb, hown⟩ := hrel
        by_cases hjb : (j : Int) < b
        · by_cases hjN : j < N
          · have hh := HF.out j hAj (by omega)
            have hs := HSt.out j
            have hl := HMl.out j
            rw [hh] at hs
            have Hs := Lib.hid hs; clear hs hh
            have hmin : (j : Int) < min b N := by omega
            rcases Int.lt_or_le (N : Int) b with hNb | hNb
            all_goals
              go_wp2_with fail
              with_reducible refine (HL.out _ (HM.out _ hb)).mono ?_
              rintro e w1 ⟨rfl, rfl⟩
              go_wp2_with fail
              with_reducible refine (HH.out _ _ (HM.out _ hb)).mono ?_
              rintro e w1 ⟨rfl, rfl⟩
              cases hx : hasB B (j : Int) with
              | true =>
                have hs := Hs.out
                rw [hx] at hs
                rw [if_neg (by decide)] at hs
                clear hx
                have Hs2 := Lib.hid hs; clear hs
                go_wp2
                exact ⟨⟨j + 1, by omega, by omega, rfl, hb, by rw [Hs2.out]; exact hown⟩, by simp only [intOf]; omega⟩
              | false =>
                have hs := Hs.out
                rw [hx] at hs
                rw [if_pos (by decide)] at hs
                clear hx
                have Hs2 := Lib.hid hs; clear hs
                have hsz := hb.size
                go_wp2_with (with_reducible refine wpList_mark (o := ⟨some 25, _, _, _, _, _⟩) ?_)
                refine Marked.intro ?_
                refine wpList_push rfl _ _ 57 rfl w.heap.size 3 (.int .i64 0) 1 8 Try.underlying57 info_i64 rfl (by omega) wr u6 (missB B a b j).length _ (by rfl) hown [.int .i64 (j : Int)] (by rfl) rfl (by simp [Value.oneCell']) (by omega) (by unfold maxLen; omega) hsz ?_
                intro o3 w3 hown3 hb3 hsz3
                go_wp2
                exact ⟨⟨j + 1, by omega, by omega, rfl, hb.trans hb3, by rw [Hs2.out, List.length_append]; unfold intsV at *; rw [List.map_append]; exact hown3⟩, by simp only [intOf]; omega⟩
          · have hmin : ¬ (j : Int) < min b N := by omega
            have hf := HFin.out j hj hAj (fun h => hmin h)
            have Hf := Lib.hid hf; clear hf
            rcases Int.lt_or_le (N : Int) b with hNb | hNb
            all_goals
              go_wp2_with fail
              with_reducible refine (HL.out _ (HM.out _ hb)).mono ?_
              rintro e w1 ⟨rfl, rfl⟩
              go_wp2
              go_ret
              exact ⟨_, rfl, by rw [Hf.out]; exact hown, hb⟩
        · have hmin : ¬ (j : Int) < min b N := by omega
          have hf := HFin.out j hj hAj (fun h => hmin h)
          have Hf := Lib.hid hf; clear hf
          have hNb : b ≤ (N : Int) := by omega
          all_goals
            go_wp2_with fail
            with_reducible refine (HL.out _ (HM.out _ hb)).mono ?_
            rintro e w1 ⟨rfl, rfl⟩
            go_wp2
            go_ret
            exact ⟨_, rfl, by rw [Hf.out]; exact hown, hb⟩
    · have hf := HBig.out (by omega)
      have Hf := Lib.hid hf; clear hf
      go_loopw [6, 7] (fun v i wr => v = .slice none 0 0 ∧ i = .int .i64 A ∧ wr = w) (fun _ i _ => 0)
      case atStart => exact ⟨rfl, by rw [HA0.out], rfl⟩
      case round =>
        obtain ⟨rfl, rfl, rfl⟩ := hrel
        have hmin : ¬ (A : Int) < min b N := by omega
        rcases Int.lt_or_le (N : Int) b with hNb | hNb
        all_goals
          go_wp2_with fail
          with_reducible refine (HL.out _ (HM.out _ (Below.refl _ _))).mono ?_
          rintro e w1 ⟨rfl, rfl⟩
          go_wp2
          go_ret
          exact ⟨_, rfl, by rw [Hf.out]; exact World.ownsRow_nil _ _ _ _, Below.refl _ _⟩
  · have hA0 : a = (A : Int) := by omega
    have HA0 := Lib.hid hA0; clear hA0 hA
    go_enter Try.func45, Try.ntmps45
    go_wp2
    by_cases hAN : A ≤ N
    · go_loopw [6, 7] (fun v i wr => ∃ (j : Nat), A ≤ j ∧ j ≤ N ∧ i = .int .i64 j ∧ Below w.heap.size w wr ∧ wr.ownsRow w.heap.size 3 1 v (missB B a b j).length (intsV (missB B a b j))) (fun _ i _ => N - (intOf i).toNat)
      case atStart => exact ⟨A, by omega, hAN, by rw [HA0.out], Below.refl _ _, by rw [HM0.out hAN]; exact World.ownsRow_nil _ _ _ _⟩
      case round =>
        obtain ⟨j, hAj, hj, rfl, hb, hown⟩ := hrel
        by_cases hjb : (j : Int) < b
        · by_cases hjN : j < N
          · have hh := HF.out j hAj (by omega)
            have hs := HSt.out j
            have hl := HMl.out j
            rw [hh] at hs
            have Hs := Lib.hid hs; clear hs hh
            have hmin : (j : Int) < min b N := by omega
            rcases Int.lt_or_le (N : Int) b with hNb | hNb
            all_goals
              go_wp2_with fail
              with_reducible refine (HL.out _ (HM.out _ hb)).mono ?_
              rintro e w1 ⟨rfl, rfl⟩
              go_wp2_with fail
              with_reducible refine (HH.out _ _ (HM.out _ hb)).mono ?_
              rintro e w1 ⟨rfl, rfl⟩
              cases hx : hasB B (j : Int) with
              | true =>
                have hs := Hs.out
                rw [hx] at hs
                rw [if_neg (by decide)] at hs
                clear hx
                have Hs2 := Lib.hid hs; clear hs
                go_wp2
                exact ⟨⟨j + 1, by omega, by omega, rfl, hb, by rw [Hs2.out]; exact hown⟩, by simp only [intOf]; omega⟩
              | false =>
                have hs := Hs.out
                rw [hx] at hs
                rw [if_pos (by decide)] at hs
                clear hx
                have Hs2 := Lib.hid hs; clear hs
                have hsz := hb.size
                go_wp2_with (with_reducible refine wpList_mark (o := ⟨some 25, _, _, _, _, _⟩) ?_)
                refine Marked.intro ?_
                refine wpList_push rfl _ _ 57 rfl w.heap.size 3 (.int .i64 0) 1 8 Try.underlying57 info_i64 rfl (by omega) wr u6 (missB B a b j).length _ (by rfl) hown [.int .i64 (j : Int)] (by rfl) rfl (by simp [Value.oneCell']) (by omega) (by unfold maxLen; omega) hsz ?_
                intro o3 w3 hown3 hb3 hsz3
                go_wp2
                exact ⟨⟨j + 1, by omega, by omega, rfl, hb.trans hb3, by rw [Hs2.out, List.length_append]; unfold intsV at *; rw [List.map_append]; exact hown3⟩, by simp only [intOf]; omega⟩
          · have hmin : ¬ (j : Int) < min b N := by omega
            have hf := HFin.out j hj hAj (fun h => hmin h)
            have Hf := Lib.hid hf; clear hf
            rcases Int.lt_or_le (N : Int) b with hNb | hNb
            all_goals
              go_wp2_with fail
              with_reducible refine (HL.out _ (HM.out _ hb)).mono ?_
              rintro e w1 ⟨rfl, rfl⟩
              go_wp2
              go_ret
              exact ⟨_, rfl, by rw [Hf.out]; exact hown, hb⟩
        · have hmin : ¬ (j : Int) < min b N := by omega
          have hf := HFin.out j hj hAj (fun h => hmin h)
          have Hf := Lib.hid hf; clear hf
          have hNb : b ≤ (N : Int) := by omega
          all_goals
            go_wp2_with fail
            with_reducible refine (HL.out _ (HM.out _ hb)).mono ?_
            rintro e w1 ⟨rfl, rfl⟩
            go_wp2
            go_ret
            exact ⟨_, rfl, by rw [Hf.out]; exact hown, hb⟩
    · have hf := HBig.out (by omega)
      have Hf := Lib.hid hf; clear hf
      go_loopw [6, 7] (fun v i wr => v = .slice none 0 0 ∧ i = .int .i64 A ∧ wr = w) (fun _ i _ => 0)
      case atStart => exact ⟨rfl, by rw [HA0.out], rfl⟩
      case round =>
        obtain ⟨rfl, rfl, rfl⟩ := hrel
        have hmin : ¬ (A : Int) < min b N := by omega
        rcases Int.lt_or_le (N : Int) b with hNb | hNb
        all_goals
          go_wp2_with fail
          with_reducible refine (HL.out _ (HM.out _ (Below.refl _ _))).mono ?_
          rintro e w1 ⟨rfl, rfl⟩
          go_wp2
          go_ret
          exact ⟨_, rfl, by rw [Hf.out]; exact World.ownsRow_nil _ _ _ _, Below.refl _ _⟩
end Go.Proofs.Ytcmgmdgeimmbeaa
