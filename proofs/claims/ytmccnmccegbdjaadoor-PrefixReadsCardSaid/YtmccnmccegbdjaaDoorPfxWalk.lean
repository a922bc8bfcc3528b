/- The walk of prefix: width, masked, Right. -/
import Derived.Test.YtmccnmccegbdjaaDoorPfxPlain
import Derived.Test.YtmccnmccegbdjaaDoorQuietMade
namespace Go.Proofs.YtmccnmccegbdjaaDoor
open Go.RowKit
set_option linter.unusedVariables false
set_option linter.unusedSimpArgs false
theorem width_calls (w : World) (b : Bool) : Calls Tryd.prog 31 #[.bool b] w fun e w' => e = .returned (.int .i64 (widthN b : Nat)) ∧ w = w' := by
  cases b <;> go_enter Tryd.func31, Tryd.ntmps31 <;> go_wp2 <;> go_ret <;> exact ⟨rfl, rfl⟩
def z16 : Array Value := #[.int .u8 0, .int .u8 0, .int .u8 0, .int .u8 0, .int .u8 0, .int .u8 0, .int .u8 0, .int .u8 0, .int .u8 0, .int .u8 0, .int .u8 0, .int .u8 0, .int .u8 0, .int .u8 0, .int .u8 0, .int .u8 0]
set_option maxRecDepth 100000 in
set_option maxHeartbeats 2000000 in
theorem masked_calls (w : World) (A : List Nat) (hA : A.length = 16) (hB : ∀ i, A.getD i 0 < 256) (n : Nat) (hn : n ≤ 128) :
    Calls Tryd.prog 36 #[av A, .int .i64 n] w fun e w' => e = .returned (av (maskL A n)) ∧ Below w.heap.size w w' := by
  unfold av
  have hbw := (Below.refl w.heap.size w).alloc (Nat.le_refl _) (.cells (bv A).toArray 28)
  have hb0 := hbw.alloc (by simp) (.cells z16 28)
  have hq3 := (Below.heap_alloc (w.alloc (.cells (bv A).toArray 28)) (.cells z16 28) w.heap.size (by simp)).trans (heap_alloc_new w (.cells (bv A).toArray 28))
  have hq2 := heap_alloc_new (w.alloc (.cells (bv A).toArray 28)) (.cells z16 28)
  rw [show (w.alloc (.cells (bv A).toArray 28)).heap.size = w.heap.size + 1 by simp] at hq2
  have HB0 := Lib.hid hb0; have HQ3 := Lib.hid hq3; have HQ2 := Lib.hid hq2; clear hb0 hq3 hq2 hbw
  go_enter Tryd.func36, Tryd.ntmps36
  go_wp2_with fail
  rw [show (#[.int .u8 0, .int .u8 0, .int .u8 0, .int .u8 0, .int .u8 0, .int .u8 0, .int .u8 0, .int .u8 0, .int .u8 0, .int .u8 0, .int .u8 0, .int .u8 0, .int .u8 0, .int .u8 0, .int .u8 0, .int .u8 0] : Array Value) = z16 from rfl]
  generalize (w.alloc (.cells (bv A).toArray 28)).alloc (.cells z16 28) = w1 at *
  go_loopw [7] (fun s wr => ∃ i : Nat, s = .int .i64 i ∧ i ≤ 16 ∧ Hid (wr.heap[w.heap.size]? = some (.cells (bv (maskTo A n i)).toArray 28)) ∧ Hid (wr.heap[w.heap.size + 1]? = some (.cells z16 28)) ∧ Hid (Below w.heap.size w wr)) (fun s _ => 16 - (intOf s).toNat)
  case atStart => exact ⟨0, rfl, by omega, by rw [maskTo_zero]; exact HQ3, HQ2, HB0⟩
  case round =>
    clear HQ3 HQ2 HB0
    obtain ⟨wo, rfl⟩ : ∃ wo : World, wo = wr := ⟨_, rfl⟩
    obtain ⟨i, rfl, hi, hr, hz, hb⟩ := hrel
    by_cases hlt : i < 16
    · have hiI : (i : Int) < 16 := by omega
      have hc : wo.cell? ⟨w.heap.size, i, none⟩ = some (.int .u8 (A.getD i 0 : Nat)) := by
        rw [cell_of_row _ _ _ _ _ _ hr.out]
        have := bv_get (maskTo A n i) i (by rw [maskTo_length, hA]; exact hlt)
        rw [maskTo_get _ _ _ _ (by rw [hA]; exact hlt), if_neg (by omega)] at this
        simpa using this
      have hfz : wo.frozen? ⟨w.heap.size, i, none⟩ = false := by simp [World.frozen?, hr.out]
      have hx := hB i
      have hset : ∀ v : Nat, mk1 ((n : Int) - 8 * i) (A.getD i 0) = v → (wo.setCell ⟨w.heap.size, i, none⟩ (.int .u8 (v : Int))).heap[w.heap.size]? = some (.cells (bv (maskTo A n (i + 1))).toArray 28) := fun v hv => by
        have := row_setCell wo w.heap.size i _ _ _ (.int .u8 (v : Int)) hr.out
        rw [maskTo_succ _ _ _ (by rw [hA]; exact hlt), hv, bv_set]
        rw [List.setIfInBounds_toArray] at this
        exact this
      have hsame : mk1 ((n : Int) - 8 * i) (A.getD i 0) = A.getD i 0 → wo.heap[w.heap.size]? = some (.cells (bv (maskTo A n (i + 1))).toArray 28) := fun hv => by
        rw [hr.out]
        have : maskTo A n i = maskTo A n (i + 1) := ?_
        · rw [this]
        apply list_ext_getD
        · rw [maskTo_length, maskTo_length]
        · intro j hj
          rw [maskTo_length] at hj
          rw [maskTo_get _ _ _ _ hj, maskTo_get _ _ _ _ hj]
          by_cases h : j < i
          · rw [if_pos h, if_pos (by omega)]
          · rw [if_neg h]
            by_cases h2 : j = i
            · subst h2; rw [if_pos (by omega), hv]
            · rw [if_neg (by omega)]
      have HSET := Lib.hid hset; have HSAME := Lib.hid hsame; clear hset hsame
      generalize A.getD i 0 = x at *
      by_cases h1 : (n : Int) - 8 * (i : Int) ≤ 0
      · have hm : mk1 ((n : Int) - 8 * (i : Int)) x = 0 := by unfold mk1; rw [if_pos h1]
        go_wp2
        exact ⟨⟨i + 1, by go_num, by omega, Lib.hid (HSET.out 0 hm), Lib.hid ((Below.heap_setCell wo _ _ _ (by show w.heap.size + 1 ≠ w.heap.size; omega)).trans hz.out), Lib.hid (below_cell hb.out (Nat.le_refl _) _)⟩, by simp only [intOf]; omega⟩
      · by_cases h2 : (n : Int) - 8 * (i : Int) < 8
        · have hm : mk1 ((n : Int) - 8 * (i : Int)) x = x &&& (255 <<< (8 - ((n : Int) - 8 * (i : Int))).toNat) % 256 := by unfold mk1; rw [if_neg h1, if_pos h2]
          obtain ⟨l, hl⟩ : ∃ l : Nat, (n : Int) - 8 * (i : Int) = (l : Int) := ⟨((n : Int) - 8 * (i : Int)).toNat, by omega⟩
          go_wp2
          rw [hl] at hm h1 h2
          have hl7 : l = 1 ∨ l = 2 ∨ l = 3 ∨ l = 4 ∨ l = 5 ∨ l = 6 ∨ l = 7 := by omega
          have HL := Lib.hid hl
          clear hl
          rcases hl7 with rfl | rfl | rfl | rfl | rfl | rfl | rfl
          · have hw7 : IntKind.i64.wrap 7 = 7 := by decide
            have ha : bits .and .u8 (x : Int) (IntKind.u8.wrap 32640) = ((x &&& 128 : Nat) : Int) := by rw [show IntKind.u8.wrap 32640 = ((128 : Nat) : Int) by decide]; exact u8_and_nat x 128 hx (by omega)
            rw [show (255 <<< (8 - ((1 : Nat) : Int)).toNat) % 256 = 128 by decide] at hm
            go_still_tail 8, (by kernel_rfl)
            change wpList _ _ _ _ _ wo.drew
            have hset2 := HSET.out (x &&& 128) (by rw [HL.out]; exact hm)
            have HS := Lib.hid hset2
            clear hm HSET HSAME hset2
            go_wp2
            exact ⟨⟨i + 1, by go_num, by omega, Lib.hid (by first | exact HS.out | (rw [← ha] at HS; exact HS.out)), Lib.hid ((Below.heap_setCell _ _ _ _ (by show w.heap.size + 1 ≠ w.heap.size; omega)).trans hz.out), Lib.hid (below_cell (below_drewN hb.out 1) (Nat.le_refl _) _)⟩, by simp only [intOf]; omega⟩
          · have hw7 : IntKind.i64.wrap 6 = 6 := by decide
            have ha : bits .and .u8 (x : Int) (IntKind.u8.wrap 16320) = ((x &&& 192 : Nat) : Int) := by rw [show IntKind.u8.wrap 16320 = ((192 : Nat) : Int) by decide]; exact u8_and_nat x 192 hx (by omega)
            rw [show (255 <<< (8 - ((2 : Nat) : Int)).toNat) % 256 = 192 by decide] at hm
            go_still_tail 8, (by kernel_rfl)
            change wpList _ _ _ _ _ wo.drew
            have hset2 := HSET.out (x &&& 192) (by rw [HL.out]; exact hm)
            have HS := Lib.hid hset2
            clear hm HSET HSAME hset2
            go_wp2
            exact ⟨⟨i + 1, by go_num, by omega, Lib.hid (by first | exact HS.out | (rw [← ha] at HS; exact HS.out)), Lib.hid ((Below.heap_setCell _ _ _ _ (by show w.heap.size + 1 ≠ w.heap.size; omega)).trans hz.out), Lib.hid (below_cell (below_drewN hb.out 1) (Nat.le_refl _) _)⟩, by simp only [intOf]; omega⟩
          · have hw7 : IntKind.i64.wrap 5 = 5 := by decide
            have ha : bits .and .u8 (x : Int) (IntKind.u8.wrap 8160) = ((x &&& 224 : Nat) : Int) := by rw [show IntKind.u8.wrap 8160 = ((224 : Nat) : Int) by decide]; exact u8_and_nat x 224 hx (by omega)
            rw [show (255 <<< (8 - ((3 : Nat) : Int)).toNat) % 256 = 224 by decide] at hm
            go_still_tail 8, (by kernel_rfl)
            change wpList _ _ _ _ _ wo.drew
            have hset2 := HSET.out (x &&& 224) (by rw [HL.out]; exact hm)
            have HS := Lib.hid hset2
            clear hm HSET HSAME hset2
            go_wp2
            exact ⟨⟨i + 1, by go_num, by omega, Lib.hid (by first | exact HS.out | (rw [← ha] at HS; exact HS.out)), Lib.hid ((Below.heap_setCell _ _ _ _ (by show w.heap.size + 1 ≠ w.heap.size; omega)).trans hz.out), Lib.hid (below_cell (below_drewN hb.out 1) (Nat.le_refl _) _)⟩, by simp only [intOf]; omega⟩
          · have hw7 : IntKind.i64.wrap 4 = 4 := by decide
            have ha : bits .and .u8 (x : Int) (IntKind.u8.wrap 4080) = ((x &&& 240 : Nat) : Int) := by rw [show IntKind.u8.wrap 4080 = ((240 : Nat) : Int) by decide]; exact u8_and_nat x 240 hx (by omega)
            rw [show (255 <<< (8 - ((4 : Nat) : Int)).toNat) % 256 = 240 by decide] at hm
            go_still_tail 8, (by kernel_rfl)
            change wpList _ _ _ _ _ wo.drew
            have hset2 := HSET.out (x &&& 240) (by rw [HL.out]; exact hm)
            have HS := Lib.hid hset2
            clear hm HSET HSAME hset2
            go_wp2
            exact ⟨⟨i + 1, by go_num, by omega, Lib.hid (by first | exact HS.out | (rw [← ha] at HS; exact HS.out)), Lib.hid ((Below.heap_setCell _ _ _ _ (by show w.heap.size + 1 ≠ w.heap.size; omega)).trans hz.out), Lib.hid (below_cell (below_drewN hb.out 1) (Nat.le_refl _) _)⟩, by simp only [intOf]; omega⟩
          · have hw7 : IntKind.i64.wrap 3 = 3 := by decide
            have ha : bits .and .u8 (x : Int) (IntKind.u8.wrap 2040) = ((x &&& 248 : Nat) : Int) := by rw [show IntKind.u8.wrap 2040 = ((248 : Nat) : Int) by decide]; exact u8_and_nat x 248 hx (by omega)
            rw [show (255 <<< (8 - ((5 : Nat) : Int)).toNat) % 256 = 248 by decide] at hm
            go_still_tail 8, (by kernel_rfl)
            change wpList _ _ _ _ _ wo.drew
            have hset2 := HSET.out (x &&& 248) (by rw [HL.out]; exact hm)
            have HS := Lib.hid hset2
            clear hm HSET HSAME hset2
            go_wp2
            exact ⟨⟨i + 1, by go_num, by omega, Lib.hid (by first | exact HS.out | (rw [← ha] at HS; exact HS.out)), Lib.hid ((Below.heap_setCell _ _ _ _ (by show w.heap.size + 1 ≠ w.heap.size; omega)).trans hz.out), Lib.hid (below_cell (below_drewN hb.out 1) (Nat.le_refl _) _)⟩, by simp only [intOf]; omega⟩
          · have hw7 : IntKind.i64.wrap 2 = 2 := by decide
            have ha : bits .and .u8 (x : Int) (IntKind.u8.wrap 1020) = ((x &&& 252 : Nat) : Int) := by rw [show IntKind.u8.wrap 1020 = ((252 : Nat) : Int) by decide]; exact u8_and_nat x 252 hx (by omega)
            rw [show (255 <<< (8 - ((6 : Nat) : Int)).toNat) % 256 = 252 by decide] at hm
            go_still_tail 8, (by kernel_rfl)
            change wpList _ _ _ _ _ wo.drew
            have hset2 := HSET.out (x &&& 252) (by rw [HL.out]; exact hm)
            have HS := Lib.hid hset2
            clear hm HSET HSAME hset2
            go_wp2
            exact ⟨⟨i + 1, by go_num, by omega, Lib.hid (by first | exact HS.out | (rw [← ha] at HS; exact HS.out)), Lib.hid ((Below.heap_setCell _ _ _ _ (by show w.heap.size + 1 ≠ w.heap.size; omega)).trans hz.out), Lib.hid (below_cell (below_drewN hb.out 1) (Nat.le_refl _) _)⟩, by simp only [intOf]; omega⟩
          · have hw7 : IntKind.i64.wrap 1 = 1 := by decide
            have ha : bits .and .u8 (x : Int) (IntKind.u8.wrap 510) = ((x &&& 254 : Nat) : Int) := by rw [show IntKind.u8.wrap 510 = ((254 : Nat) : Int) by decide]; exact u8_and_nat x 254 hx (by omega)
            rw [show (255 <<< (8 - ((7 : Nat) : Int)).toNat) % 256 = 254 by decide] at hm
            go_still_tail 8, (by kernel_rfl)
            change wpList _ _ _ _ _ wo.drew
            have hset2 := HSET.out (x &&& 254) (by rw [HL.out]; exact hm)
            have HS := Lib.hid hset2
            clear hm HSET HSAME hset2
            go_wp2
            exact ⟨⟨i + 1, by go_num, by omega, Lib.hid (by first | exact HS.out | (rw [← ha] at HS; exact HS.out)), Lib.hid ((Below.heap_setCell _ _ _ _ (by show w.heap.size + 1 ≠ w.heap.size; omega)).trans hz.out), Lib.hid (below_cell (below_drewN hb.out 1) (Nat.le_refl _) _)⟩, by simp only [intOf]; omega⟩
        · have hm : mk1 ((n : Int) - 8 * (i : Int)) x = x := by unfold mk1; rw [if_neg h1, if_neg h2]
          go_wp2
          exact ⟨⟨i + 1, by go_num, by omega, Lib.hid (HSAME.out hm), hz, hb⟩, by simp only [intOf]; omega⟩
    · obtain rfl : i = 16 := by omega
      have hlen : (maskTo A n 16).length = 16 := by rw [maskTo_length]; exact hA
      have HR := Lib.hid (setRow_heap wo _ _ (bv (maskTo A n 16)).toArray _ _ hz.out)
      have HB := Lib.hid (below_row hb.out (Nat.le_succ _) (bv (maskTo A n 16)).toArray)
      have hload := (run_loadVar_mid (P := Tryd.prog) (wo.setRow (w.heap.size + 1) (bv (maskTo A n 16)).toArray) (w.heap.size + 1) 0 28 (bv (maskTo A n 16)) _ (by simpa using range_of_row HR.out) Tryd.underlying28 rfl (by rw [bv_length, hlen]; kernel_rfl))
      have HLD := Lib.hid hload; clear hload
      go_wp2_with (with_reducible refine wpList_mark (o := ⟨some 29, _, _, _, _, _⟩) ?_)
      refine Marked.intro ?_
      refine wpList_load_mid rfl _ _ rfl w.heap.size 0 rfl (bv (maskTo A n 16)) _ (by simpa using range_of_row hr.out) Tryd.underlying28 rfl (by rw [bv_length, hlen]; kernel_rfl) ?_
      refine wpList_do rfl (exec_store_row _ 28 (.tmp 4) (.tmp 29) (by rfl) wo (w.heap.size + 1) 28 (bv (maskTo A n 16)).toArray z16 (by rfl) (by rfl) (by simp only [List.size_toArray, bv_length, hlen]; kernel_rfl) (by simp [bv_length, hlen, z16]) (by simp [bv, Value.oneCell']) hz.out) ?_
      go_wp2
      refine bodyPost_ret (results_one rfl _ _ _ ⟨w.heap.size + 1, 0, none⟩ _ rfl HLD.out) rfl ?_
      exact ⟨rfl, HB.out⟩
end Go.Proofs.YtmccnmccegbdjaaDoor
