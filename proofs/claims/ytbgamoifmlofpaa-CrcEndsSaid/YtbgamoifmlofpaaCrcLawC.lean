/- The walks of the crc's laws Linear, Tables, Opens, Ends: each answers true. -/
import Derived.Test.YtbgamoifmlofpaaCrcLawA
namespace Go.Proofs.Ytbgamoifmlofpaa
open Go.RowKit
set_option linter.unusedVariables false
theorem xor_u8 (a b : UInt8) : bits .xor .u8 (a.toNat : Int) (b.toNat : Int) = (((a ^^^ b).toNat : Nat) : Int) := by
  have h1 := a.toNat_lt
  have h2 := b.toNat_lt
  rw [u8_xor _ _ (by omega) (by omega) (by omega) (by omega), UInt8.toNat_xor, Int.toNat_natCast, Int.toNat_natCast]
theorem take_set (l : List UInt8) (n k : Nat) (h : k < l.length) (hn : n = l.length) : (l.take k ++ List.replicate (n - k) 0).set k l[k] = l.take (k + 1) ++ List.replicate (n - (k + 1)) 0 := by
  have e : List.replicate (n - k) (0 : UInt8) = 0 :: List.replicate (n - (k + 1)) 0 := by
    rw [show n - k = (n - (k + 1)) + 1 by omega, List.replicate_succ]
  rw [e, List.set_append_right _ _ (by simp; omega)]
  rw [show k - (l.take k).length = 0 by simp; omega, List.set_cons_zero, List.take_succ_eq_append_getElem h, List.append_assoc]; rfl
theorem rowOf_zeros (n : Nat) : (List.replicate n (Value.int .u8 0)).toArray = rowOf (List.replicate n 0) 0 := by simp [rowOf]
theorem row_get (l : List UInt8) (j : Nat) (h : j < l.length) : l[j]? = some l[j] := List.getElem?_eq_getElem h
theorem bits_sum0 (a b c d : Nat) (ha : a < 4294967296) (hb : b < 4294967296) (hc : c < 4294967296) (hd : d < 4294967296) (h : a ^^^ b ^^^ c ^^^ d = 0) :
    bits .xor .u32 (bits .xor .u32 (bits .xor .u32 (a : Int) (b : Int)) (c : Int)) (d : Int) = 0 := by
  have h1 : a ^^^ b < 4294967296 := Nat.xor_lt_two_pow (n := 32) ha hb
  have h2 : a ^^^ b ^^^ c < 4294967296 := Nat.xor_lt_two_pow (n := 32) h1 hc
  rw [u32_xor a b (by omega) (by omega) (by omega) (by omega), Int.toNat_natCast, Int.toNat_natCast, u32_xor _ c (by omega) (by omega) (by omega) (by omega), Int.toNat_natCast, Int.toNat_natCast, u32_xor _ d (by omega) (by omega) (by omega) (by omega), Int.toNat_natCast, Int.toNat_natCast, h]
  rfl
set_option maxRecDepth 100000 in
set_option maxHeartbeats 2000000 in
theorem CrcLinear_walk (a0 a1 a2 : ByteArray) (w0 : a0.size ≤ 140737488351232) (w1 : a1.size ≤ 140737488351232) (w2 : a2.size ≤ 140737488351232) (w : World) :
    Calls Try.prog 7 #[.string a0, .string a1, .string a2] w fun e w' => e = .returned (.bool true) ∧ Below w.heap.size w w' := by
  by_cases hbig : 1000 < a0.size ∨ a1.size ≠ a0.size ∨ a2.size ≠ a0.size
  · have go : (decide (1000 < (a0.size : Int)) = true) ∨ (decide (1000 < (a0.size : Int)) = false ∧ ((a1.size : Int) != a0.size) = true) ∨ (decide (1000 < (a0.size : Int)) = false ∧ ((a1.size : Int) != a0.size) = false ∧ ((a2.size : Int) != a0.size) = true) := by
      simp only [decide_eq_true_eq, decide_eq_false_iff_not, bne_iff_ne, bne_eq_false_iff_eq]; omega
    rcases go with h | ⟨h, h2⟩ | ⟨h, h2, h3⟩ <;>
    · go_enter Try.func7, Try.ntmps7
      go_wp2_with fail
      refine (awake_calls _).mono ?_
      rintro e w1 ⟨rfl, hb1⟩
      go_wp2_with fail
      refine (awake_calls _).mono ?_
      rintro e w2 ⟨rfl, hb2⟩
      go_wp2
      go_ret
      exact ⟨rfl, bn hb1 hb2⟩
  · have g0 : decide (1000 < (a0.size : Int)) = false := by simp; omega
    have g1 : ((a1.size : Int) != a0.size) = false := by simp; omega
    have g2 : ((a2.size : Int) != a0.size) = false := by simp; omega
    have hs0 : a0.size ≤ 1000 := by omega
    have L1 : a1.data.toList.length = a0.data.toList.length := by show a1.size = a0.size; omega
    have L2 : a2.data.toList.length = a0.data.toList.length := by show a2.size = a0.size; omega
    have L3 := Lib.hid (xor3_length _ _ _ L1 L2)
    have S1 := Lib.hid (show a1.size = a0.size by omega)
    have S2 := Lib.hid (show a2.size = a0.size by omega)
    have SX := Lib.hid (sum_xor3 _ _ _ L1 L2)
    have gx : ∀ (k : Nat) (h0 : k < a0.size) (h1 : k < a1.size) (h2 : k < a2.size), (xor3 a0.data.toList a1.data.toList a2.data.toList)[k]? = some (a0[k] ^^^ a1[k] ^^^ a2[k]) := by
      intro k h0 h1 h2
      have := xor3_get _ _ _ L1 L2 k h0
      rw [List.getElem?_eq_getElem (by rw [xor3_length _ _ _ L1 L2]; exact h0), this]; rfl
    obtain ⟨D, hD⟩ : ∃ D, xor3 a0.data.toList a1.data.toList a2.data.toList = D := ⟨_, rfl⟩
    rw [hD] at gx SX L3
    have GX := Lib.hid gx; clear gx
    clear L1 L2 hbig hD
    have LD : Hid (D.length = a0.size) := L3.out
    go_enter Try.func7, Try.ntmps7
    go_wp2_with fail
    refine (awake_calls _).mono ?_
    rintro e w1 ⟨rfl, hb1⟩
    go_wp2_with (with_reducible refine wpList_mark (o := ⟨some 33, _, _, _, _, _⟩) ?_)
    refine Marked.intro ?_
    refine wpList_run rfl (exec_make _ 40 5 (.tmp 32) (.tmp 32) (by rfl) _ a0.size .i64 .i64 (by rfl) (by rfl) Try.underlying40 (.int .u8 0) rfl 1 (by kernel_rfl) (by omega) (by omega)) ?_
    rw [rowOf_zeros]
    have hh := heap_alloc_new w1 (.cells (rowOf (List.replicate a0.size 0) 0) 5)
    go_wp2
    go_loopw [36] (fun i wr => ∃ k : Nat, k ≤ a0.size ∧ i = .int .i64 k ∧ Below w.heap.size w wr ∧ wr.heap[w1.heap.size]? = some (.cells (rowOf (D.take k ++ List.replicate (a0.size - k) 0) 0) 5 (0, 0))) (fun i _ => a0.size - (intOf i).toNat)
    case atStart => exact ⟨0, by omega, rfl, hb1.alloc hb1.size _, by simpa using hh⟩
    case round =>
      obtain ⟨k, hk, rfl, hbel, hheap⟩ := hrel
      have HH := Lib.hid hheap; clear hheap hh
      by_cases hlt : k < a0.size
      · have hlt1 : k < a1.size := by rw [S1.out]; exact hlt
        have hlt2 : k < a2.size := by rw [S2.out]; exact hlt
        have hkl : k < D.length := by rw [LD.out]; exact hlt
        have hln : k < (D.take k ++ List.replicate (a0.size - k) 0).length := by simp; omega
        have hcell : wr.cell? ⟨w1.heap.size, k, none⟩ = some (.int .u8 ((D.take k ++ List.replicate (a0.size - k) 0)[k].toNat : Int)) := by
          rw [cell_of_row wr _ _ _ _ _ HH.out, rowOf_get _ _ _ hln]
        have hfr : wr.frozen? ⟨w1.heap.size, k, none⟩ = false := by simp [World.frozen?, HH.out]
        generalize (D.take k ++ List.replicate (a0.size - k) 0)[k].toNat = old at hcell
        have x1 := xor_u8 a0[k] a1[k]
        have x2 := xor_u8 (a0[k] ^^^ a1[k]) a2[k]
        rw [UInt8.toNat_xor a0[k] a1[k]] at x2
        go_wp2
        go_region
        go_wp2
        have hset : wr.heap[w1.heap.size]? = _ := HH.out
        have hh2 := heap_setCell_fr wr w1.heap.size k _ _ _ (.int .u8 ((D[k]).toNat : Int)) HH.out
        rw [rowOf_set _ _ _ _ hln, take_set D a0.size k hkl LD.out.symm] at hh2
        have hDk : D[k] = a0[k] ^^^ a1[k] ^^^ a2[k] := by
          have := GX.out k hlt hlt1 hlt2
          rw [List.getElem?_eq_getElem hkl] at this
          exact Option.some.inj this
        rw [show a0[k].toNat ^^^ a1[k].toNat ^^^ a2[k].toNat = D[k].toNat from by rw [hDk, UInt8.toNat_xor, UInt8.toNat_xor]]
        exact ⟨⟨k + 1, by omega, by go_num, (hbel.setCell (by have := hb1.size; exact this) _).drew, hh2⟩, by simp [intOf]; omega⟩
      · obtain rfl : k = a0.size := by omega
        have hg : wr.heap[w1.heap.size]? = some (.cells (rowOf D 0) 5 (0, 0)) := by
          rw [HH.out, List.take_of_length_le (by rw [LD.out]; omega)]; simp
        have hcv : ∀ d os, (convert 40 9 (.slice (some ⟨w1.heap.size, 0, none⟩) a0.size a0.size)).run Try.prog (Go.Sort.grow (redrawn wr d) os) = .ok (.string ⟨D.toArray⟩) (Go.Sort.grow (redrawn wr d) os) := by
          intro d os
          rw [← LD.out]
          refine run_convert_bytes_back _ _ _ 5 ⟨w1.heap.size, 0, none⟩ _ D Try.underlying40 Try.underlying5 Try.underlying9 ?_
          intro j hj
          refine cell_regrown ?_ d os
          rw [Addr.add_lit, Nat.zero_add, cell_of_row wr _ _ _ _ _ hg, rowOf_get _ _ _ hj]
        have hDs : (⟨D.toArray⟩ : ByteArray).size ≤ maxLen := by
          show D.toArray.size ≤ _
          rw [List.size_toArray, LD.out]; unfold maxLen; omega
        clear hg HH
        go_wp2
        refine wp_region_quiet_below (by kernel_rfl) (by kernel_rfl) ?_
        repeat (quiet_step ((go_at_call 15; first | (with_reducible exact Calls.regrown_of (Sum_calls _ a0 (by unfold maxLen; omega))) | (with_reducible exact Calls.regrown_of (Sum_calls _ a1 (by unfold maxLen; omega))) | (with_reducible exact Calls.regrown_of (Sum_calls _ a2 (by unfold maxLen; omega))) | (with_reducible exact Calls.regrown_of (Sum_calls _ ⟨D.toArray⟩ hDs)))))
        have hz := bits_sum0 (sum a0.data.toList) (sum a1.data.toList) (sum a2.data.toList) (sum D) (sum_lt _) (sum_lt _) (sum_lt _) (sum_lt _) SX.out
        rw [hz]
        refine wpQuiet_nil ?_
        rintro w' ⟨p, rfl⟩
        have hb6 := below_regrown wr p.d p.os
        generalize Go.Sort.grow (redrawn wr p.d) p.os = w6 at hb6 ⊢
        go_wp2
        go_ret
        exact ⟨rfl, bn hbel hb6⟩

theorem cell_tab (w : World) (g : Nat) (t : TypeId) (hg : w.heap[g]? = some (.cells (tcells 256) t (0, 0))) (j : Nat) (hj : j < 256) : w.cell? ⟨g, j, none⟩ = some (.int .u32 ((tab j : Nat) : Int)) := by
  rw [cell_of_row w g j _ _ _ hg, tcells_get _ _ hj]; simp [tcell, hj]
set_option maxRecDepth 100000 in
set_option maxHeartbeats 2000000 in
theorem CrcTables_walk (a0 a1 : Int) (w0 : (Lit.int .u8 a0).wf = true) (w1 : (Lit.int .u8 a1).wf = true) (w : World) :
    Calls Try.prog 8 #[.int .u8 a0, .int .u8 a1] w fun e w' => e = .returned (.bool true) ∧ Below w.heap.size w w' := by
  obtain ⟨b0, b1⟩ := bounds_u8 w0
  obtain ⟨a, rfl⟩ := Int.eq_ofNat_of_zero_le b0
  obtain ⟨c0, c1⟩ := bounds_u8 w1
  obtain ⟨b, rfl⟩ := Int.eq_ofNat_of_zero_le c0
  have ha : a < 256 := by omega
  have hb : b < 256 := by omega
  have hab : a ^^^ b < 256 := Nat.xor_lt_two_pow (n := 8) ha hb
  have x0 : bits .xor .u8 (a : Int) (b : Int) = ((a ^^^ b : Nat) : Int) := by
    rw [u8_xor _ _ (by omega) (by omega) (by omega) (by omega)]; simp
  have x1 : bits .xor .u32 ((tab a : Nat) : Int) ((tab b : Nat) : Int) = ((tab (a ^^^ b) : Nat) : Int) := by
    have := tab_lt a ha
    have := tab_lt b hb
    rw [u32_xor _ _ (by omega) (by omega) (by omega) (by omega), tab_xor]; simp
  have x2 : ((((tab a : Nat) : Int) == ((tab b : Nat) : Int)) == ((a : Int) == (b : Int))) = true := by
    have h := tab_inj a b ha hb
    by_cases e : a = b
    · subst e; simp
    · have : ¬ tab a = tab b := fun h2 => e (h.1 h2)
      have e1 : ((a : Int) == (b : Int)) = false := by simp; omega
      have e2 : (((tab a : Nat) : Int) == ((tab b : Nat) : Int)) = false := by simp; omega
      rw [e1, e2]; rfl
  have hw64 : IntKind.i64.wrap (a : Int) = a := Go.IntWalk.i64_in _ (by omega)
  have a256 : (a : Int) < 256 := by omega
  have b256 : (b : Int) < 256 := by omega
  have ab256 : ((a ^^^ b : Nat) : Int) < 256 := by omega
  go_enter Try.func8, Try.ntmps8
  go_wp2_with fail
  refine (Table_calls _).mono ?_
  rintro e w1 ⟨rfl, hb1⟩
  go_wp2_with (with_reducible refine wpList_mark (o := ⟨some 5, _, _, _, _, _⟩) ?_)
  refine Marked.intro ?_
  refine wpList_run rfl (exec_alloc256 _ _ rfl _) ?_
  have hg := heap_alloc_new w1 (.cells z256 31)
  refine wpList_do rfl (exec_store_row _ 31 (.tmp 5) (.tmp 6) (by rfl) _ w1.heap.size 31 (tcells 256) z256 (by rfl) (by rfl) (by rw [tcells_size]; kernel_rfl) (by rw [tcells_size]; kernel_rfl) (tcells_one 256) hg) ?_
  clear hg
  rw [setRow_alloc]
  have hg := heap_alloc_new w1 (.cells (tcells 256) 31)
  have hbel := hb1.alloc hb1.size (.cells (tcells 256) 31)
  generalize hW : w1.alloc (.cells (tcells 256) 31) = W at hg hbel ⊢
  clear hW
  have y0 : ∀ d os, (Go.Sort.grow (redrawn W d) os).cell? ⟨w1.heap.size, a ^^^ b, none⟩ = some (.int .u32 ((tab (a ^^^ b) : Nat) : Int)) := fun d os => cell_regrown (cell_tab W _ _ hg _ hab) d os
  have y1 : ∀ d os, (Go.Sort.grow (redrawn W d) os).cell? ⟨w1.heap.size, a, none⟩ = some (.int .u32 ((tab a : Nat) : Int)) := fun d os => cell_regrown (cell_tab W _ _ hg _ ha) d os
  have y2 : ∀ d os, (Go.Sort.grow (redrawn W d) os).cell? ⟨w1.heap.size, b, none⟩ = some (.int .u32 ((tab b : Nat) : Int)) := fun d os => cell_regrown (cell_tab W _ _ hg _ hb) d os
  have y3 : ∀ d os, (Go.Sort.grow (redrawn W d) os).cell? ⟨w1.heap.size, 0, none⟩ = some (.int .u32 0) := fun d os => cell_regrown (by have := cell_tab W _ _ hg 0 (by omega); rw [tab_zero] at this; exact this) d os
  clear hg b0 c0
  go_wp2
  refine wp_region_quiet_below (by kernel_rfl) (by kernel_rfl) ?_
  quiet_step ((with_reducible exact Calls.regrown_of (awake_calls _)))
  repeat (quiet_step (fail))
  quiet_step ((with_reducible exact Calls.regrown_of (Calls.below_of_same (Row_calls _ a ha))))
  repeat (quiet_step (fail))
  refine wpQuiet_nil ?_
  rintro w' ⟨p, rfl⟩
  have hb6 := below_regrown W p.d p.os
  generalize Go.Sort.grow (redrawn W p.d) p.os = w6 at hb6 ⊢
  clear y0 y1 y2 y3
  go_wp2
  go_ret
  exact ⟨rfl, bn hbel hb6⟩

theorem app_end (s : ByteArray) (x : Nat) : s ++ (⟨(le4 x).toArray⟩ : ByteArray) = endB s x := app_mk s (le4 x)
set_option maxRecDepth 100000 in
set_option maxHeartbeats 2000000 in
theorem CrcEnds_walk (a0 : ByteArray) (a1 : Int) (w0 : a0.size ≤ 140737488351232) (w1 : (Lit.int .u32 a1).wf = true) (w : World) :
    Calls Try.prog 10 #[.string a0, .int .u32 a1] w fun e w' => e = .returned (.bool true) ∧ Below w.heap.size w w' := by
  obtain ⟨b0, b1⟩ := bounds_u32 w1
  obtain ⟨x, rfl⟩ := Int.eq_ofNat_of_zero_le b0
  by_cases hbig : 2000 < a0.size
  · go_enter Try.func10, Try.ntmps10
    go_wp2_with fail
    refine (awake_calls _).mono ?_
    rintro e w1 ⟨rfl, hb1⟩
    go_wp2_with fail
    refine (awake_calls _).mono ?_
    rintro e w2 ⟨rfl, hb2⟩
    go_wp2
    go_ret
    exact ⟨rfl, bn hb1 hb2⟩
  · have hx : x < 4294967296 := by omega
    have hop := open_end a0 x hx
    have hes := endB_size a0 x
    have h4 : a0.size + (le4 x).length ≤ 9223372036854775807 := by rw [le4_length]; omega
    have Hes := Lib.hid hes; clear hes
    by_cases hs : x = sum a0.data.toList
    · rw [if_pos hs] at hop
      have Hop := Lib.hid hop; clear hop
      have q1 : ((x : Int) == ((sum a0.data.toList : Nat) : Int)) = true := by simp; omega
      clear hs
      go_enter Try.func10, Try.ntmps10
      go_wp2_with fail
      refine (awake_calls _).mono ?_
      rintro e w1 ⟨rfl, hb1⟩
      go_wp2_with (with_reducible refine wpList_mark (o := ⟨some 30, _, _, _, _, _⟩) ?_)
      refine Marked.intro ?_
      refine wpList_run rfl (exec_bytes_back _ 40 9 5 (.tmp 29) (by rfl) _ ⟨w1.heap.size, 0, none⟩ 4 4 (by rfl) (le4 x) rfl Try.underlying40 Try.underlying5 Try.underlying9 ?_) ?_
      · intro j hj
        rw [le4_length] at hj
        have h4 : j = 0 ∨ j = 1 ∨ j = 2 ∨ j = 3 := by omega
        rcases h4 with rfl | rfl | rfl | rfl <;> simp [le4, Addr.add, World.cell?_alloc_at] <;> omega
      · go_wp2_with fail
        rw [app_end]
        with_reducible refine (Open_calls _ (endB a0 x) (by have := Hes.out; omega)).mono ?_
        rintro e w2 ⟨rfl, hb2⟩
        rw [Hop.out]
        go_wp2_with fail
        with_reducible refine (RSum_calls _ a0 (by unfold maxLen; omega)).mono ?_
        rintro e w3 ⟨rfl, rfl⟩
        go_wp2
        go_ret
        exact ⟨rfl, bn (hb1.alloc hb1.size _) hb2⟩
    · rw [if_neg hs] at hop
      have Hop := Lib.hid hop; clear hop
      have q1 : ((x : Int) == ((sum a0.data.toList : Nat) : Int)) = false := by simp; omega
      clear hs
      go_enter Try.func10, Try.ntmps10
      go_wp2_with fail
      refine (awake_calls _).mono ?_
      rintro e w1 ⟨rfl, hb1⟩
      go_wp2_with (with_reducible refine wpList_mark (o := ⟨some 30, _, _, _, _, _⟩) ?_)
      refine Marked.intro ?_
      refine wpList_run rfl (exec_bytes_back _ 40 9 5 (.tmp 29) (by rfl) _ ⟨w1.heap.size, 0, none⟩ 4 4 (by rfl) (le4 x) rfl Try.underlying40 Try.underlying5 Try.underlying9 ?_) ?_
      · intro j hj
        rw [le4_length] at hj
        have h4 : j = 0 ∨ j = 1 ∨ j = 2 ∨ j = 3 := by omega
        rcases h4 with rfl | rfl | rfl | rfl <;> simp [le4, Addr.add, World.cell?_alloc_at] <;> omega
      · go_wp2_with fail
        rw [app_end]
        with_reducible refine (Open_calls _ (endB a0 x) (by have := Hes.out; omega)).mono ?_
        rintro e w2 ⟨rfl, hb2⟩
        rw [Hop.out]
        go_wp2_with fail
        with_reducible refine (RSum_calls _ a0 (by unfold maxLen; omega)).mono ?_
        rintro e w3 ⟨rfl, rfl⟩
        go_wp2
        go_ret
        exact ⟨rfl, bn (hb1.alloc hb1.size _) hb2⟩

theorem xor_byte (c : UInt8) (m : Nat) (h : m < 256) : bits .xor .u8 (c.toNat : Int) (m : Int) = (((c ^^^ UInt8.ofNat m).toNat : Nat) : Int) := by
  have h2 := c.toNat_lt
  have e : (UInt8.ofNat m).toNat = m := by rw [UInt8.toNat_ofNat']; omega
  rw [u8_xor _ _ (by omega) (by omega) (by omega) (by omega), UInt8.toNat_xor, e, Int.toNat_natCast, Int.toNat_natCast]
/-- The seal of s, one byte of it turned. -/
def turnB (s : ByteArray) (j m : Nat) : ByteArray := ⟨((sealB s).data.toList.set j ((sealB s).data.toList[j]?.getD 0 ^^^ UInt8.ofNat m)).toArray⟩
theorem turnB_size (s : ByteArray) (j m : Nat) : (turnB s j m).size = s.size + 4 := by
  show ((sealB s).data.toList.set j _).toArray.size = _
  rw [List.size_toArray, List.length_set]; exact sealB_size s
theorem open_turn (s : ByteArray) (j m : Nat) (hj : j < s.size + 4) (hm : m < 256) (h0 : m ≠ 0) : openB (turnB s j m) = (⟨#[]⟩, 5) := by
  have e1 : (sealB s).data.toList.length = s.size + 4 := sealB_size s
  refine open_burst s _ (turnB_size s j m) m (8 * j) (by omega) h0 (by omega) ?_
  show V ((sealB s).data.toList.set j _) = _
  have hjl : j < (sealB s).data.toList.length := by rw [e1]; exact hj
  rw [List.getElem?_eq_getElem hjl, Option.getD_some, V_set _ _ _ hjl, UInt8.toNat_ofNat', Nat.mod_eq_of_lt (by omega), Nat.pow_mul]
set_option maxRecDepth 100000 in
set_option maxHeartbeats 2000000 in
theorem CrcOpens_walk (a0 : ByteArray) (a1 : Int) (w0 : a0.size ≤ 140737488351232) (w1 : (Lit.int .u8 a1).wf = true) (w : World) :
    Calls Try.prog 9 #[.string a0, .int .u8 a1] w fun e w' => e = .returned (.bool true) ∧ Below w.heap.size w w' := by
  obtain ⟨b0, b1⟩ := bounds_u8 w1
  obtain ⟨b, rfl⟩ := Int.eq_ofNat_of_zero_le b0
  by_cases hbig : 2000 < a0.size
  · go_enter Try.func9, Try.ntmps9
    go_wp2_with fail
    refine (awake_calls _).mono ?_
    rintro e w1 ⟨rfl, hb1⟩
    go_wp2_with fail
    refine (awake_calls _).mono ?_
    rintro e w2 ⟨rfl, hb2⟩
    go_wp2
    go_ret
    exact ⟨rfl, bn hb1 hb2⟩
  · have hb256 : b < 256 := by omega
    have hs := sealB_size a0
    have hsz1 : (sealB a0).size ≤ 2004 := by omega
    have hsz2 : 4 ≤ (sealB a0).size := by omega
    obtain ⟨j, hj, hj2⟩ : ∃ j : Nat, (b : Int) % (((sealB a0).size : Nat) : Int) = j ∧ j < (sealB a0).size := ⟨b % (sealB a0).size, by simp, Nat.mod_lt _ (by omega)⟩
    have hop := open_turn a0 j (1 + b / 2) (by omega) (by omega) (by omega)
    have hts := turnB_size a0 j (1 + b / 2)
    have Hop := Lib.hid hop; clear hop
    have Hts := Lib.hid hts; clear hts
    have Hs := Lib.hid hs; clear hs
    have osz : (openB a0).1.size ≤ a0.size := by
      unfold openB; split
      · exact Nat.zero_le _
      · split
        · simp
        · exact Nat.zero_le _
    have hjl : j < (sealB a0).data.toList.length := hj2
    have xb := xor_byte (sealB a0).data.toList[j] (1 + b / 2) (by omega)
    have Xb := Lib.hid xb; clear xb
    by_cases ho : (openB a0).2 = 0
    · have hse := open_ok_seal a0 ho
      have hq : ((sealB (openB a0).1).toList == a0.toList) = true := by rw [str_eq]; exact decide_eq_true hse
      clear hse
      go_enter Try.func9, Try.ntmps9
      go_wp2_with fail
      refine (awake_calls _).mono ?_
      rintro e w1 ⟨rfl, hb1⟩
      go_wp2_with fail
      with_reducible refine (Open_calls _ a0 (by omega)).mono ?_
      rintro e w2 ⟨rfl, hb2⟩
      rw [ho]
      go_wp2_with fail
      with_reducible refine (Seal_calls _ (openB a0).1 (by omega)).mono ?_
      rintro e w3 ⟨rfl, hb3⟩
      go_wp2_with fail
      with_reducible refine (Seal_calls _ a0 (by omega)).mono ?_
      rintro e w4 ⟨rfl, hb4⟩
      go_wp2_with (with_reducible refine wpList_mark (o := ⟨some 35, _, _, _, _, _⟩) ?_)
      refine Marked.intro ?_
      refine wpList_run rfl (exec_string_bytes _ 9 40 5 (.tmp 34) (by rfl) _ (sealB a0) (by rfl) Try.underlying9 Try.underlying40 Try.underlying5) ?_
      obtain ⟨z, hz⟩ : ∃ z, grownCap w4 (sealB a0).size 0 5 - (sealB a0).size = z := ⟨_, rfl⟩
      rw [bytesRow_eq, hz]
      have hg := heap_alloc_new w4.drew (.cells (rowOf (sealB a0).data.toList z) 5 ((rowOf (sealB a0).data.toList z).size, (rowOf (sealB a0).data.toList z).size + 1))
      have hbel := (bn (bn (bn hb1 hb2) hb3) hb4).drew.alloc (bn (bn (bn hb1 hb2) hb3) hb4).size (.cells (rowOf (sealB a0).data.toList z) 5 ((rowOf (sealB a0).data.toList z).size, (rowOf (sealB a0).data.toList z).size + 1))
      generalize hW : w4.drew.alloc (.cells (rowOf (sealB a0).data.toList z) 5 ((rowOf (sealB a0).data.toList z).size, (rowOf (sealB a0).data.toList z).size + 1)) = W at hg hbel ⊢
      have hg' : W.heap[w4.heap.size]? = _ := hg
      have HG := Lib.hid hg'
      clear hW hg hg' hz
      have hcell : W.cell? ⟨w4.heap.size, j, none⟩ = some (.int .u8 ((sealB a0).data.toList[j].toNat : Int)) := by
        rw [cell_of_row W _ _ _ _ _ HG.out, rowOf_get _ _ _ hjl]
      have hfr : W.frozen? ⟨w4.heap.size, j, none⟩ = false := by
        simp [World.frozen?, HG.out, rowOf_size]; omega
      go_wp2_with (with_reducible refine wpList_mark (o := ⟨some 51, _, _, _, _, _⟩) ?_)
      have e3 : bits .xor .u8 (((sealB a0).data[j].toNat : Nat) : Int) (1 + (b : Int) / 2) = (((sealB a0).data.toList[j] ^^^ UInt8.ofNat (1 + b / 2)).toNat : Int) := by
        rw [← Xb.out]; congr 1
      rw [e3]
      refine Marked.intro ?_
      have hh2 := heap_setCell_fr W w4.heap.size j _ _ _ (.int .u8 (((sealB a0).data.toList[j] ^^^ UInt8.ofNat (1 + b / 2)).toNat : Int)) HG.out
      rw [rowOf_set _ _ _ _ hjl] at hh2
      have hbel2 := hbel.setCell (p := ⟨w4.heap.size, j, none⟩) (bn (bn (bn hb1 hb2) hb3) hb4).size (.int .u8 (((sealB a0).data.toList[j] ^^^ UInt8.ofNat (1 + b / 2)).toNat : Int))
      generalize hW2 : W.setCell ⟨w4.heap.size, j, none⟩ (.int .u8 (((sealB a0).data.toList[j] ^^^ UInt8.ofNat (1 + b / 2)).toNat : Int)) = W2 at hh2 hbel2 ⊢
      clear hW2 hcell hfr
      have HH2 := Lib.hid hh2; clear hh2
      refine wpList_run rfl (exec_bytes_back _ 40 9 5 (.tmp 50) (by rfl) _ ⟨w4.heap.size, 0, none⟩ (sealB a0).size _ (by rfl) ((sealB a0).data.toList.set j ((sealB a0).data.toList[j] ^^^ UInt8.ofNat (1 + b / 2))) (by rw [List.length_set]; rfl) Try.underlying40 Try.underlying5 Try.underlying9 ?_) ?_
      · intro i hi
        rw [Addr.add_lit, Nat.zero_add, cell_of_row W2 _ _ _ _ _ HH2.out, rowOf_get _ _ _ hi]
      · have et : (⟨((sealB a0).data.toList.set j ((sealB a0).data.toList[j] ^^^ UInt8.ofNat (1 + b / 2))).toArray⟩ : ByteArray) = turnB a0 j (1 + b / 2) := by
          unfold turnB; rw [List.getElem?_eq_getElem hjl]; rfl
        rw [et]
        clear et e3
        go_wp2_with fail
        with_reducible refine (Open_calls _ (turnB a0 j (1 + b / 2)) (by have := Hts.out; omega)).mono ?_
        rintro e w5 ⟨rfl, hb5⟩
        rw [Hop.out]
        go_wp2
        go_ret
        exact ⟨rfl, bn hbel2 hb5⟩
    · have ho2 : ((((openB a0).2 : Nat) : Int) == 0) = false := by simp; exact ho
      clear ho
      go_enter Try.func9, Try.ntmps9
      go_wp2_with fail
      refine (awake_calls _).mono ?_
      rintro e w1 ⟨rfl, hb1⟩
      go_wp2_with fail
      with_reducible refine (Open_calls _ a0 (by omega)).mono ?_
      rintro e w2 ⟨rfl, hb2⟩
      go_wp2_with fail
      with_reducible refine (Seal_calls _ a0 (by omega)).mono ?_
      rintro e w4 ⟨rfl, hb4⟩
      go_wp2_with (with_reducible refine wpList_mark (o := ⟨some 35, _, _, _, _, _⟩) ?_)
      refine Marked.intro ?_
      refine wpList_run rfl (exec_string_bytes _ 9 40 5 (.tmp 34) (by rfl) _ (sealB a0) (by rfl) Try.underlying9 Try.underlying40 Try.underlying5) ?_
      obtain ⟨z, hz⟩ : ∃ z, grownCap w4 (sealB a0).size 0 5 - (sealB a0).size = z := ⟨_, rfl⟩
      rw [bytesRow_eq, hz]
      have hg := heap_alloc_new w4.drew (.cells (rowOf (sealB a0).data.toList z) 5 ((rowOf (sealB a0).data.toList z).size, (rowOf (sealB a0).data.toList z).size + 1))
      have hbel := (bn (bn hb1 hb2) hb4).drew.alloc (bn (bn hb1 hb2) hb4).size (.cells (rowOf (sealB a0).data.toList z) 5 ((rowOf (sealB a0).data.toList z).size, (rowOf (sealB a0).data.toList z).size + 1))
      generalize hW : w4.drew.alloc (.cells (rowOf (sealB a0).data.toList z) 5 ((rowOf (sealB a0).data.toList z).size, (rowOf (sealB a0).data.toList z).size + 1)) = W at hg hbel ⊢
      have hg' : W.heap[w4.heap.size]? = _ := hg
      have HG := Lib.hid hg'
      clear hW hg hg' hz
      have hcell : W.cell? ⟨w4.heap.size, j, none⟩ = some (.int .u8 ((sealB a0).data.toList[j].toNat : Int)) := by
        rw [cell_of_row W _ _ _ _ _ HG.out, rowOf_get _ _ _ hjl]
      have hfr : W.frozen? ⟨w4.heap.size, j, none⟩ = false := by
        simp [World.frozen?, HG.out, rowOf_size]; omega
      go_wp2_with (with_reducible refine wpList_mark (o := ⟨some 51, _, _, _, _, _⟩) ?_)
      have e3 : bits .xor .u8 (((sealB a0).data[j].toNat : Nat) : Int) (1 + (b : Int) / 2) = (((sealB a0).data.toList[j] ^^^ UInt8.ofNat (1 + b / 2)).toNat : Int) := by
        rw [← Xb.out]; congr 1
      rw [e3]
      refine Marked.intro ?_
      have hh2 := heap_setCell_fr W w4.heap.size j _ _ _ (.int .u8 (((sealB a0).data.toList[j] ^^^ UInt8.ofNat (1 + b / 2)).toNat : Int)) HG.out
      rw [rowOf_set _ _ _ _ hjl] at hh2
      have hbel2 := hbel.setCell (p := ⟨w4.heap.size, j, none⟩) (bn (bn hb1 hb2) hb4).size (.int .u8 (((sealB a0).data.toList[j] ^^^ UInt8.ofNat (1 + b / 2)).toNat : Int))
      generalize hW2 : W.setCell ⟨w4.heap.size, j, none⟩ (.int .u8 (((sealB a0).data.toList[j] ^^^ UInt8.ofNat (1 + b / 2)).toNat : Int)) = W2 at hh2 hbel2 ⊢
      clear hW2 hcell hfr
      have HH2 := Lib.hid hh2; clear hh2
      refine wpList_run rfl (exec_bytes_back _ 40 9 5 (.tmp 50) (by rfl) _ ⟨w4.heap.size, 0, none⟩ (sealB a0).size _ (by rfl) ((sealB a0).data.toList.set j ((sealB a0).data.toList[j] ^^^ UInt8.ofNat (1 + b / 2))) (by rw [List.length_set]; rfl) Try.underlying40 Try.underlying5 Try.underlying9 ?_) ?_
      · intro i hi
        rw [Addr.add_lit, Nat.zero_add, cell_of_row W2 _ _ _ _ _ HH2.out, rowOf_get _ _ _ hi]
      · have et : (⟨((sealB a0).data.toList.set j ((sealB a0).data.toList[j] ^^^ UInt8.ofNat (1 + b / 2))).toArray⟩ : ByteArray) = turnB a0 j (1 + b / 2) := by
          unfold turnB; rw [List.getElem?_eq_getElem hjl]; rfl
        rw [et]
        clear et e3
        go_wp2_with fail
        with_reducible refine (Open_calls _ (turnB a0 j (1 + b / 2)) (by have := Hts.out; omega)).mono ?_
        rintro e w5 ⟨rfl, hb5⟩
        rw [Hop.out]
        go_wp2
        go_ret
        exact ⟨rfl, bn hbel2 hb5⟩
end Go.Proofs.Ytbgamoifmlofpaa
