/- The walk of the reference's Flip. -/
import Derived.Test.YtbgamoifmlofpaaCrcFlip
namespace Go.Proofs.Ytbgamoifmlofpaa
open Go.RowKit
set_option linter.unusedVariables false
theorem bit_rem (b k : Nat) : ((b : Int) / 2 ^ k).tmod 2 = (((b.testBit k).toNat : Nat) : Int) := by
  have e : (b : Int) / 2 ^ k = ((b / 2 ^ k : Nat) : Int) := by simp
  rw [e, Nat.toNat_testBit, Int.tmod_eq_emod_of_nonneg (Int.natCast_nonneg _)]; omega
set_option maxRecDepth 100000 in
set_option maxHeartbeats 1000000 in
theorem RFlip_calls (w : World) (s : ByteArray) (at_ : Int) (bs : Nat) (hb : bs < 4294967296) (hs : s.size ≤ 140737488351232) (h1 : -9223372036854775808 ≤ at_) (h2 : at_ < 9223372036854775808) :
   Calls Try.prog 22 #[.string s, .int .i64 at_, .int .u32 (bs : Nat)] w fun e w' => e = .returned (.string ⟨(flipL s.data.toList at_ bs).toArray⟩) ∧ Below w.heap.size w w' := by
  go_enter Try.func22, Try.ntmps22
  go_wp2_with (with_reducible refine wpList_mark (o := ⟨some 10, _, _, _, _, _⟩) ?_)
  refine Marked.intro ?_
  refine wpList_run rfl (exec_string_bytes _ 9 40 5 (.tmp 9) (by rfl) _ s (by rfl) Try.underlying9 Try.underlying40 Try.underlying5) ?_
  have hz : ∃ z, grownCap w s.size 0 5 - s.size = z := ⟨_, rfl⟩
  obtain ⟨z, hz⟩ := hz
  rw [bytesRow_eq, hz]
  go_wp2
  have hh := heap_alloc_new w.drew (.cells (rowOf s.data.toList z) 5 ((rowOf s.data.toList z).size, (rowOf s.data.toList z).size + 1))
  go_loopw [8] (fun i wr => ∃ (k : Nat) (l : List UInt8), k ≤ 8 * s.size ∧ i = .int .i64 k ∧ l.length = s.size ∧ V l = V s.data.toList ^^^ maskRef at_ bs k ∧ Below w.heap.size w wr ∧
     wr.heap[w.heap.size]? = some (.cells (rowOf l z) 5 (s.size + z, s.size + z + 1))) (fun i _ => 8 * s.size - (intOf i).toNat)
  case atStart => exact ⟨0, s.data.toList, by omega, rfl, rfl, by simp [maskRef], ((Below.refl _ _).drew).alloc (Nat.le_refl _) _, by rw [rowOf_size] at hh; rw [rowOf_size]; exact hh⟩
  case round =>
    obtain ⟨k, l, hk, rfl, hl, hV, hbel, hheap⟩ := hrel
    have HV := Lib.hid hV; clear hV
    have Hl := Lib.hid hl; clear hl
    have HH := Lib.hid hheap; clear hheap
    clear hh hz
    by_cases hlt : k < 8 * s.size
    · have hltI : (k : Int) < 8 * s.size := by omega
      by_cases hc : 0 ≤ (k : Int) - at_ ∧ (k : Int) - at_ < 32 ∧ bs.testBit ((k : Int) - at_).toNat = true
      · obtain ⟨hc1, hc2, hc3⟩ := hc
        have hm : maskRef at_ bs (k + 1) = maskRef at_ bs k ^^^ 2 ^ k := by
          simp only [maskRef]; rw [if_pos ⟨hc1, hc2, hc3⟩]
        have Hm := Lib.hid hm
        have hj : k / 8 < l.length := by rw [Hl.out]; omega
        have hcell : wr.cell? ⟨w.heap.size, k / 8, none⟩ = some (.int .u8 (l[k / 8].toNat : Int)) := by
          rw [cell_of_row wr _ _ _ _ _ HH.out, rowOf_get _ _ _ hj]
        have hfr : wr.frozen? ⟨w.heap.size, k / 8, none⟩ = false := by
          simp [World.frozen?, HH.out]; omega
        have hc8 := l[k / 8].toNat_lt
        have hsz : k / 8 < s.size := by omega
        have hand := bit_rem bs ((k : Int) - at_).toNat
        rw [hc3] at hand
        simp only [Bool.toNat_true] at hand
        have hat : at_ ≤ k := by omega
        clear hm hc3
        go_wp2
        go_region
        go_wp2
        rw [xor_bit]
        have hh2 := heap_setCell_fr wr w.heap.size (k / 8) _ _ _ (.int .u8 ((l[k / 8] ^^^ UInt8.ofNat (2 ^ (k % 8))).toNat : Int)) HH.out
        rw [rowOf_set _ _ _ _ hj] at hh2
        refine ⟨⟨k + 1, l.set (k / 8) (l[k / 8] ^^^ UInt8.ofNat (2 ^ (k % 8))), by omega, by go_num, by rw [List.length_set]; exact Hl.out, ?_, (hbel.setCell (Nat.le_refl _) _).drew, hh2⟩, by simp [intOf]; omega⟩
        rw [V_set l (k / 8) _ hj, Hm.out, HV.out, bit_byte, pow_split, Nat.xor_assoc]
      · have hm : maskRef at_ bs (k + 1) = maskRef at_ bs k := by
          simp only [maskRef]; rw [if_neg hc]; simp
        have Hm := Lib.hid hm; clear hm
        by_cases hA : at_ ≤ k
        · by_cases hB : (k : Int) - at_ < 9223372036854775808
          · by_cases hC : (k : Int) - at_ < 32
            · have hb0 : bs.testBit ((k : Int) - at_).toNat = false := by
                cases hx : bs.testBit ((k : Int) - at_).toNat
                · rfl
                · exact absurd ⟨by omega, hC, hx⟩ hc
              have hand := bit_rem bs ((k : Int) - at_).toNat
              rw [hb0] at hand
              simp only [Bool.toNat_false] at hand
              have h0 : 0 ≤ (k : Int) - at_ := by omega
              clear hc hb0
              go_wp2
              exact ⟨⟨k + 1, l, by omega, by go_num, Hl.out, by rw [Hm.out]; exact HV.out, hbel, HH.out⟩, by simp [intOf]; omega⟩
            · have h0 : 0 ≤ (k : Int) - at_ := by omega
              clear hc
              go_wp2
              exact ⟨⟨k + 1, l, by omega, by go_num, Hl.out, by rw [Hm.out]; exact HV.out, hbel, HH.out⟩, by simp [intOf]; omega⟩
          · have hw : wrap64 ((k : Int) - at_) < 0 := by unfold wrap64; omega
            clear hc
            go_wp2
            exact ⟨⟨k + 1, l, by omega, by go_num, Hl.out, by rw [Hm.out]; exact HV.out, hbel, HH.out⟩, by simp [intOf]; omega⟩
        · clear hc
          go_wp2
          exact ⟨⟨k + 1, l, by omega, by go_num, Hl.out, by rw [Hm.out]; exact HV.out, hbel, HH.out⟩, by simp [intOf]; omega⟩
    · obtain rfl : k = 8 * s.size := by omega
      go_wp2_with (with_reducible refine wpList_mark (o := ⟨some 56, _, _, _, _, _⟩) ?_)
      refine Marked.intro ?_
      refine wpList_run rfl (exec_bytes_back _ 40 9 5 (.tmp 55) (by rfl) _ ⟨w.heap.size, 0, none⟩ s.size _ (by rfl) l Hl.out.symm Try.underlying40 Try.underlying5 Try.underlying9 ?_) ?_
      · intro j hj
        rw [Addr.add_lit, Nat.zero_add, cell_of_row wr _ _ _ _ _ HH.out, rowOf_get _ _ _ hj]
      · go_wp2
        go_ret
        refine ⟨?_, hbel⟩
        rw [flipL_of s.data.toList l at_ bs Hl.out (by rw [HV.out, ← mask_eq]; rfl)]; rfl
end Go.Proofs.Ytbgamoifmlofpaa
