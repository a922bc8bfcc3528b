/- The walk of the reference's sender's New. -/
import Derived.Test.YtcmgmdgeimmbeaaSenRef
namespace Go.Proofs.Ytcmgmdgeimmbeaa
open Go.RowKit Go.Sort
set_option linter.unusedVariables false
set_option linter.unusedSimpArgs false
theorem rows_three (w : World) (o1 o2 o3 : Obj) : (((w.alloc o1).alloc o2).alloc o3).heap[w.heap.size]? = some o1 ∧ (((w.alloc o1).alloc o2).alloc o3).heap[w.heap.size + 1]? = some o2 ∧ (((w.alloc o1).alloc o2).alloc o3).heap[w.heap.size + 2]? = some o3 ∧ (((w.alloc o1).alloc o2).alloc o3).heap.size = w.heap.size + 3 ∧ Below w.heap.size w (((w.alloc o1).alloc o2).alloc o3) := by
  have h1 : (w.alloc o1).heap.size = w.heap.size + 1 := by simp
  have h2 : ((w.alloc o1).alloc o2).heap.size = w.heap.size + 2 := by simp
  refine ⟨?_, ?_, ?_, by simp, (((Below.refl w.heap.size w).alloc (Nat.le_refl _) o1).alloc (by simp) o2).alloc (by simp; omega) o3⟩
  · rw [Below.heap_alloc _ _ _ (by rw [h2]; omega), Below.heap_alloc _ _ _ (by rw [h1]; omega)]; exact heap_alloc_new w o1
  · rw [Below.heap_alloc _ _ _ (by rw [h2]; omega), ← h1]; exact heap_alloc_new _ o2
  · rw [← h2]; exact heap_alloc_new _ o3
def RNewPost (ses ep : Int) (C : List ByteArray) (ad : Option Addr) (cap : Nat) (w : World) (e : Ending) (w' : World) : Prop :=
  ∃ r : Rs, e = .returned (.pointer (some ⟨r.g, 0, none⟩)) ∧ RfAt (Sn.start ses ep C) r w' ∧ Below w.heap.size w w' ∧ (∀ k ∈ r.all, w.heap.size ≤ k) ∧ r.ad = ad
theorem RNewPost.drew {ses ep : Int} {C : List ByteArray} {ad : Option Addr} {cap : Nat} {w w' : World} {e : Ending} (h : RNewPost ses ep C ad cap w e w') : RNewPost ses ep C ad cap w e w'.drew := by
  obtain ⟨r, h1, h2, h3, h4, h5⟩ := h
  exact ⟨r, h1, h2.keep (fun _ _ => rfl) (fun _ _ => rfl), h3.drew, h4, h5⟩
theorem rf_fin {w W : World} {ses ep : Int} {C : List ByteArray} {ad : Option Addr} {cap gi gt ga gn : Nat} (hgn : gn = W.heap.size) (hs : Strs C ad w) (h4 : 1 ≤ C.length) (h5 : C.length ≤ 256) (hb : Below w.heap.size w W)
    (hi : W.heap[gi]? = some (.cells (Array.replicate C.length (Value.bool false)) 4 (0, 0))) (ht : W.heap[gt]? = some (.cells (Array.replicate C.length (Value.int .i64 0)) 3 (0, 0))) (ha : W.heap[ga]? = some (.cells (Array.replicate C.length (Value.int .i64 0)) 3 (0, 0)))
    (l1 : w.heap.size ≤ gi) (l2 : w.heap.size ≤ gt) (l3 : w.heap.size ≤ ga) (n1 : gi ≠ gt) (n2 : gi ≠ ga) (n3 : gt ≠ ga) :
    RNewPost ses ep C ad cap w (.returned (.pointer (some ⟨gn, 0, none⟩))) (W.alloc (.cells #[.int .i64 ses, .int .i64 ep, .slice ad C.length cap, .slice (some ⟨gi, 0, none⟩) C.length C.length, .slice (some ⟨gt, 0, none⟩) C.length C.length, .slice (some ⟨ga, 0, none⟩) C.length C.length, .int .i64 0, .bool false] 59)) := by
  subst hgn
  have lt : ∀ {k : Nat} {o}, W.heap[k]? = some o → k < W.heap.size := fun {k o} e => (Array.getElem?_eq_some_iff.1 e).1
  have ol := fun k (hk : k < W.heap.size) => Below.heap_alloc W (.cells #[.int .i64 ses, .int .i64 ep, .slice ad C.length cap, .slice (some ⟨gi, 0, none⟩) C.length C.length, .slice (some ⟨gt, 0, none⟩) C.length C.length, .slice (some ⟨ga, 0, none⟩) C.length C.length, .int .i64 0, .bool false] 59) k hk
  have hcl := hs.block_lt h4
  have hsz := hb.size
  refine ⟨⟨W.heap.size, gi, C.length, gt, ga, ad, cap⟩, rfl, ⟨?_, ?_, ?_, ?_, ?_, ⟨by simp [Sn.start], by simp [Sn.start], by simp [Sn.start], fun j => ?_⟩, by simpa [Sn.start] using h4, by simpa [Sn.start] using h5, ?_, ?_⟩, hb.alloc hsz _, ?_, rfl⟩
  · rw [heap_alloc_new]
    simp [rfRow, Sn.start]
  · refine ⟨Array.replicate C.length (Value.bool false), (ol _ (lt hi)).trans hi, by simp, by simp [Sn.start], fun j b hj => ?_⟩
    rw [show (Sn.start ses ep C).B = List.replicate C.length false from rfl, List.getElem?_replicate] at hj
    split at hj
    · cases hj
      rename_i h
      simp [Array.getElem?_replicate, h]
    · cases hj
  · rw [show (⟨W.heap.size, gi, C.length, gt, ga, ad, cap⟩ : Rs).gt = gt from rfl, ol _ (lt ht), ht, show (Sn.start ses ep C).T = List.replicate C.length 0 from rfl, intsV_zero]
  · rw [show (⟨W.heap.size, gi, C.length, gt, ga, ad, cap⟩ : Rs).ga = ga from rfl, ol _ (lt ha), ha, show (Sn.start ses ep C).A = List.replicate C.length 0 from rfl, intsV_zero]
  · exact Strs.keep hs (fun a ha => (ol _ (Nat.lt_of_lt_of_le (hcl a ha) hsz)).trans (hb.block _ (hcl a ha)))
  · show (List.replicate C.length 0).getD j 0 ≤ 0
    rw [List.getD_eq_getElem?_getD, List.getElem?_replicate]; split <;> simp
  · have q1 := lt hi; have q2 := lt ht; have q3 := lt ha
    simp only [Rs.all, List.nodup_cons, List.mem_cons, List.not_mem_nil, or_false, not_or, List.nodup_nil, and_true, not_false_eq_true]
    omega
  · intro k hk a ha
    have := hcl a ha
    simp only [Rs.all, List.mem_cons, List.not_mem_nil, or_false] at hk
    rcases hk with rfl | rfl | rfl | rfl <;> (try simp only) <;> omega
  · intro k hk
    simp only [Rs.all, List.mem_cons, List.not_mem_nil, or_false] at hk
    rcases hk with rfl | rfl | rfl | rfl <;> (try simp only) <;> omega
set_option maxRecDepth 100000 in
set_option maxHeartbeats 4000000 in
theorem RNew_calls (w : World) (ses ep : Int) (C : List ByteArray) (ad : Option Addr) (cap : Nat) (h : Strs C ad w) (h4 : 1 ≤ C.length) (h5 : C.length ≤ 256) :
    Calls Try.prog 21 #[.int .i64 ses, .int .i64 ep, .slice ad C.length cap] w (RNewPost ses ep C ad cap w) := by
  have hmk : ∀ w : World, (Instr.makeSlice 57 (.int .i64 (C.length : Nat)) (.int .i64 (C.length : Nat))).run Try.prog w = .ok (.slice (some ⟨w.heap.size, 0, none⟩) C.length C.length) (w.alloc (.cells (Array.replicate C.length (Value.int .i64 0)) 3)) := fun w => by
    obtain ⟨i, hi1, hi2, hi3, hi4⟩ := info_parts info_i64
    have h := run_make (P := Try.prog) (w := w) 57 3 i (.int .i64 0) Try.underlying57 hi1 hi2 .i64 .i64 C.length C.length (by omega) (by omega) (by rw [hi4]; omega) (by omega)
    rw [show (Value.int .i64 0).cells = #[.int .i64 0] from rfl, hi3, Nat.mul_one, Int.toNat_natCast, madeCells_one, List.toArray_replicate] at h
    exact h
  have hmb : ∀ w : World, (Instr.makeSlice 56 (.int .i64 (C.length : Nat)) (.int .i64 (C.length : Nat))).run Try.prog w = .ok (.slice (some ⟨w.heap.size, 0, none⟩) C.length C.length) (w.alloc (.cells (Array.replicate C.length (Value.bool false)) 4)) := fun w => by
    obtain ⟨i, hi1, hi2, hi3, hi4⟩ := info_parts info_bool
    have h := run_make (P := Try.prog) (w := w) 56 4 i (.bool false) Try.underlying56 hi1 hi2 .i64 .i64 C.length C.length (by omega) (by omega) (by rw [hi4]; omega) (by omega)
    rw [show (Value.bool false).cells = #[.bool false] from rfl, hi3, Nat.mul_one, Int.toNat_natCast, madeCells_one, List.toArray_replicate] at h
    exact h
  have HS := Lib.hid h; clear h
  go_enter Try.func21, Try.ntmps21
  go_wp2_with fail
  go_region
  all_goals clear hmk hmb
  all_goals
    go_wp2
    go_ret
    first
    | (obtain ⟨r1, r2, r3, r4, r5⟩ := rows_three w (.cells (Array.replicate C.length (Value.bool false)) 4) (.cells (Array.replicate C.length (Value.int .i64 0)) 3) (.cells (Array.replicate C.length (Value.int .i64 0)) 3); exact RNewPost.drew (rf_fin (by rw [r4]) HS.out h4 h5 r5 r1 r2 r3 (by omega) (by omega) (by omega) (by omega) (by omega) (by omega)))
    | (obtain ⟨r1, r2, r3, r4, r5⟩ := rows_three w (.cells (Array.replicate C.length (Value.bool false)) 4) (.cells (Array.replicate C.length (Value.int .i64 0)) 3) (.cells (Array.replicate C.length (Value.int .i64 0)) 3); exact RNewPost.drew (rf_fin (by rw [r4]) HS.out h4 h5 r5 r1 r3 r2 (by omega) (by omega) (by omega) (by omega) (by omega) (by omega)))
    | (obtain ⟨r1, r2, r3, r4, r5⟩ := rows_three w (.cells (Array.replicate C.length (Value.int .i64 0)) 3) (.cells (Array.replicate C.length (Value.bool false)) 4) (.cells (Array.replicate C.length (Value.int .i64 0)) 3); exact RNewPost.drew (rf_fin (by rw [r4]) HS.out h4 h5 r5 r2 r1 r3 (by omega) (by omega) (by omega) (by omega) (by omega) (by omega)))
    | (obtain ⟨r1, r2, r3, r4, r5⟩ := rows_three w (.cells (Array.replicate C.length (Value.int .i64 0)) 3) (.cells (Array.replicate C.length (Value.bool false)) 4) (.cells (Array.replicate C.length (Value.int .i64 0)) 3); exact RNewPost.drew (rf_fin (by rw [r4]) HS.out h4 h5 r5 r2 r3 r1 (by omega) (by omega) (by omega) (by omega) (by omega) (by omega)))
    | (obtain ⟨r1, r2, r3, r4, r5⟩ := rows_three w (.cells (Array.replicate C.length (Value.int .i64 0)) 3) (.cells (Array.replicate C.length (Value.int .i64 0)) 3) (.cells (Array.replicate C.length (Value.bool false)) 4); exact RNewPost.drew (rf_fin (by rw [r4]) HS.out h4 h5 r5 r3 r1 r2 (by omega) (by omega) (by omega) (by omega) (by omega) (by omega)))
    | (obtain ⟨r1, r2, r3, r4, r5⟩ := rows_three w (.cells (Array.replicate C.length (Value.int .i64 0)) 3) (.cells (Array.replicate C.length (Value.int .i64 0)) 3) (.cells (Array.replicate C.length (Value.bool false)) 4); exact RNewPost.drew (rf_fin (by rw [r4]) HS.out h4 h5 r5 r3 r2 r1 (by omega) (by omega) (by omega) (by omega) (by omega) (by omega)))
end Go.Proofs.Ytcmgmdgeimmbeaa
