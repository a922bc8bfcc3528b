/- The walks of frame.Read and of the reference's Read. -/
import Derived.Test.YtbpamegfohcbmaaFramePrint
import Derived.Deep.RegionLaw
namespace Go.Proofs.Ytbpamegfohcbmaa
open Go.RowKit
set_option linter.unusedVariables false
set_option linter.unusedSimpArgs false
theorem results_cell_tmp {fn : Func} {t u : Tmp} {T : TypeId} (h : fn.results = #[.cell t T, .tmp u]) (tmps : Array Value) (P : Program) (w : World) (ad : Addr) (v : Value) (ht : tmps[t]? = some (.pointer (some ad))) (hl : (loadVar T ad).run P w = .ok v w) :
    (results fn tmps).run P w = .ok (.tuple #[v, tmps.getD u undef]) w := by
  simp [results, h, ht, asAddr, hl]
/-- The fields that opened bytes tell. -/
def readFr (t : ByteArray) : Fr := ⟨((t.data.toList.headD 0).toNat : Nat), (bev (t.extract 1 5).data.toList : Nat), (bev (t.extract 5 9).data.toList : Nat), (bev (t.extract 9 11).data.toList : Nat), (bev (t.extract 11 13).data.toList : Nat), t.extract 15 t.size⟩
/-- What Read answers. -/
def readB (s : ByteArray) : Fr × Nat :=
  if s.size < 19 then (Fr.zero, 3)
  else if s.size ≠ 19 + bev (s.extract 13 15).data.toList then (Fr.zero, 4)
  else if (openB s).2 ≠ 0 then (Fr.zero, 5)
  else if (readFr (openB s).1).ok then (readFr (openB s).1, 0) else (Fr.zero, 1)
theorem ext4 (s : ByteArray) (a b : Nat) (h : b ≤ a + 4) : (s.extract a b).size ≤ 4 := by rw [ByteArray.size_extract]; omega
theorem load23 (w : World) (g : Nat) (t : TypeId) (cs : Array Value) (fr : Nat × Nat) (hsz : cs.size = 6) (hg : w.heap[g]? = some (.cells cs t fr)) :
    (loadVar 23 ⟨g, 0, none⟩).run Try.prog w = .ok (.agg cs) w :=
  run_loadVar_row w g t _ cs fr _ hg Try.underlying23 rfl (by rw [hsz]; kernel_rfl)
theorem val_cells (f : Fr) : f.val = .agg #[.int .i64 f.k, .int .i64 f.s, .int .i64 f.e, .int .i64 f.i, .int .i64 f.t, .string f.d] := rfl
set_option maxRecDepth 100000 in
set_option maxHeartbeats 4000000 in
theorem Read_short (w : World) (s : ByteArray) (hs : s.size < 19) :
   Calls Try.prog 12 #[.string s] w fun e w' => e = .returned (.tuple #[(readB s).1.val, .int .i64 ((readB s).2 : Nat)]) ∧ Below w.heap.size w w' := by
  have hR : readB s = (Fr.zero, 3) := by unfold readB; rw [if_pos hs]
  rw [hR]
  clear hR
  have hb := (Below.refl w.heap.size w).alloc (Nat.le_refl _) (.cells #[.int .i64 0, .int .i64 0, .int .i64 0, .int .i64 0, .int .i64 0, .string ⟨#[]⟩] 23)
  go_enter Try.func12, Try.ntmps12
  go_wp2
  refine bodyPost_ret (results_cell_tmp rfl _ _ _ ⟨w.heap.size, 0, none⟩ _ rfl (load23 _ _ _ _ _ rfl (heap_alloc_new _ _))) rfl ?_
  exact ⟨rfl, hb⟩
set_option maxRecDepth 100000 in
set_option maxHeartbeats 4000000 in
theorem Read_form (w : World) (s : ByteArray) (hs : ¬ s.size < 19) (hl : s.size ≤ 140737488351232) (hn : s.size ≠ 19 + bev (s.extract 13 15).data.toList) :
   Calls Try.prog 12 #[.string s] w fun e w' => e = .returned (.tuple #[(readB s).1.val, .int .i64 ((readB s).2 : Nat)]) ∧ Below w.heap.size w w' := by
  have hR : readB s = (Fr.zero, 4) := by unfold readB; rw [if_neg hs, if_pos hn]
  rw [hR]
  clear hR
  have hb := (Below.refl w.heap.size w).alloc (Nat.le_refl _) (.cells #[.int .i64 0, .int .i64 0, .int .i64 0, .int .i64 0, .int .i64 0, .string ⟨#[]⟩] 23)
  have hv := bev_lt (s.extract 13 15).data.toList
  have hx : (s.extract 13 15).size = 2 := by rw [ByteArray.size_extract]; omega
  have hx2 : (s.extract 13 15).data.toList.length = 2 := hx
  rw [hx2] at hv
  have hN := fun w => number_calls w (s.extract 13 15) (by omega)
  generalize bev (s.extract 13 15).data.toList = m at *
  have HN := Lib.hid hN; clear hN hx hx2
  have hne : ((s.size : Int) == 19 + (m : Int)) = false := by simp; omega
  clear hn
  go_enter Try.func12, Try.ntmps12
  go_wp2_with fail
  with_reducible refine (HN.out _).mono ?_
  rintro e w1 ⟨rfl, rfl⟩
  go_wp2
  refine bodyPost_ret (results_cell_tmp rfl _ _ _ ⟨w.heap.size, 0, none⟩ _ rfl (load23 _ _ _ _ _ rfl (heap_alloc_new _ _))) rfl ?_
  exact ⟨rfl, hb⟩
theorem open_codes (s : ByteArray) (hs : ¬ s.size < 19) : ((openB s).2 = 5 ∧ (openB s).1 = ⟨#[]⟩) ∨ ((openB s).2 = 0 ∧ (openB s).1 = s.extract 0 (s.size - 4)) := by
  unfold openB
  rw [if_neg (by omega)]
  split
  · exact Or.inr ⟨rfl, rfl⟩
  · exact Or.inl ⟨rfl, rfl⟩
set_option maxRecDepth 100000 in
set_option maxHeartbeats 4000000 in
theorem Read_sum (w : World) (s : ByteArray) (hs : ¬ s.size < 19) (hl : s.size ≤ 140737488351232) (hn : s.size = 19 + bev (s.extract 13 15).data.toList) (h5 : (openB s).2 = 5) :
   Calls Try.prog 12 #[.string s] w fun e w' => e = .returned (.tuple #[(readB s).1.val, .int .i64 ((readB s).2 : Nat)]) ∧ Below w.heap.size w w' := by
  have hR : readB s = (Fr.zero, 5) := by unfold readB; rw [if_neg hs, if_neg (by omega), if_pos (by omega)]
  rw [hR]
  clear hR
  have hb := (Below.refl w.heap.size w).alloc (Nat.le_refl _) (.cells #[.int .i64 0, .int .i64 0, .int .i64 0, .int .i64 0, .int .i64 0, .string ⟨#[]⟩] 23)
  have hA := heap_alloc_new w (.cells #[.int .i64 0, .int .i64 0, .int .i64 0, .int .i64 0, .int .i64 0, .string ⟨#[]⟩] 23)
  have hx : (s.extract 13 15).size = 2 := by rw [ByteArray.size_extract]; omega
  have hN := fun w => number_calls w (s.extract 13 15) (by omega)
  have hO := fun w => Open_calls w s hl
  rw [h5] at hO
  have hv := bev_lt (s.extract 13 15).data.toList
  have hx2 : (s.extract 13 15).data.toList.length = 2 := hx
  rw [hx2] at hv
  generalize bev (s.extract 13 15).data.toList = m at *
  have HN := Lib.hid hN; clear hN hx hx2
  have HO := Lib.hid hO; clear hO h5
  have hne : ((s.size : Int) == 19 + (m : Int)) = true := by simp; omega
  have Hn := Lib.hid hn; clear hn
  go_enter Try.func12, Try.ntmps12
  go_wp2_with fail
  with_reducible refine (HN.out _).mono ?_
  rintro e w1 ⟨rfl, rfl⟩
  go_wp2_with fail
  with_reducible refine (HO.out _).mono ?_
  rintro e w1 ⟨rfl, hb1⟩
  have hA1 := (hb1.block w.heap.size (by simp)).trans hA
  have hbB := bn hb hb1
  have hc : ∀ j v, (#[.int .i64 0, .int .i64 0, .int .i64 0, .int .i64 0, .int .i64 0, .string ⟨#[]⟩] : Array Value)[j]? = some v → w1.cell? ⟨w.heap.size, j, none⟩ = some v := fun j v h => (cell_of_row _ _ j _ _ _ hA1).trans h
  have hf : ∀ j, w1.frozen? ⟨w.heap.size, j, none⟩ = false := fun j => by simp [World.frozen?, hA1]
  clear hA hb hb1
  go_wp2_with (with_reducible refine wpList_mark (o := ⟨some 27, _, _, _, _, _⟩) ?_)
  refine Marked.intro ?_
  refine wpList_run rfl (exec_load_row _ 23 (.tmp 2) (by rfl) w1 w.heap.size _ _ _ (by rfl) _ Try.underlying23 rfl (by kernel_rfl) hA1) ?_
  go_wp2_with (with_reducible refine wpList_mark (o := ⟨none, .store _ _ _, _, _, _, _⟩) ?_)
  refine Marked.intro ?_
  refine wpList_do rfl (exec_store_row _ 23 (.tmp 2) (.tmp 27) (by rfl) w1 w.heap.size _ _ _ (by rfl) (by rfl) (by kernel_rfl) rfl (by simp [Value.oneCell']) hA1) ?_
  rw [setRow_self _ _ _ _ _ hA1]
  go_wp2
  refine bodyPost_ret (results_cell_tmp rfl _ _ _ ⟨w.heap.size, 0, none⟩ _ rfl (load23 _ _ _ _ _ rfl hA1)) rfl ?_
  exact ⟨rfl, hbB⟩
end Go.Proofs.Ytbpamegfohcbmaa
