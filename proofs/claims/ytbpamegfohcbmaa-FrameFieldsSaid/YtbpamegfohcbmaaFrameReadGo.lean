/- The walk of frame.Read where the bytes are sealed, and all of it. -/
import Derived.Test.YtbpamegfohcbmaaFrameRead
import Derived.Test.YtbpamegfohcbmaaQuietAlloc
namespace Go.Proofs.Ytbpamegfohcbmaa
open Go.RowKit
attribute [local go_sem] Lib.two Lib.twoUpon_value Lib.twoUpon_skip Lib.twoUpon_enter
set_option linter.unusedVariables false
set_option linter.unusedSimpArgs false
set_option maxRecDepth 100000 in
set_option maxHeartbeats 4000000 in
theorem Read_go (w : World) (s t : ByteArray) (hs : ¬ s.size < 19) (hl : s.size ≤ 140737488351232) (hn : s.size = 19 + bev (s.extract 13 15).data.toList) (h0 : openB s = (t, 0)) :
   Calls Try.prog 12 #[.string s] w fun e w' => e = .returned (.tuple #[(readB s).1.val, .int .i64 ((readB s).2 : Nat)]) ∧ Below w.heap.size w w' := by
  have hts : t.size + 4 = s.size := by
    rcases open_codes s hs with ⟨h1, -⟩ | ⟨-, h1⟩
    · rw [h0] at h1; cases h1
    · rw [h0] at h1
      show t.size + 4 = _
      rw [show t = s.extract 0 (s.size - 4) from h1, ByteArray.size_extract]; omega
  have hR : readB s = if (readFr t).ok then (readFr t, 0) else (Fr.zero, 1) := by unfold readB; rw [if_neg hs, if_neg (by omega), h0, if_neg (fun h => h rfl)]
  rw [hR]
  clear hR
  have hb := (Below.refl w.heap.size w).alloc (Nat.le_refl _) (.cells #[.int .i64 0, .int .i64 0, .int .i64 0, .int .i64 0, .int .i64 0, .string ⟨#[]⟩] 23)
  have hA := heap_alloc_new w (.cells #[.int .i64 0, .int .i64 0, .int .i64 0, .int .i64 0, .int .i64 0, .string ⟨#[]⟩] 23)
  have hx : (s.extract 13 15).size = 2 := by rw [ByteArray.size_extract]; omega
  have hN := fun w => number_calls w (s.extract 13 15) (by omega)
  have hO := fun w => Open_calls w s hl
  rw [h0] at hO
  have hv := bev_lt (s.extract 13 15).data.toList
  have hx2 : (s.extract 13 15).data.toList.length = 2 := hx
  rw [hx2] at hv
  generalize bev (s.extract 13 15).data.toList = m at *
  have HN := Lib.hid hN; clear hN hx hx2
  have HO := Lib.hid hO; clear hO h0
  have hne : ((s.size : Int) == 19 + (m : Int)) = true := by simp; omega
  have Hn := Lib.hid hn; clear hn
  have hF : readFr t = ⟨((t.data.toList.headD 0).toNat : Nat), (bev (t.extract 1 5).data.toList : Nat), (bev (t.extract 5 9).data.toList : Nat), (bev (t.extract 9 11).data.toList : Nat), (bev (t.extract 11 13).data.toList : Nat), t.extract 15 t.size⟩ := rfl
  have n1 := fun w => (number_calls w (t.extract 1 5) (ext4 _ _ _ (by omega))).mono fun e w' (h : e = _ ∧ w = w') => (⟨h.1, h.2.symm⟩ : e = _ ∧ w' = w)
  have n2 := fun w => (number_calls w (t.extract 5 9) (ext4 _ _ _ (by omega))).mono fun e w' (h : e = _ ∧ w = w') => (⟨h.1, h.2.symm⟩ : e = _ ∧ w' = w)
  have n3 := fun w => (number_calls w (t.extract 9 11) (ext4 _ _ _ (by omega))).mono fun e w' (h : e = _ ∧ w = w') => (⟨h.1, h.2.symm⟩ : e = _ ∧ w' = w)
  have n4 := fun w => (number_calls w (t.extract 11 13) (ext4 _ _ _ (by omega))).mono fun e w' (h : e = _ ∧ w = w') => (⟨h.1, h.2.symm⟩ : e = _ ∧ w' = w)
  generalize bev (t.extract 1 5).data.toList = b1 at *
  generalize bev (t.extract 5 9).data.toList = b2 at *
  generalize bev (t.extract 9 11).data.toList = b3 at *
  generalize bev (t.extract 11 13).data.toList = b4 at *
  have N1 := Lib.hid n1; clear n1
  have N2 := Lib.hid n2; clear n2
  have N3 := Lib.hid n3; clear n3
  have N4 := Lib.hid n4; clear n4
  have ht15 : 15 ≤ t.size := by omega
  have ht0 : 0 < t.size := by omega
  have h0d : (t.data.toList.headD 0).toNat = t[0].toNat := by
    have h1 : 0 < t.data.toList.length := ht0
    show _ = (t.data.toList[0]'h1).toNat
    match hl : t.data.toList, h1 with
    | c :: r, _ => simp [hl]
  rw [h0d] at hF
  rw [hF]; clear hF h0d
  have hR := fun w => Right_calls w ⟨(t[0].toNat : Nat), (b1 : Nat), (b2 : Nat), (b3 : Nat), (b4 : Nat), t.extract 15 t.size⟩
  have i5 : (5 : Int) ≤ (t.size : Int) := by omega
  have i9 : (9 : Int) ≤ (t.size : Int) := by omega
  have i11 : (11 : Int) ≤ (t.size : Int) := by omega
  have i13 : (13 : Int) ≤ (t.size : Int) := by omega
  have i15 : (15 : Int) ≤ (t.size : Int) := by omega
  have hw0 : IntKind.i64.wrap ((t[0].toNat : Nat) : Int) = ((t[0].toNat : Nat) : Int) := IntWalk.i64_in _ (by have := t[0].toNat_lt; omega)
  obtain ⟨td, htd⟩ : ∃ td, t.extract 15 t.size = td := ⟨_, rfl⟩
  obtain ⟨c0, hc0⟩ : ∃ c0, t[0].toNat = c0 := ⟨_, rfl⟩
  rw [hc0] at hw0 hR
  rw [htd] at hR
  rw [hc0, htd]
  rw [← hc0] at hw0
  have hw1 : IntKind.i64.wrap ((t[0].toNat : Nat) : Int) = (c0 : Int) := by rw [hw0, hc0]
  clear hw0 hc0
  by_cases hok : (⟨(c0 : Nat), (b1 : Nat), (b2 : Nat), (b3 : Nat), (b4 : Nat), td⟩ : Fr).ok
  · rw [if_pos hok]
    rw [decide_eq_true hok] at hR
    simp only [Fr.val] at hR
    have HRt := Lib.hid hR; clear hR hok
    go_enter Try.func12, Try.ntmps12
    go_wp2_with fail
    with_reducible refine (HN.out _).mono ?_
    rintro e w1 ⟨rfl, rfl⟩
    go_wp2_with fail
    refine (HO.out _).mono ?_
    rintro e w1 ⟨rfl, hb1⟩
    have hA1 := (hb1.block w.heap.size (by simp)).trans hA
    have hbB := bn hb hb1
    clear hA hb hb1
    go_wp2_with fail
    refine Lib.wp_region_make_tail 18 19 (w1.drew.alloc (.cells #[.int .i64 0, .int .i64 0, .int .i64 0, .int .i64 0, .int .i64 0, .string ⟨#[]⟩] 23)) (by kernel_rfl) (by omega) (by kernel_rfl) ?_
    simp only [List.take_succ_cons, List.take_zero, List.drop_succ_cons, List.drop_zero]
    refine Lib.wpYL_step (by decide) (fun K hK => ?_); go_simp; refine hK _ ?_; clear hK K
    refine Lib.wpYL_step (by decide) (fun K hK => ?_); go_simp; refine hK _ ?_; clear hK K
    refine Lib.wpYL_step (by decide) (fun K hK => ?_); go_simp; refine hK _ ?_; clear hK K
    refine Lib.wpYL_step (by decide) (fun K hK => ?_); go_simp; refine hK _ ?_; clear hK K
    refine Lib.wpYL_step (by decide) (fun K hK => ?_); go_simp; refine hK _ ?_; clear hK K
    refine Lib.wpYL_step (by decide) (fun K hK => ?_); go_simp; refine ⟨_, ⟨N1.out _, N1.out _⟩, hK _ ?_⟩; clear hK K
    refine Lib.wpYL_step (by decide) (fun K hK => ?_); go_simp; refine hK _ ?_; clear hK K
    refine Lib.wpYL_step (by decide) (fun K hK => ?_); go_simp; refine hK _ ?_; clear hK K
    refine Lib.wpYL_step (by decide) (fun K hK => ?_); go_simp; refine ⟨_, ⟨N2.out _, N2.out _⟩, hK _ ?_⟩; clear hK K
    refine Lib.wpYL_step (by decide) (fun K hK => ?_); go_simp; refine hK _ ?_; clear hK K
    refine Lib.wpYL_step (by decide) (fun K hK => ?_); go_simp; refine hK _ ?_; clear hK K
    refine Lib.wpYL_step (by decide) (fun K hK => ?_); go_simp; refine ⟨_, ⟨N3.out _, N3.out _⟩, hK _ ?_⟩; clear hK K
    refine Lib.wpYL_step (by decide) (fun K hK => ?_); go_simp; refine hK _ ?_; clear hK K
    refine Lib.wpYL_step (by decide) (fun K hK => ?_); go_simp; refine hK _ ?_; clear hK K
    refine Lib.wpYL_step (by decide) (fun K hK => ?_); go_simp; refine ⟨_, ⟨N4.out _, N4.out _⟩, hK _ ?_⟩; clear hK K
    refine Lib.wpYL_step (by decide) (fun K hK => ?_); go_simp; refine hK _ ?_; clear hK K
    refine Lib.wpYL_step (by decide) (fun K hK => ?_); go_simp; refine hK _ ?_; clear hK K
    refine Lib.wpYL_step (by decide) (fun K hK => ?_); go_simp; refine hK _ ?_; clear hK K
    refine Lib.wpYL_make (v := .pointer (some ⟨w1.heap.size, 0, none⟩)) rfl rfl (by rfl) ?_
    refine Lib.wpYL_nil ?_
    clear N1 N2 N3 N4 i5 i9 i11 i13 i15 hw1 htd
    have hG := heap_alloc_new w1.drew (.cells #[.int .i64 0, .int .i64 0, .int .i64 0, .int .i64 0, .int .i64 0, .string ⟨#[]⟩] 23)
    change (w1.drew.alloc (.cells #[.int .i64 0, .int .i64 0, .int .i64 0, .int .i64 0, .int .i64 0, .string ⟨#[]⟩] 23)).heap[w1.heap.size]? = _ at hG
    refine wpList_do rfl (exec_store_row _ 23 (.tmp 5) (.tmp 46) (by rfl) _ w1.heap.size 23 #[.int .i64 c0, .int .i64 b1, .int .i64 b2, .int .i64 b3, .int .i64 b4, .string td] #[.int .i64 0, .int .i64 0, .int .i64 0, .int .i64 0, .int .i64 0, .string ⟨#[]⟩] (by rfl) (by rfl) (by kernel_rfl) rfl (by simp [Value.oneCell']) hG) ?_
    have hlt : w.heap.size < w1.heap.size := (Array.getElem?_eq_some_iff.1 hA1).1
    have hne2 : w.heap.size ≠ w1.heap.size := by omega
    rw [show (w1.drew.alloc (.cells #[.int .i64 0, .int .i64 0, .int .i64 0, .int .i64 0, .int .i64 0, .string ⟨#[]⟩] 23)).setRow w1.heap.size #[.int .i64 c0, .int .i64 b1, .int .i64 b2, .int .i64 b3, .int .i64 b4, .string td] = w1.drew.alloc (.cells #[.int .i64 c0, .int .i64 b1, .int .i64 b2, .int .i64 b3, .int .i64 b4, .string td] 23) from setRow_alloc w1.drew _ _ _]
    clear hG
    have hG := heap_alloc_new w1.drew (.cells #[.int .i64 c0, .int .i64 b1, .int .i64 b2, .int .i64 b3, .int .i64 b4, .string td] 23)
    change (w1.drew.alloc (.cells #[.int .i64 c0, .int .i64 b1, .int .i64 b2, .int .i64 b3, .int .i64 b4, .string td] 23)).heap[w1.heap.size]? = _ at hG
    have hA2 := (Below.heap_alloc w1.drew (.cells #[.int .i64 c0, .int .i64 b1, .int .i64 b2, .int .i64 b3, .int .i64 b4, .string td] 23) w.heap.size hlt).trans (show w1.drew.heap[w.heap.size]? = _ from hA1)
    have hb2 := hbB.drew.alloc hbB.drew.size (.cells #[.int .i64 c0, .int .i64 b1, .int .i64 b2, .int .i64 b3, .int .i64 b4, .string td] 23)
    generalize w1.drew.alloc (.cells #[.int .i64 c0, .int .i64 b1, .int .i64 b2, .int .i64 b3, .int .i64 b4, .string td] 23) = w2 at *
    generalize w1.heap.size = G at *
    clear hbB hA1 hlt
    go_wp2_with (with_reducible refine wpList_mark (o := ⟨some 47, _, _, _, _, _⟩) ?_)
    refine Marked.intro ?_
    refine wpList_run rfl (exec_load_row _ 23 (.tmp 5) (by rfl) w2 G _ _ _ (by rfl) _ Try.underlying23 rfl (by kernel_rfl) hG) ?_
    go_wp2_with fail
    with_reducible refine (HRt.out _).mono ?_
    rintro e w3 ⟨rfl, hb3⟩
    have hG3 := (hb3.block G ((Array.getElem?_eq_some_iff.1 hG).1)).trans hG
    have hA3 := (hb3.block w.heap.size ((Array.getElem?_eq_some_iff.1 hA2).1)).trans hA2
    have hbC := bn hb2 hb3
    clear hG hA2 hb2 hb3
    go_wp2_with (with_reducible refine wpList_mark (o := ⟨some 51, _, _, _, _, _⟩) ?_)
    refine Marked.intro ?_
    refine wpList_run rfl (exec_load_row _ 23 (.tmp 5) (by rfl) w3 G _ _ _ (by rfl) _ Try.underlying23 rfl (by kernel_rfl) hG3) ?_
    go_wp2_with (with_reducible refine wpList_mark (o := ⟨none, .store _ _ _, _, _, _, _⟩) ?_)
    refine Marked.intro ?_
    refine wpList_do rfl (exec_store_row _ 23 (.tmp 2) (.tmp 51) (by rfl) w3 w.heap.size 23 #[.int .i64 c0, .int .i64 b1, .int .i64 b2, .int .i64 b3, .int .i64 b4, .string td] #[.int .i64 0, .int .i64 0, .int .i64 0, .int .i64 0, .int .i64 0, .string ⟨#[]⟩] (by rfl) (by rfl) (by kernel_rfl) rfl (by simp [Value.oneCell']) hA3) ?_
    have hA4 := setRow_heap w3 w.heap.size _ #[.int .i64 c0, .int .i64 b1, .int .i64 b2, .int .i64 b3, .int .i64 b4, .string td] _ _ hA3
    have hbD : Below w.heap.size w (w3.setRow w.heap.size #[.int .i64 c0, .int .i64 b1, .int .i64 b2, .int .i64 b3, .int .i64 b4, .string td]) := hbC.trans ⟨rfl, rfl, rfl, by simp, fun k hk => setRow_other w3 _ k _ (by omega)⟩
    clear hbC hA3 hG3
    generalize w3.setRow w.heap.size #[.int .i64 c0, .int .i64 b1, .int .i64 b2, .int .i64 b3, .int .i64 b4, .string td] = w4 at *
    go_wp2
    refine bodyPost_ret (results_cell_tmp rfl _ _ _ ⟨w.heap.size, 0, none⟩ _ rfl (load23 _ _ _ _ _ rfl hA4)) rfl ?_
    exact ⟨rfl, hbD⟩
  · rw [if_neg hok]
    rw [decide_eq_false hok] at hR
    simp only [Fr.val] at hR
    have HRt := Lib.hid hR; clear hR hok
    go_enter Try.func12, Try.ntmps12
    go_wp2_with fail
    with_reducible refine (HN.out _).mono ?_
    rintro e w1 ⟨rfl, rfl⟩
    go_wp2_with fail
    refine (HO.out _).mono ?_
    rintro e w1 ⟨rfl, hb1⟩
    have hA1 := (hb1.block w.heap.size (by simp)).trans hA
    have hbB := bn hb hb1
    clear hA hb hb1
    go_wp2_with fail
    refine Lib.wp_region_make_tail 18 19 (w1.drew.alloc (.cells #[.int .i64 0, .int .i64 0, .int .i64 0, .int .i64 0, .int .i64 0, .string ⟨#[]⟩] 23)) (by kernel_rfl) (by omega) (by kernel_rfl) ?_
    simp only [List.take_succ_cons, List.take_zero, List.drop_succ_cons, List.drop_zero]
    refine Lib.wpYL_step (by decide) (fun K hK => ?_); go_simp; refine hK _ ?_; clear hK K
    refine Lib.wpYL_step (by decide) (fun K hK => ?_); go_simp; refine hK _ ?_; clear hK K
    refine Lib.wpYL_step (by decide) (fun K hK => ?_); go_simp; refine hK _ ?_; clear hK K
    refine Lib.wpYL_step (by decide) (fun K hK => ?_); go_simp; refine hK _ ?_; clear hK K
    refine Lib.wpYL_step (by decide) (fun K hK => ?_); go_simp; refine hK _ ?_; clear hK K
    refine Lib.wpYL_step (by decide) (fun K hK => ?_); go_simp; refine ⟨_, ⟨N1.out _, N1.out _⟩, hK _ ?_⟩; clear hK K
    refine Lib.wpYL_step (by decide) (fun K hK => ?_); go_simp; refine hK _ ?_; clear hK K
    refine Lib.wpYL_step (by decide) (fun K hK => ?_); go_simp; refine hK _ ?_; clear hK K
    refine Lib.wpYL_step (by decide) (fun K hK => ?_); go_simp; refine ⟨_, ⟨N2.out _, N2.out _⟩, hK _ ?_⟩; clear hK K
    refine Lib.wpYL_step (by decide) (fun K hK => ?_); go_simp; refine hK _ ?_; clear hK K
    refine Lib.wpYL_step (by decide) (fun K hK => ?_); go_simp; refine hK _ ?_; clear hK K
    refine Lib.wpYL_step (by decide) (fun K hK => ?_); go_simp; refine ⟨_, ⟨N3.out _, N3.out _⟩, hK _ ?_⟩; clear hK K
    refine Lib.wpYL_step (by decide) (fun K hK => ?_); go_simp; refine hK _ ?_; clear hK K
    refine Lib.wpYL_step (by decide) (fun K hK => ?_); go_simp; refine hK _ ?_; clear hK K
    refine Lib.wpYL_step (by decide) (fun K hK => ?_); go_simp; refine ⟨_, ⟨N4.out _, N4.out _⟩, hK _ ?_⟩; clear hK K
    refine Lib.wpYL_step (by decide) (fun K hK => ?_); go_simp; refine hK _ ?_; clear hK K
    refine Lib.wpYL_step (by decide) (fun K hK => ?_); go_simp; refine hK _ ?_; clear hK K
    refine Lib.wpYL_step (by decide) (fun K hK => ?_); go_simp; refine hK _ ?_; clear hK K
    refine Lib.wpYL_make (v := .pointer (some ⟨w1.heap.size, 0, none⟩)) rfl rfl (by rfl) ?_
    refine Lib.wpYL_nil ?_
    clear N1 N2 N3 N4 i5 i9 i11 i13 i15 hw1 htd
    have hG := heap_alloc_new w1.drew (.cells #[.int .i64 0, .int .i64 0, .int .i64 0, .int .i64 0, .int .i64 0, .string ⟨#[]⟩] 23)
    change (w1.drew.alloc (.cells #[.int .i64 0, .int .i64 0, .int .i64 0, .int .i64 0, .int .i64 0, .string ⟨#[]⟩] 23)).heap[w1.heap.size]? = _ at hG
    refine wpList_do rfl (exec_store_row _ 23 (.tmp 5) (.tmp 46) (by rfl) _ w1.heap.size 23 #[.int .i64 c0, .int .i64 b1, .int .i64 b2, .int .i64 b3, .int .i64 b4, .string td] #[.int .i64 0, .int .i64 0, .int .i64 0, .int .i64 0, .int .i64 0, .string ⟨#[]⟩] (by rfl) (by rfl) (by kernel_rfl) rfl (by simp [Value.oneCell']) hG) ?_
    have hlt : w.heap.size < w1.heap.size := (Array.getElem?_eq_some_iff.1 hA1).1
    have hne2 : w.heap.size ≠ w1.heap.size := by omega
    rw [show (w1.drew.alloc (.cells #[.int .i64 0, .int .i64 0, .int .i64 0, .int .i64 0, .int .i64 0, .string ⟨#[]⟩] 23)).setRow w1.heap.size #[.int .i64 c0, .int .i64 b1, .int .i64 b2, .int .i64 b3, .int .i64 b4, .string td] = w1.drew.alloc (.cells #[.int .i64 c0, .int .i64 b1, .int .i64 b2, .int .i64 b3, .int .i64 b4, .string td] 23) from setRow_alloc w1.drew _ _ _]
    clear hG
    have hG := heap_alloc_new w1.drew (.cells #[.int .i64 c0, .int .i64 b1, .int .i64 b2, .int .i64 b3, .int .i64 b4, .string td] 23)
    change (w1.drew.alloc (.cells #[.int .i64 c0, .int .i64 b1, .int .i64 b2, .int .i64 b3, .int .i64 b4, .string td] 23)).heap[w1.heap.size]? = _ at hG
    have hA2 := (Below.heap_alloc w1.drew (.cells #[.int .i64 c0, .int .i64 b1, .int .i64 b2, .int .i64 b3, .int .i64 b4, .string td] 23) w.heap.size hlt).trans (show w1.drew.heap[w.heap.size]? = _ from hA1)
    have hb2 := hbB.drew.alloc hbB.drew.size (.cells #[.int .i64 c0, .int .i64 b1, .int .i64 b2, .int .i64 b3, .int .i64 b4, .string td] 23)
    generalize w1.drew.alloc (.cells #[.int .i64 c0, .int .i64 b1, .int .i64 b2, .int .i64 b3, .int .i64 b4, .string td] 23) = w2 at *
    generalize w1.heap.size = G at *
    clear hbB hA1 hlt
    go_wp2_with (with_reducible refine wpList_mark (o := ⟨some 47, _, _, _, _, _⟩) ?_)
    refine Marked.intro ?_
    refine wpList_run rfl (exec_load_row _ 23 (.tmp 5) (by rfl) w2 G _ _ _ (by rfl) _ Try.underlying23 rfl (by kernel_rfl) hG) ?_
    go_wp2_with fail
    with_reducible refine (HRt.out _).mono ?_
    rintro e w3 ⟨rfl, hb3⟩
    have hG3 := (hb3.block G ((Array.getElem?_eq_some_iff.1 hG).1)).trans hG
    have hA3 := (hb3.block w.heap.size ((Array.getElem?_eq_some_iff.1 hA2).1)).trans hA2
    have hbC := bn hb2 hb3
    clear hG hA2 hb2 hb3
    go_wp2_with (with_reducible refine wpList_mark (o := ⟨some 50, _, _, _, _, _⟩) ?_)
    refine Marked.intro ?_
    refine wpList_run rfl (exec_load_row _ 23 (.tmp 2) (by rfl) w3 w.heap.size _ _ _ (by rfl) _ Try.underlying23 rfl (by kernel_rfl) hA3) ?_
    go_wp2_with (with_reducible refine wpList_mark (o := ⟨none, .store _ _ _, _, _, _, _⟩) ?_)
    refine Marked.intro ?_
    refine wpList_do rfl (exec_store_row _ 23 (.tmp 2) (.tmp 50) (by rfl) w3 w.heap.size 23 #[.int .i64 0, .int .i64 0, .int .i64 0, .int .i64 0, .int .i64 0, .string ⟨#[]⟩] #[.int .i64 0, .int .i64 0, .int .i64 0, .int .i64 0, .int .i64 0, .string ⟨#[]⟩] (by rfl) (by rfl) (by kernel_rfl) rfl (by simp [Value.oneCell']) hA3) ?_
    rw [setRow_self _ _ _ _ _ hA3]
    go_wp2
    refine bodyPost_ret (results_cell_tmp rfl _ _ _ ⟨w.heap.size, 0, none⟩ _ rfl (load23 _ _ _ _ _ rfl hA3)) rfl ?_
    exact ⟨rfl, hbC⟩
theorem Read_calls (w : World) (s : ByteArray) (hl : s.size ≤ 140737488351232) :
   Calls Try.prog 12 #[.string s] w fun e w' => e = .returned (.tuple #[(readB s).1.val, .int .i64 ((readB s).2 : Nat)]) ∧ Below w.heap.size w w' := by
  by_cases hs : s.size < 19
  · exact Read_short w s hs
  by_cases hn : s.size = 19 + bev (s.extract 13 15).data.toList
  · rcases open_codes s hs with ⟨h, -⟩ | ⟨h, -⟩
    · exact Read_sum w s hs hl hn h
    · exact Read_go w s (openB s).1 hs hl hn (by rw [← h])
  · exact Read_form w s hs hl hn
end Go.Proofs.Ytbpamegfohcbmaa
