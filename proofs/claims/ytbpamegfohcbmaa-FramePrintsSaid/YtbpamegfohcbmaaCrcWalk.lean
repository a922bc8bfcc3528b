/- The walks of crc's sums, seals and flips, and of its reference: what each Go function answers, in any memory. -/
import Derived.Test.YtbpamegfohcbmaaCrcTable
namespace Go.Proofs.Ytbpamegfohcbmaa
open Go.RowKit
theorem reg_snoc (x : Nat) (s : ByteArray) (k : Nat) (h : k < s.size) : reg x (s.data.toList.take (k + 1)) = upd (reg x (s.data.toList.take k)) s[k] := by
  rw [List.take_succ_eq_append_getElem (by simpa using h), reg_append]; rfl
theorem upd_xor (R : Nat) (c : UInt8) (hR : R < 4294967296) : bits .xor .u32 ((tab ((R % 256) ^^^ c.toNat) : Nat) : Int) ((R : Int) / 256) = ((upd R c : Nat) : Int) := by
  have h1 := Tn_lt 8 ((R % 256) ^^^ c.toNat) (Nat.xor_lt_two_pow (n := 32) (by omega) (by have := c.toNat_lt; omega))
  rw [u32_xor _ _ (by omega) (by unfold tab; omega) (by omega) (by omega)]
  have : ((R : Int) / 256).toNat = R / 256 := by omega
  rw [this]; rfl
set_option maxRecDepth 100000 in
set_option maxHeartbeats 400000 in
theorem with_calls (w : World) (g : Nat) (x : Nat) (s : ByteArray) (hx : x < 4294967296) (hs : s.size ≤ maxLen) (t : TypeId)
   (hg : w.heap[g]? = some (.cells (tcells 256) t (0,0))) :
   Calls Try.prog 30 #[.pointer (some ⟨g, 0, none⟩), .int .u32 (x : Nat), .string s] w fun e w' => e = .returned (.int .u32 (reg x s.data.toList : Nat)) ∧ ∃ n, w' = w.drewN n := by
  unfold maxLen at hs
  have H := Lib.hid hg; clear hg
  go_enter Try.func30, Try.ntmps30
  go_wp2
  go_loopw [1, 10] (fun x' i wr => ∃ (k n : Nat), k ≤ s.size ∧ i = .int .i64 k ∧ x' = .int .u32 (reg x (s.data.toList.take k) : Nat) ∧ wr = w.drewN n) (fun _ i _ => s.size - (intOf i).toNat)
  case atStart => exact ⟨0, 0, by omega, rfl, rfl, rfl⟩
  case round =>
    obtain ⟨k, n, hk, rfl, rfl, rfl⟩ := hrel
    have hr := reg_lt (s.data.toList.take k) x hx
    by_cases hlt : k < s.size
    · have hsn := Lib.hid (reg_snoc x s k hlt)
      have hb := s[k].toNat_lt
      generalize hR : reg x (s.data.toList.take k) = R at hr hsn ⊢
      have hR' := Lib.hid hR; clear hR
      have hidx : (R % 256) ^^^ s[k].toNat < 256 := Nat.xor_lt_two_pow (n := 8) (by omega) (by omega)
      have e1 : bits .xor .u8 ((R : Int) % 256) (s[k].toNat : Int) = (((R % 256) ^^^ s[k].toNat : Nat) : Int) := by
        rw [u8_xor _ _ (by omega) (by omega) (by omega) (by omega)]
        have : ((R : Int) % 256).toNat = R % 256 := by omega
        simp [this]
      have e2 := upd_xor R s[k] hr
      have hc : ∀ j, j < 256 → w.cell? ⟨g, j, none⟩ = some (.int .u32 ((tab j : Nat) : Int)) := by
        intro j hj
        rw [cell_of_row w g j _ _ _ H.out, tcells_get _ _ hj]; simp [tcell, hj]
      have hc1 := hc _ hidx
      clear hc
      go_wp2
      go_quiet (fail)
      go_wp2
      exact ⟨⟨k + 1, _, by omega, by go_num, by rw [hsn.out], rfl⟩, by simp [intOf]; omega⟩
    · obtain rfl : k = s.size := by omega
      rw [List.take_of_length_le (by simp)] at *
      go_wp2
      go_ret
      exact ⟨rfl, _, rfl⟩

theorem tcells_one (k : Nat) : ∀ u ∈ (tcells k).toList, u.oneCell' = true := by simp [tcells, tcell, Value.oneCell']

theorem not_max (x : Nat) (h : x < 4294967296) : bits .xor .u32 IntKind.u32.max (x : Int) = ((4294967295 ^^^ x : Nat) : Int) := by
  rw [show IntKind.u32.max = 4294967295 from by decide, u32_xor _ _ (by omega) (by omega) (by omega) (by omega)]
  simp
set_option maxRecDepth 100000 in
set_option maxHeartbeats 400000 in
theorem More_calls (w : World) (x : Nat) (s : ByteArray) (hx : x < 4294967296) (hs : s.size ≤ maxLen) :
   Calls Try.prog 27 #[.int .u32 (x : Nat), .string s] w fun e w' => e = .returned (.int .u32 (more x s.data.toList : Nat)) ∧ Below w.heap.size w w' := by
  go_enter Try.func27, Try.ntmps27
  go_wp2_with fail
  refine (Table_calls _).mono ?_
  rintro e w1 ⟨rfl, hb1⟩
  go_wp2_with (with_reducible refine wpList_mark (o := ⟨some 5, _, _, _, _, _⟩) ?_)
  refine Marked.intro ?_
  refine wpList_run rfl (exec_alloc256 _ _ rfl _) ?_
  have hg := heap_alloc_new w1 (.cells z256 54)
  refine wpList_do rfl (exec_store_row _ 54 (.tmp 5) (.tmp 6) (by rfl) _ w1.heap.size 54 (tcells 256) z256 (by rfl) (by rfl) (by rw [tcells_size]; kernel_rfl) (by rw [tcells_size]; kernel_rfl) (tcells_one 256) hg) ?_
  clear hg
  rw [setRow_alloc]
  go_wp2_with fail
  rw [not_max x hx]
  refine (with_calls _ w1.heap.size _ s (not_lt x hx) hs 54 (heap_alloc_new _ _)).mono ?_
  rintro e w2 ⟨rfl, n, rfl⟩
  have e2 := not_max _ (reg_lt s.data.toList _ (not_lt x hx))
  go_wp2
  go_ret
  exact ⟨rfl, below_drewN (hb1.alloc hb1.size _) n⟩

set_option maxHeartbeats 400000 in
theorem Sum_calls (w : World) (s : ByteArray) (hs : s.size ≤ maxLen) :
   Calls Try.prog 25 #[.string s] w fun e w' => e = .returned (.int .u32 (sum s.data.toList : Nat)) ∧ Below w.heap.size w w' := by
  go_enter Try.func25, Try.ntmps25
  go_wp2_with fail
  refine (More_calls w 0 s (by omega) hs).mono ?_
  rintro e w1 ⟨rfl, hb1⟩
  go_wp2
  go_ret
  exact ⟨rfl, hb1⟩

theorem app_mk (s : ByteArray) (l : List UInt8) : s ++ (⟨l.toArray⟩ : ByteArray) = ⟨(s.data.toList ++ l).toArray⟩ := by
  apply ByteArray.ext
  simp [ByteArray.data_append]
/-- Sealed bytes. -/
def sealB (s : ByteArray) : ByteArray := ⟨(sealL s.data.toList).toArray⟩
theorem sealB_data (s : ByteArray) : (sealB s).data.toList = sealL s.data.toList := rfl
theorem sealB_size (s : ByteArray) : (sealB s).size = s.size + 4 := by
  show (sealL s.data.toList).toArray.size = _
  rw [List.size_toArray, sealL_length]; rfl
theorem str_eq (a b : ByteArray) : (a.toList == b.toList) = decide (a = b) := by
  rw [ByteArray.toList_eq, ByteArray.toList_eq]
  by_cases h : a = b
  · subst h; simp
  · have : a.data.toList ≠ b.data.toList := fun e => h (ByteArray.ext (Array.toList_inj.1 e))
    rw [decide_eq_false h]; simpa using this
set_option maxHeartbeats 400000 in
theorem Seal_calls (w : World) (s : ByteArray) (hs : s.size ≤ 140737488351232) :
   Calls Try.prog 17 #[.string s] w fun e w' => e = .returned (.string (sealB s)) ∧ Below w.heap.size w w' := by
  go_enter Try.func17, Try.ntmps17
  go_wp2_with fail
  refine (Sum_calls w s (by unfold maxLen; omega)).mono ?_
  rintro e w1 ⟨rfl, hb1⟩
  have hS := sum_lt s.data.toList
  have h4 : s.size + (le4 (sum s.data.toList)).length ≤ 9223372036854775807 := by rw [le4_length]; omega
  go_wp2
  refine wp_loop_rounds 5 ?_
  go_wp2_with (first | (with_reducible refine rounds_go ?_) | (with_reducible refine wpList_mark (o := ⟨some 21, _, _, _, _, _⟩) ?_))
  refine Marked.intro ?_
  refine wpList_run rfl (exec_bytes_back _ 42 9 5 (.tmp 20) (by rfl) _ ⟨w1.heap.size, 0, none⟩ 4 4 (by rfl) (le4 (sum s.data.toList)) rfl Try.underlying42 Try.underlying5 Try.underlying9 ?_) ?_
  · intro j hj
    rw [le4_length] at hj
    have h4 : j = 0 ∨ j = 1 ∨ j = 2 ∨ j = 3 := by omega
    have hd := Lib.hid hS
    rcases h4 with rfl | rfl | rfl | rfl <;> simp [le4, Addr.add, World.cell?_alloc_at] <;> omega
  · go_wp2
    go_ret
    exact ⟨by rw [app_mk]; rfl, hb1.alloc hb1.size _⟩

/-- What Open answers. -/
def openB (s : ByteArray) : ByteArray × Nat := if s.size < 4 then (⟨#[]⟩, 3) else if sealB (s.extract 0 (s.size - 4)) = s then (s.extract 0 (s.size - 4), 0) else (⟨#[]⟩, 5)
set_option maxHeartbeats 400000 in
theorem Open_calls (w : World) (s : ByteArray) (hs : s.size ≤ 140737488351232) :
   Calls Try.prog 20 #[.string s] w fun e w' => e = .returned (.tuple #[.string (openB s).1, .int .i64 ((openB s).2 : Nat)]) ∧ Below w.heap.size w w' := by
  by_cases h4 : s.size < 4
  · have hR : openB s = (⟨#[]⟩, 3) := by unfold openB; rw [if_pos h4]
    rw [hR]; clear hR
    go_enter Try.func20, Try.ntmps20
    go_wp2
    go_ret2
    exact ⟨rfl, Below.refl _ _⟩
  · have hd : decide ((s.size : Int) - 4 < 0) = false := by simp; omega
    have hxs : (s.extract 0 (s.size - 4)).size ≤ 140737488351232 := by simp; omega
    by_cases hc : sealB (s.extract 0 (s.size - 4)) = s
    · have hR : openB s = (s.extract 0 (s.size - 4), 0) := by unfold openB; rw [if_neg h4, if_pos hc]
      rw [hR]; clear hR
      have hq : ((sealB (s.extract 0 (s.size - 4))).toList == s.toList) = true := by rw [str_eq]; exact decide_eq_true hc
      clear hc
      go_enter Try.func20, Try.ntmps20
      go_wp2_with fail
      refine (Seal_calls w _ hxs).mono ?_
      rintro e w1 ⟨rfl, hb1⟩
      go_wp2
      go_ret2
      exact ⟨rfl, hb1⟩
    · have hR : openB s = (⟨#[]⟩, 5) := by unfold openB; rw [if_neg h4, if_neg hc]
      rw [hR]; clear hR
      have hq : ((sealB (s.extract 0 (s.size - 4))).toList == s.toList) = false := by rw [str_eq]; exact decide_eq_false hc
      clear hc
      go_enter Try.func20, Try.ntmps20
      go_wp2_with fail
      refine (Seal_calls w _ hxs).mono ?_
      rintro e w1 ⟨rfl, hb1⟩
      go_wp2
      go_ret2
      exact ⟨rfl, hb1⟩
end Go.Proofs.Ytbpamegfohcbmaa
