/- The walks of crc's reference: step, Row, Sum, Seal, Open: what each Go function answers, in any memory. -/
import Derived.Test.YtbpamegfohcbmaaCrcWalk
namespace Go.Proofs.Ytbpamegfohcbmaa
open Go.RowKit
def stepR (x b : Nat) : Nat := T (x ^^^ b)
theorem stepR_eq (x b : Nat) (hb : b < 2) : stepR x b = if x % 2 ≠ b then (x / 2) ^^^ 3988292384 else x / 2 := by
  have h1 : (x ^^^ b) % 2 = (x % 2 + b % 2) % 2 := xor_mod2 x b
  have h2 : (x ^^^ b) / 2 = x / 2 := by rw [xor_div2, Nat.div_eq_of_lt hb]; simp
  unfold stepR T
  rw [h1, h2]
  by_cases h : x % 2 = b
  · rw [if_neg (by omega), if_neg (by omega)]
  · rw [if_pos (by omega), if_pos (by omega)]
theorem stepR_lt (x b : Nat) (hx : x < 4294967296) (hb : b < 2) : stepR x b < 4294967296 := T_lt _ (Nat.xor_lt_two_pow (n := 32) hx (by omega))
theorem xor_poly (x : Nat) (hx : x < 4294967296) : bits .xor .u32 ((x : Int) / 2) 3988292384 = ((x / 2 ^^^ 3988292384 : Nat) : Int) := by
  rw [u32_xor _ _ (by omega) (by omega) (by omega) (by omega)]
  have : ((x : Int) / 2).toNat = x / 2 := by omega
  simp [this]
set_option maxHeartbeats 400000 in
theorem step_calls (w : World) (x : Nat) (b : Int) (hx : x < 4294967296) (h0 : 0 ≤ b) (hb : b < 2) :
   Calls Try.prog 28 #[.int .u32 (x : Nat), .int .u32 b] w fun e w' => e = .returned (.int .u32 (stepR x b.toNat : Nat)) ∧ w = w' := by
  obtain ⟨b, rfl⟩ := Int.eq_ofNat_of_zero_le h0
  rw [Int.toNat_natCast, stepR_eq x b (by omega)]
  have e1 := xor_poly x hx
  by_cases h : x % 2 = b
  · rw [if_neg (by omega)]
    have hb : ((x : Int) % 2 != b) = false := by simp; omega
    have hbb : (b : Int) < 2 := by omega
    clear h
    go_enter Try.func28, Try.ntmps28
    go_wp2
    go_ret
    exact ⟨by simp, rfl⟩
  · rw [if_pos (by omega)]
    have hb : ((x : Int) % 2 != b) = true := by simp; omega
    have hbb : (b : Int) < 2 := by omega
    clear h
    go_enter Try.func28, Try.ntmps28
    go_wp2
    go_ret
    exact ⟨by simp, rfl⟩

def stepN (x c : Nat) : Nat → Nat
  | 0 => x
  | k + 1 => stepR (stepN x c k) (c / 2 ^ k % 2)
theorem stepN_lt (x c : Nat) (hx : x < 4294967296) (k : Nat) : stepN x c k < 4294967296 := by
  induction k with
  | zero => exact hx
  | succ k ih => exact stepR_lt _ _ ih (by omega)
theorem stepN_eq (x c k : Nat) : stepN x c k = Tn k (x ^^^ c % 2 ^ k) := by
  induction k with
  | zero => simp [stepN, Tn, Nat.mod_one]
  | succ k ih =>
    have e : c % 2 ^ (k + 1) = (c / 2 ^ k % 2) * 2 ^ k ^^^ c % 2 ^ k := by
      rw [xor_join k _ _ (Nat.mod_lt _ (Nat.two_pow_pos k)), Nat.pow_succ, Nat.mod_mul, Nat.mul_comm (2 ^ k)]; omega
    have s : Tn k ((c / 2 ^ k % 2) * 2 ^ k) = c / 2 ^ k % 2 := Tn_shift k _
    simp only [stepN, stepR, ih]
    rw [e, show x ^^^ ((c / 2 ^ k % 2) * 2 ^ k ^^^ c % 2 ^ k) = (x ^^^ c % 2 ^ k) ^^^ (c / 2 ^ k % 2) * 2 ^ k by ac_rfl]
    simp only [Tn]
    rw [Tn_xor k _ ((c / 2 ^ k % 2) * 2 ^ k), s]
theorem stepN_8 (x : Nat) (c : UInt8) : stepN x c.toNat 8 = upd x c := by
  have := c.toNat_lt
  rw [stepN_eq, upd_eq, Nat.mod_eq_of_lt (by omega)]
theorem cast_bit (c j : Nat) : ((c : Int) / 2 ^ j % 2).toNat = c / 2 ^ j % 2 := by
  have : (c : Int) / 2 ^ j % 2 = ((c / 2 ^ j % 2 : Nat) : Int) := by simp
  rw [this, Int.toNat_natCast]
set_option maxRecDepth 100000 in
set_option maxHeartbeats 400000 in
theorem RSum_calls (w : World) (s : ByteArray) (hs : s.size ≤ maxLen) :
   Calls Try.prog 26 #[.string s] w fun e w' => e = .returned (.int .u32 (sum s.data.toList : Nat)) ∧ w = w' := by
  unfold maxLen at hs
  go_enter Try.func26, Try.ntmps26
  go_wp2
  go_loop [3, 4] (fun x i => ∃ k : Nat, k ≤ s.size ∧ i = .int .i64 k ∧ x = .int .u32 (reg 4294967295 (s.data.toList.take k) : Nat)) (fun _ i => s.size - (intOf i).toNat)
  case atStart => exact ⟨0, by omega, rfl, rfl⟩
  case round =>
    obtain ⟨k, hk, rfl, rfl⟩ := hrel
    have hr := reg_lt (s.data.toList.take k) 4294967295 (by omega)
    by_cases hlt : k < s.size
    · have hsn := Lib.hid (reg_snoc 4294967295 s k hlt)
      have hb := s[k].toNat_lt
      generalize hR : reg 4294967295 (s.data.toList.take k) = R at hr hsn ⊢
      have hR' := Lib.hid hR; clear hR
      go_wp2
      go_loop [3, 5] (fun x i => ∃ j : Nat, j ≤ 8 ∧ i = .int .i64 j ∧ x = .int .u32 (stepN R s[k].toNat j : Nat)) (fun _ i => 8 - (intOf i).toNat)
      case atStart => exact ⟨0, by omega, rfl, rfl⟩
      case round =>
        obtain ⟨j, hj, rfl, rfl⟩ := hrel
        have hsl := stepN_lt R s[k].toNat hr j
        by_cases hjl : j < 8
        · have hcast := Lib.hid (cast_bit s[k].toNat j)
          go_wp2_with fail
          refine (step_calls _ _ _ hsl (by omega) (by omega)).mono ?_
          rintro e w' ⟨rfl, rfl⟩
          rw [hcast.out]
          go_wp2
          go_round
          case rel => exact ⟨j + 1, by omega, by go_num, rfl⟩
          case measure => simp [intOf]; omega
        · obtain rfl : j = 8 := by omega
          rw [stepN_8] at *
          have hU := Lib.hid hsl
          clear hsl
          go_wp2
          exact ⟨⟨k + 1, by omega, by go_num, by rw [hsn.out]⟩, by simp [intOf]; omega⟩
    · obtain rfl : k = s.size := by omega
      rw [List.take_of_length_le (by simp)] at *
      have e1 := not_max _ hr
      go_wp2
      go_ret
      exact ⟨rfl, rfl⟩

set_option maxRecDepth 100000 in
set_option maxHeartbeats 400000 in
theorem RSeal_calls (w : World) (s : ByteArray) (hs : s.size ≤ 140737488351232) :
   Calls Try.prog 21 #[.string s] w fun e w' => e = .returned (.string (sealB s)) ∧ Below w.heap.size w w' := by
  go_enter Try.func21, Try.ntmps21
  go_wp2_with fail
  refine (RSum_calls w s (by unfold maxLen; omega)).mono ?_
  rintro e w1 ⟨rfl, rfl⟩
  have hS := sum_lt s.data.toList
  have h4 : s.size + (le4 (sum s.data.toList)).length ≤ 9223372036854775807 := by rw [le4_length]; omega
  go_wp2_with (with_reducible refine wpList_mark (o := ⟨some 19, _, _, _, _, _⟩) ?_)
  refine Marked.intro ?_
  refine wpList_run rfl (exec_bytes_back _ 42 9 5 (.tmp 18) (by rfl) _ ⟨w.heap.size, 0, none⟩ 4 4 (by rfl) (le4 (sum s.data.toList)) rfl Try.underlying42 Try.underlying5 Try.underlying9 ?_) ?_
  · intro j hj
    rw [le4_length] at hj
    have h4 : j = 0 ∨ j = 1 ∨ j = 2 ∨ j = 3 := by omega
    have hd := Lib.hid hS
    rcases h4 with rfl | rfl | rfl | rfl <;> simp [le4, Addr.add, World.cell?_alloc_at] <;> omega
  · go_wp2
    go_ret
    exact ⟨by rw [app_mk]; rfl, (Below.refl _ _).alloc (Nat.le_refl _) _⟩

set_option maxHeartbeats 400000 in
theorem ROpen_calls (w : World) (s : ByteArray) (hs : s.size ≤ 140737488351232) :
   Calls Try.prog 24 #[.string s] w fun e w' => e = .returned (.tuple #[.string (openB s).1, .int .i64 ((openB s).2 : Nat)]) ∧ Below w.heap.size w w' := by
  by_cases h4 : s.size < 4
  · have hR : openB s = (⟨#[]⟩, 3) := by unfold openB; rw [if_pos h4]
    rw [hR]; clear hR
    have hd : decide ((s.size : Int) < 4) = true := by simp; omega
    go_enter Try.func24, Try.ntmps24
    go_wp2
    go_ret2
    exact ⟨rfl, Below.refl _ _⟩
  · have hd : decide ((s.size : Int) < 4) = false := by simp; omega
    have hxs : (s.extract 0 (s.size - 4)).size ≤ 140737488351232 := by simp; omega
    by_cases hc : sealB (s.extract 0 (s.size - 4)) = s
    · have hR : openB s = (s.extract 0 (s.size - 4), 0) := by unfold openB; rw [if_neg h4, if_pos hc]
      rw [hR]; clear hR
      have hq : ((sealB (s.extract 0 (s.size - 4))).toList == s.toList) = true := by rw [str_eq]; exact decide_eq_true hc
      clear hc
      go_enter Try.func24, Try.ntmps24
      go_wp2_with fail
      refine (RSeal_calls w _ hxs).mono ?_
      rintro e w1 ⟨rfl, hb1⟩
      go_wp2
      go_ret2
      exact ⟨rfl, hb1⟩
    · have hR : openB s = (⟨#[]⟩, 5) := by unfold openB; rw [if_neg h4, if_neg hc]
      rw [hR]; clear hR
      have hq : ((sealB (s.extract 0 (s.size - 4))).toList == s.toList) = false := by rw [str_eq]; exact decide_eq_false hc
      clear hc
      go_enter Try.func24, Try.ntmps24
      go_wp2_with fail
      refine (RSeal_calls w _ hxs).mono ?_
      rintro e w1 ⟨rfl, hb1⟩
      go_wp2
      go_ret2
      exact ⟨rfl, hb1⟩
end Go.Proofs.Ytbpamegfohcbmaa
