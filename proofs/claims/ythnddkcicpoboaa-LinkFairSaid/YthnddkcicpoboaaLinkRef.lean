/- The walks of the reference's Fair, of Same, and of Hurt where a text is cut or flipped. -/
import Derived.Test.YthnddkcicpoboaaLinkFair
namespace Go.Proofs.Ythnddkcicpoboaa
open Go.RowKit
set_option linter.unusedVariables false
set_option linter.unusedSimpArgs false
set_option maxRecDepth 100000 in
set_option maxHeartbeats 2000000 in
theorem RFair_calls (w : World) (v : Value) (fs : List (Int × Int × Int)) (n : Int) (h : Fates w v fs) (hn : fs.length ≤ 1000000) (h1 : -9223372036854775808 ≤ n) (h2 : n ≤ 9223372036854775807) :
   Calls Try.prog 10 #[v, .int .i64 n] w fun e w' => e = .returned (.bool (fairGo n (fs.map (·.1)) 0)) ∧ w = w' := by
  obtain ⟨ad, cap, rfl, hs⟩ := h
  have Hs := Lib.hid hs; clear hs
  generalize hF : fairGo n (fs.map (·.1)) 0 = F
  have HF := Lib.hid hF; clear hF
  go_enter Try.func10, Try.ntmps10
  go_wp2_with fail
  go_loopw [5, 6] (fun row i wr => ∃ (j r : Nat), j ≤ fs.length ∧ r ≤ j ∧ row = .int .i64 r ∧ i = .int .i64 j ∧ Hid (fairGo n ((fs.map (·.1)).drop j) r = F) ∧ wr = w) (fun _ i _ => fs.length - (intOf i).toNat)
  case atStart => exact ⟨0, 0, by omega, by omega, rfl, rfl, HF, rfl⟩
  case round =>
    obtain ⟨j, r, hj, hr, rfl, rfl, hd, rfl⟩ := hrel
    by_cases hlt : j < fs.length
    · obtain ⟨g, o, rfl, hc⟩ := Hs.out (by intro e; rw [e] at hlt; simp at hlt)
      have hcj := hc j fs[j] (by simp [hlt])
      have hdr : fairGo n (fs[j].1 :: (fs.map (·.1)).drop (j + 1)) r = F := by
        rw [← hd.out, List.drop_eq_getElem_cons (i := j) (by rw [List.length_map]; exact hlt), List.getElem_map]
      generalize fs[j] = f at hcj hdr
      obtain ⟨k, m, b⟩ := f
      obtain ⟨r0, -, -⟩ := hcj
      clear hc hd
      have Hdr := Lib.hid hdr; clear hdr
      simp only at r0
      by_cases hk : k = 1 ∨ k = 4 ∨ k = 5
      · by_cases c : n ≤ (r : Int) + 1
        · have hf : Hid (F = false) := Lib.hid (by rw [← Hdr.out]; unfold fairGo; rw [if_pos hk, if_pos c])
          rcases hk with rfl | rfl | rfl <;>
          · go_wp2
            go_ret
            exact ⟨by rw [hf.out]; rfl, rfl⟩
        · have hf : Hid (fairGo n ((fs.map (·.1)).drop (j + 1)) (r + 1) = F) := Lib.hid (by rw [← Hdr.out, fairGo, if_pos hk, if_neg c, if_pos hk])
          rcases hk with rfl | rfl | rfl <;>
          · go_wp2
            exact ⟨⟨j + 1, r + 1, by omega, by omega, rfl, rfl, hf, trivial⟩, by simp only [intOf]; omega⟩
      · have k1 : (k == 1) = false := by simp; omega
        have k4 : (k == 4) = false := by simp; omega
        have k5 : (k == 5) = false := by simp; omega
        have n1 : (k != 1) = true := by simp; omega
        have n4 : (k != 4) = true := by simp; omega
        have n5 : (k != 5) = true := by simp; omega
        by_cases c : n ≤ 0
        · have hf : Hid (F = false) := Lib.hid (by rw [← Hdr.out]; unfold fairGo; rw [if_neg hk, if_pos c])
          clear hk
          go_wp2
          go_ret
          exact ⟨by rw [hf.out]; rfl, rfl⟩
        · have hf : Hid (fairGo n ((fs.map (·.1)).drop (j + 1)) 0 = F) := Lib.hid (by rw [← Hdr.out, fairGo, if_neg hk, if_neg c, if_neg hk])
          clear hk
          go_wp2
          exact ⟨⟨j + 1, 0, by omega, by omega, rfl, rfl, hf, trivial⟩, by simp only [intOf]; omega⟩
    · have hf : Hid (F = true) := Lib.hid (by rw [← hd.out, List.drop_of_length_le (by simp; omega)]; rfl)
      obtain rfl : j = fs.length := by omega
      go_wp2
      go_ret
      exact ⟨by rw [hf.out]; rfl, rfl⟩
theorem str_refl (x : ByteArray) : (x.toList == x.toList) = true := by simp
set_option maxHeartbeats 1000000 in
theorem Same_true (w : World) (xs : List ByteArray) (hn : xs.length ≤ 140737488351232) (g1 c1 g2 c2 : Nat) (h1 : ∀ (j : Nat) x, xs[j]? = some x → w.cell? ⟨g1, j, none⟩ = some (.string x)) (h2 : ∀ (j : Nat) x, xs[j]? = some x → w.cell? ⟨g2, j, none⟩ = some (.string x)) :
   Calls Try.prog 14 #[.slice (some ⟨g1, 0, none⟩) xs.length c1, .slice (some ⟨g2, 0, none⟩) xs.length c2] w fun e w' => e = .returned (.bool true) ∧ Below w.heap.size w w' := by
  have H1 := Lib.hid h1; clear h1
  have H2 := Lib.hid h2; clear h2
  have hq : ((xs.length : Int) == (xs.length : Int)) = true := by simp
  go_enter Try.func14, Try.ntmps14
  go_wp2
  go_loopw [5] (fun i wr => ∃ (j d : Nat), j ≤ xs.length ∧ i = .int .i64 j ∧ wr = w.drewN d) (fun i _ => xs.length - (intOf i).toNat)
  case atStart => exact ⟨0, 0, by omega, rfl, rfl⟩
  case round =>
    obtain ⟨j, d, hj, rfl, rfl⟩ := hrel
    by_cases hlt : j < xs.length
    · have e1 := H1.out j xs[j] (by simp [hlt])
      have e2 := H2.out j xs[j] (by simp [hlt])
      have e3 := str_refl xs[j]
      generalize xs[j] = x at e1 e2 e3
      go_wp2
      go_quiet (fail)
      go_wp2
      exact ⟨⟨j + 1, _, by omega, rfl, rfl⟩, by simp only [intOf]; omega⟩
    · obtain rfl : j = xs.length := by omega
      go_wp2
      go_ret
      exact ⟨rfl, below_drewN (Below.refl _ _) _⟩
theorem mod_calls (w : World) (n m : Nat) (hn : n ≤ 9223372036854775807) (hm : m ≤ 9223372036854775807) (h0 : 0 < m) :
   Calls Try.prog 17 #[.int .i64 n, .int .i64 m] w fun e w' => e = .returned (.int .i64 ((n % m : Nat) : Int)) ∧ w = w' := by
  have h := Nat.mod_lt n h0
  have e : ((n : Int) % (m : Int)) = ((n % m : Nat) : Int) := by simp
  have m0 : ((m : Int) == 0) = false := by simp; omega
  generalize n % m = r at *
  go_enter Try.func17, Try.ntmps17
  go_wp2
  go_ret
  exact ⟨rfl, rfl⟩
theorem mod_same (w : World) (n m : Nat) (hn : n ≤ 9223372036854775807) (hm : m ≤ 9223372036854775807) (h0 : 0 < m) (r : Int) (hr : r = ((n % m : Nat) : Int)) :
   Calls Try.prog 17 #[.int .i64 n, .int .i64 m] w fun e w' => e = .returned (.int .i64 r) ∧ w' = w := by
  subst hr
  exact (mod_calls w n m hn hm h0).mono fun _ _ ⟨h, k⟩ => ⟨h, k.symm⟩
def sabc : ByteArray := ⟨#[97, 98, 99]⟩
def sa : ByteArray := ⟨#[97]⟩
theorem sabc_some : sabc.toList.isEmpty = false := by rw [ByteArray.toList_eq]; rfl
theorem sa_some : sa.toList.isEmpty = false := by rw [ByteArray.toList_eq]; rfl
theorem Hurt_cut (w : World) :
   Calls Try.prog 15 #[.string sabc, .agg #[.int .i64 5, .int .i64 4, .int .u32 0]] w fun e w' => e = .returned (.string sa) ∧ Below w.heap.size w w' := by
  have h3 : ((sabc.size : Nat) : Int) = 3 := by decide
  have hs := sabc_some
  have he : sabc.extract 0 1 = sa := by decide
  generalize sabc = s at *
  generalize sa = t at *
  go_enter Try.func15, Try.ntmps15
  go_wp2
  go_ret
  exact ⟨rfl, (Below.refl _ _).alloc (Nat.le_refl _) _⟩
theorem flip_a : flipL [97] 1 1 = [99] := by decide +kernel
theorem Hurt_flip (w : World) :
   Calls Try.prog 15 #[.string sa, .agg #[.int .i64 4, .int .i64 9, .int .u32 1]] w fun e w' => e = .returned (.string ⟨#[99]⟩) ∧ Below w.heap.size w w' := by
  have h3 : ((sa.size : Nat) : Int) = 1 := by decide
  have hs := sa_some
  have hF : ∀ w, Calls Try.prog 16 #[.string sa, .int .i64 1, .int .u32 1] w fun e w' => e = .returned (.string ⟨#[99]⟩) ∧ Below w.heap.size w w' := fun w => Flip_calls w sa 1 1 (by omega) (by decide) (by omega) (by omega)
  have HF := Lib.hid hF; clear hF
  generalize sa = t at *
  go_enter Try.func15, Try.ntmps15
  go_wp2
  have hbA := (Below.refl w.heap.size w).alloc (Nat.le_refl _) (.cells #[.int .i64 4, .int .i64 9, .int .u32 1] 29)
  have hA := heap_alloc_new w (.cells #[.int .i64 4, .int .i64 9, .int .u32 1] 29)
  generalize w.alloc (.cells #[.int .i64 4, .int .i64 9, .int .u32 1] 29) = wA at *
  have c1 : wA.cell? ⟨w.heap.size, 1, none⟩ = some (.int .i64 9) := by rw [cell_of_row _ _ 1 _ _ _ hA]; rfl
  have c2 : wA.cell? ⟨w.heap.size, 2, none⟩ = some (.int .u32 1) := by rw [cell_of_row _ _ 2 _ _ _ hA]; rfl
  have q1 := cell_regrown c1
  have q2 := cell_regrown c2
  refine wp_region_quiet_below (by kernel_rfl) (by kernel_rfl) ?_
  repeat (quiet_step (first | (exact Calls.regrown_of (Calls.below_of_same ((mod_calls _ 9 8 (by omega) (by omega) (by omega))))) | (exact Calls.regrown_of (HF.out _))))
  refine wpQuiet_nil ?_
  rintro w' ⟨p, rfl⟩
  have hb := below_regrown wA p.d p.os
  generalize Go.Sort.grow (redrawn wA p.d) p.os = w6 at hb ⊢
  go_wp2
  go_ret
  exact ⟨rfl, bn hbA hb⟩
end Go.Proofs.Ythnddkcicpoboaa
