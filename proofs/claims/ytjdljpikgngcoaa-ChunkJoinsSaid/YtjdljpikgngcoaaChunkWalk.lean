/- The walks of package chunk and of its reference: sizes and counts. -/
import Derived.Test.YtjdljpikgngcoaaLib
import Derived.Test.YtjdljpikgngcoaaChunkPlain
import Derived.Test.YtjdljpikgngcoaaJoin
namespace Go.Proofs.Ytjdljpikgngcoaa
open Go.RowKit
set_option linter.unusedVariables false
set_option maxHeartbeats 400000 in
theorem Size_calls (w : World) (m : Int) (h1 : -9223372036854775808 ≤ m) (h2 : m ≤ 9223372036854775807) :
   Calls Try.prog 14 #[.int .i64 m] w fun e w' => e = .returned (.tuple #[.int .i64 (szI m), .int .i64 (szE m)]) ∧ w = w' := by
  by_cases h : m < 64 ∨ 65535 < m
  · rw [szI_zero m h, szE_one m h]
    rcases h with h | h
    · go_enter Try.func14, Try.ntmps14
      go_wp2
      go_ret2
      exact ⟨rfl, rfl⟩
    · have h' : ¬ m < 64 := by omega
      go_enter Try.func14, Try.ntmps14
      go_wp2
      go_ret2
      exact ⟨rfl, rfl⟩
  · have a : ¬ m < 64 := by omega
    have b : ¬ 65535 < m := by omega
    rw [szE_zero m h]
    by_cases c : 1019 < m
    · have e : szI m = 1000 := by unfold szI; rw [if_neg h, if_pos c]
      rw [e]; clear e h
      go_enter Try.func14, Try.ntmps14
      go_wp2
      go_ret2
      exact ⟨by simp; omega, rfl⟩
    · have e : szI m = m - 19 := by unfold szI; rw [if_neg h, if_neg c]
      rw [e]; clear e h
      go_enter Try.func14, Try.ntmps14
      go_wp2
      go_ret2
      exact ⟨by simp; omega, rfl⟩
set_option maxHeartbeats 400000 in
theorem Count_calls (w : World) (n m : Int) (h1 : -9223372036854775808 ≤ m) (h2 : m ≤ 9223372036854775807) (h3 : -9223372036854775808 ≤ n) (h4 : n ≤ 9223372036854775807) :
   Calls Try.prog 13 #[.int .i64 n, .int .i64 m] w fun e w' => e = .returned (.int .i64 (cntI n m)) ∧ w = w' := by
  by_cases h : m < 64 ∨ 65535 < m
  · have e : cntI n m = -1 := by unfold cntI; rw [szI_zero m h, if_pos (by omega)]
    have e1 := Lib.hid (szE_one m h)
    rw [e]; clear e h
    go_enter Try.func13, Try.ntmps13
    go_wp2_with fail
    with_reducible refine (Size_calls _ m h1 h2).mono ?_
    rintro e w' ⟨rfl, rfl⟩
    rw [e1.out]
    go_wp2
    go_ret
    exact ⟨rfl, rfl⟩
  · have e1 := Lib.hid (szE_zero m h)
    have k1 := szI_pos m h
    have k2 := (szI_le m).2
    by_cases c : n < 0 ∨ 256 * szI m < n
    · have e : cntI n m = -1 := by unfold cntI; rw [if_pos (by omega)]
      rw [e]; clear e h
      rcases c with c | c
      · go_enter Try.func13, Try.ntmps13
        go_wp2_with fail
        with_reducible refine (Size_calls _ m h1 h2).mono ?_
        rintro e w' ⟨rfl, rfl⟩
        rw [e1.out]
        go_wp2
        go_ret
        exact ⟨rfl, rfl⟩
      · have c' : ¬ n < 0 := by omega
        go_enter Try.func13, Try.ntmps13
        go_wp2_with fail
        with_reducible refine (Size_calls _ m h1 h2).mono ?_
        rintro e w' ⟨rfl, rfl⟩
        rw [e1.out]
        go_wp2
        go_ret
        exact ⟨rfl, rfl⟩
    · have c1 : ¬ n < 0 := by omega
      have c2 : ¬ 256 * szI m < n := by omega
      have e : cntI n m = max ((n + szI m - 1) / szI m) 1 := by
        unfold cntI; rw [if_neg (by omega)]
        by_cases z : n = 0
        · subst z
          rw [if_pos rfl, Int.zero_add, Int.ediv_eq_zero_of_lt (by omega) (by omega)]; rfl
        · rw [if_neg z, cnt_div n _ (by omega) (by omega), Int.max_eq_left]
          have := Int.ediv_nonneg (a := n - 1) (b := szI m) (by omega) (by omega)
          omega
      have E := Lib.hid e
      clear e h c
      generalize hk : szI m = k at *
      have Hk := Lib.hid hk; clear hk
      go_enter Try.func13, Try.ntmps13
      go_wp2_with fail
      with_reducible refine (Size_calls _ m h1 h2).mono ?_
      rintro e w' ⟨rfl, rfl⟩
      rw [e1.out, Hk.out]
      go_wp2
      go_ret
      exact ⟨by rw [E.out]; rfl, rfl⟩

set_option maxHeartbeats 400000 in
theorem RSize_calls (w : World) (m : Int) (h1 : -9223372036854775808 ≤ m) (h2 : m ≤ 9223372036854775807) :
   Calls Try.prog 15 #[.int .i64 m] w fun e w' => e = .returned (.int .i64 (szI m)) ∧ w = w' := by
  by_cases h : m < 64 ∨ 65535 < m
  · rw [szI_zero m h]
    rcases h with h | h
    · go_enter Try.func15, Try.ntmps15
      go_wp2
      go_ret
      exact ⟨rfl, rfl⟩
    · have h' : ¬ m < 64 := by omega
      go_enter Try.func15, Try.ntmps15
      go_wp2
      go_ret
      exact ⟨rfl, rfl⟩
  · have a : ¬ m < 64 := by omega
    have b : ¬ 65535 < m := by omega
    by_cases c : 1019 < m
    · have e : szI m = 1000 := by unfold szI; rw [if_neg h, if_pos c]
      rw [e]; clear e h
      go_enter Try.func15, Try.ntmps15
      go_wp2
      go_ret
      exact ⟨rfl, rfl⟩
    · have e : szI m = m - 19 := by unfold szI; rw [if_neg h, if_neg c]
      rw [e]; clear e h
      go_enter Try.func15, Try.ntmps15
      go_wp2
      go_ret
      exact ⟨rfl, rfl⟩

set_option maxHeartbeats 400000 in
theorem RCount_calls (w : World) (n m : Int) (h1 : -9223372036854775808 ≤ m) (h2 : m ≤ 9223372036854775807) (h3 : -9223372036854775808 ≤ n) (h4 : n ≤ 9223372036854775807) :
   Calls Try.prog 16 #[.int .i64 n, .int .i64 m] w fun e w' => e = .returned (.int .i64 (cntI n m)) ∧ w = w' := by
  have k0 := (szI_le m).1
  have k2 := (szI_le m).2
  by_cases h : szI m = 0 ∨ n < 0 ∨ 256 * szI m < n
  · have e : cntI n m = -1 := by unfold cntI; rw [if_pos h]
    rw [e]; clear e
    have go : (szI m == 0) = true ∨ ((szI m == 0) = false ∧ n < 0) ∨ ((szI m == 0) = false ∧ ¬ n < 0 ∧ 256 * szI m < n) := by
      simp only [beq_iff_eq, beq_eq_false_iff_ne]; omega
    clear h
    rcases go with c | ⟨c, d⟩ | ⟨c, d, d2⟩ <;>
    · go_enter Try.func16, Try.ntmps16
      go_wp2_with fail
      with_reducible refine (RSize_calls _ m h1 h2).mono ?_
      rintro e w' ⟨rfl, rfl⟩
      go_wp2
      go_ret
      exact ⟨rfl, rfl⟩
  · have c : (szI m == 0) = false := by simp only [beq_eq_false_iff_ne]; omega
    have d : ¬ n < 0 := by omega
    have d2 : ¬ 256 * szI m < n := by omega
    have kp : 0 < szI m := by simp only [beq_eq_false_iff_ne] at c; omega
    by_cases z : n = 0
    · have e : cntI n m = 1 := by unfold cntI; rw [if_neg h, if_pos z]
      rw [e]; clear e h
      have zb : (n == 0) = true := by simpa using z
      clear z
      go_enter Try.func16, Try.ntmps16
      go_wp2_with fail
      with_reducible refine (RSize_calls _ m h1 h2).mono ?_
      rintro e w' ⟨rfl, rfl⟩
      go_wp2
      go_ret
      exact ⟨rfl, rfl⟩
    · have e : cntI n m = (n - 1) / szI m + 1 := by unfold cntI; rw [if_neg h, if_neg z]
      have E := Lib.hid e
      have n1 : 0 < n := by omega
      have q0 := Int.ediv_nonneg (a := n - 1) (b := szI m) (by omega) (by omega)
      have q1 : (n - 1) / szI m ≤ n - 1 := Int.ediv_le_self _ (by omega)
      clear e h z
      go_enter Try.func16, Try.ntmps16
      go_wp2_with fail
      with_reducible refine (RSize_calls _ m h1 h2).mono ?_
      rintro e w' ⟨rfl, rfl⟩
      go_wp2
      go_ret
      exact ⟨by rw [E.out]; rfl, rfl⟩
end Go.Proofs.Ytjdljpikgngcoaa
