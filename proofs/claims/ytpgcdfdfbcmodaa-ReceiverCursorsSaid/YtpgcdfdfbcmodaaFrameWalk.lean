/- The walks of package frame: within, Right, number, and the reference's Right, value. -/
import Derived.Test.YtpgcdfdfbcmodaaLib
import Derived.Handy
namespace Go.Proofs.Ytpgcdfdfbcmodaa
open Go.RowKit
set_option linter.unusedVariables false
set_option linter.unusedSimpArgs false
/-- A frame. -/
structure Fr where
  k : Int
  s : Int
  e : Int
  i : Int
  t : Int
  d : ByteArray
def Fr.val (f : Fr) : Value := .agg #[.int .i64 f.k, .int .i64 f.s, .int .i64 f.e, .int .i64 f.i, .int .i64 f.t, .string f.d]
def Fr.zero : Fr := ⟨0, 0, 0, 0, 0, ⟨#[]⟩⟩
def Fr.ok (f : Fr) : Prop := (f.k = 1 ∨ f.k = 2) ∧ 0 ≤ f.s ∧ f.s < 4294967296 ∧ 0 ≤ f.e ∧ f.e < 4294967296 ∧ 0 ≤ f.i ∧ f.i < 65536 ∧ 0 ≤ f.t ∧ f.t < 65536 ∧ f.d.size ≤ 65000
instance (f : Fr) : Decidable f.ok := by unfold Fr.ok; infer_instance
theorem within_calls (w : World) (n up : Int) :
   Calls Try.prog 73 #[.int .i64 n, .int .i64 up] w fun e w' => e = .returned (.bool (decide (0 ≤ n ∧ n < up))) ∧ w = w' := by
  by_cases h : 0 ≤ n
  · by_cases h2 : n < up
    · rw [decide_eq_true ⟨h, h2⟩]
      go_enter Try.func73, Try.ntmps73
      go_wp2
      go_ret
      exact ⟨rfl, rfl⟩
    · rw [decide_eq_false (fun e => h2 e.2)]
      go_enter Try.func73, Try.ntmps73
      go_wp2
      go_ret
      exact ⟨rfl, rfl⟩
  · rw [decide_eq_false (fun e => h e.1)]
    have h' : n < 0 := by omega
    go_enter Try.func73, Try.ntmps73
    go_wp2
    go_ret
    exact ⟨rfl, rfl⟩
set_option maxRecDepth 100000 in
set_option maxHeartbeats 4000000 in
theorem Right_calls (w : World) (f : Fr) :
   Calls Try.prog 68 #[f.val] w fun e w' => e = .returned (.bool (decide f.ok)) ∧ Below w.heap.size w w' := by
  obtain ⟨k, s, e, i, t, d⟩ := f
  unfold Fr.val
  have hb := (Below.refl w.heap.size w).alloc (Nat.le_refl _) (.cells #[.int .i64 k, .int .i64 s, .int .i64 e, .int .i64 i, .int .i64 t, .string d] 32)
  have Hb := Lib.hid hb; clear hb
  by_cases hk1 : k = 1
  · subst hk1
    by_cases hs0 : s < 0
    · have hz := hs0
      rw [decide_eq_false (by unfold Fr.ok; simp only; omega)]
      go_enter Try.func68, Try.ntmps68
      go_wp2_with fail
      with_reducible refine (within_calls _ _ _).mono ?_
      rintro e' w1 ⟨rfl, rfl⟩
      rw [decide_eq_false (by omega)]
      go_wp2
      go_ret
      exact ⟨rfl, Hb.out⟩
    · by_cases hs1 : 4294967296 ≤ s
      · have hz := hs1
        rw [decide_eq_false (by unfold Fr.ok; simp only; omega)]
        go_enter Try.func68, Try.ntmps68
        go_wp2_with fail
        with_reducible refine (within_calls _ _ _).mono ?_
        rintro e' w1 ⟨rfl, rfl⟩
        rw [decide_eq_false (by omega)]
        go_wp2
        go_ret
        exact ⟨rfl, Hb.out⟩
      · have hzs : 0 ≤ s := by omega
        by_cases he0 : e < 0
        · have hz := he0
          rw [decide_eq_false (by unfold Fr.ok; simp only; omega)]
          go_enter Try.func68, Try.ntmps68
          go_wp2_with fail
          with_reducible refine (within_calls _ _ _).mono ?_
          rintro e' w1 ⟨rfl, rfl⟩
          rw [decide_eq_true (by omega)]
          go_wp2_with fail
          with_reducible refine (within_calls _ _ _).mono ?_
          rintro e' w1 ⟨rfl, rfl⟩
          rw [decide_eq_false (by omega)]
          go_wp2
          go_ret
          exact ⟨rfl, Hb.out⟩
        · by_cases he1 : 4294967296 ≤ e
          · have hz := he1
            rw [decide_eq_false (by unfold Fr.ok; simp only; omega)]
            go_enter Try.func68, Try.ntmps68
            go_wp2_with fail
            with_reducible refine (within_calls _ _ _).mono ?_
            rintro e' w1 ⟨rfl, rfl⟩
            rw [decide_eq_true (by omega)]
            go_wp2_with fail
            with_reducible refine (within_calls _ _ _).mono ?_
            rintro e' w1 ⟨rfl, rfl⟩
            rw [decide_eq_false (by omega)]
            go_wp2
            go_ret
            exact ⟨rfl, Hb.out⟩
          · have hze : 0 ≤ e := by omega
            by_cases hi0 : i < 0
            · have hz := hi0
              rw [decide_eq_false (by unfold Fr.ok; simp only; omega)]
              go_enter Try.func68, Try.ntmps68
              go_wp2_with fail
              with_reducible refine (within_calls _ _ _).mono ?_
              rintro e' w1 ⟨rfl, rfl⟩
              rw [decide_eq_true (by omega)]
              go_wp2_with fail
              with_reducible refine (within_calls _ _ _).mono ?_
              rintro e' w1 ⟨rfl, rfl⟩
              rw [decide_eq_true (by omega)]
              go_wp2_with fail
              with_reducible refine (within_calls _ _ _).mono ?_
              rintro e' w1 ⟨rfl, rfl⟩
              rw [decide_eq_false (by omega)]
              go_wp2
              go_ret
              exact ⟨rfl, Hb.out⟩
            · by_cases hi1 : 65536 ≤ i
              · have hz := hi1
                rw [decide_eq_false (by unfold Fr.ok; simp only; omega)]
                go_enter Try.func68, Try.ntmps68
                go_wp2_with fail
                with_reducible refine (within_calls _ _ _).mono ?_
                rintro e' w1 ⟨rfl, rfl⟩
                rw [decide_eq_true (by omega)]
                go_wp2_with fail
                with_reducible refine (within_calls _ _ _).mono ?_
                rintro e' w1 ⟨rfl, rfl⟩
                rw [decide_eq_true (by omega)]
                go_wp2_with fail
                with_reducible refine (within_calls _ _ _).mono ?_
                rintro e' w1 ⟨rfl, rfl⟩
                rw [decide_eq_false (by omega)]
                go_wp2
                go_ret
                exact ⟨rfl, Hb.out⟩
              · have hzi : 0 ≤ i := by omega
                by_cases ht0 : t < 0
                · have hz := ht0
                  rw [decide_eq_false (by unfold Fr.ok; simp only; omega)]
                  go_enter Try.func68, Try.ntmps68
                  go_wp2_with fail
                  with_reducible refine (within_calls _ _ _).mono ?_
                  rintro e' w1 ⟨rfl, rfl⟩
                  rw [decide_eq_true (by omega)]
                  go_wp2_with fail
                  with_reducible refine (within_calls _ _ _).mono ?_
                  rintro e' w1 ⟨rfl, rfl⟩
                  rw [decide_eq_true (by omega)]
                  go_wp2_with fail
                  with_reducible refine (within_calls _ _ _).mono ?_
                  rintro e' w1 ⟨rfl, rfl⟩
                  rw [decide_eq_true (by omega)]
                  go_wp2_with fail
                  with_reducible refine (within_calls _ _ _).mono ?_
                  rintro e' w1 ⟨rfl, rfl⟩
                  rw [decide_eq_false (by omega)]
                  go_wp2
                  go_ret
                  exact ⟨rfl, Hb.out⟩
                · by_cases ht1 : 65536 ≤ t
                  · have hz := ht1
                    rw [decide_eq_false (by unfold Fr.ok; simp only; omega)]
                    go_enter Try.func68, Try.ntmps68
                    go_wp2_with fail
                    with_reducible refine (within_calls _ _ _).mono ?_
                    rintro e' w1 ⟨rfl, rfl⟩
                    rw [decide_eq_true (by omega)]
                    go_wp2_with fail
                    with_reducible refine (within_calls _ _ _).mono ?_
                    rintro e' w1 ⟨rfl, rfl⟩
                    rw [decide_eq_true (by omega)]
                    go_wp2_with fail
                    with_reducible refine (within_calls _ _ _).mono ?_
                    rintro e' w1 ⟨rfl, rfl⟩
                    rw [decide_eq_true (by omega)]
                    go_wp2_with fail
                    with_reducible refine (within_calls _ _ _).mono ?_
                    rintro e' w1 ⟨rfl, rfl⟩
                    rw [decide_eq_false (by omega)]
                    go_wp2
                    go_ret
                    exact ⟨rfl, Hb.out⟩
                  · have hzt : 0 ≤ t := by omega
                    by_cases hd : d.size ≤ 65000
                    · have hz := hd
                      rw [decide_eq_true (show Fr.ok _ from ⟨by simp, hzs, Int.not_le.1 hs1, hze, Int.not_le.1 he1, hzi, Int.not_le.1 hi1, hzt, Int.not_le.1 ht1, hd⟩)]
                      go_enter Try.func68, Try.ntmps68
                      go_wp2_with fail
                      with_reducible refine (within_calls _ _ _).mono ?_
                      rintro e' w1 ⟨rfl, rfl⟩
                      rw [decide_eq_true (by omega)]
                      go_wp2_with fail
                      with_reducible refine (within_calls _ _ _).mono ?_
                      rintro e' w1 ⟨rfl, rfl⟩
                      rw [decide_eq_true (by omega)]
                      go_wp2_with fail
                      with_reducible refine (within_calls _ _ _).mono ?_
                      rintro e' w1 ⟨rfl, rfl⟩
                      rw [decide_eq_true (by omega)]
                      go_wp2_with fail
                      with_reducible refine (within_calls _ _ _).mono ?_
                      rintro e' w1 ⟨rfl, rfl⟩
                      rw [decide_eq_true (by omega)]
                      go_wp2
                      go_ret
                      exact ⟨by show Ending.returned (.bool (decide _)) = _; rw [decide_eq_true (by omega)], Hb.out⟩
                    · have hz := hd
                      rw [decide_eq_false (by unfold Fr.ok; simp only; omega)]
                      go_enter Try.func68, Try.ntmps68
                      go_wp2_with fail
                      with_reducible refine (within_calls _ _ _).mono ?_
                      rintro e' w1 ⟨rfl, rfl⟩
                      rw [decide_eq_true (by omega)]
                      go_wp2_with fail
                      with_reducible refine (within_calls _ _ _).mono ?_
                      rintro e' w1 ⟨rfl, rfl⟩
                      rw [decide_eq_true (by omega)]
                      go_wp2_with fail
                      with_reducible refine (within_calls _ _ _).mono ?_
                      rintro e' w1 ⟨rfl, rfl⟩
                      rw [decide_eq_true (by omega)]
                      go_wp2_with fail
                      with_reducible refine (within_calls _ _ _).mono ?_
                      rintro e' w1 ⟨rfl, rfl⟩
                      rw [decide_eq_true (by omega)]
                      go_wp2
                      go_ret
                      exact ⟨by show Ending.returned (.bool (decide _)) = _; rw [decide_eq_false (by omega)], Hb.out⟩
  have hk1b : (k == 1) = false := by simp; omega
  by_cases hk2 : k = 2
  · subst hk2
    by_cases hs0 : s < 0
    · have hz := hs0
      rw [decide_eq_false (by unfold Fr.ok; simp only; omega)]
      go_enter Try.func68, Try.ntmps68
      go_wp2_with fail
      with_reducible refine (within_calls _ _ _).mono ?_
      rintro e' w1 ⟨rfl, rfl⟩
      rw [decide_eq_false (by omega)]
      go_wp2
      go_ret
      exact ⟨rfl, Hb.out⟩
    · by_cases hs1 : 4294967296 ≤ s
      · have hz := hs1
        rw [decide_eq_false (by unfold Fr.ok; simp only; omega)]
        go_enter Try.func68, Try.ntmps68
        go_wp2_with fail
        with_reducible refine (within_calls _ _ _).mono ?_
        rintro e' w1 ⟨rfl, rfl⟩
        rw [decide_eq_false (by omega)]
        go_wp2
        go_ret
        exact ⟨rfl, Hb.out⟩
      · have hzs : 0 ≤ s := by omega
        by_cases he0 : e < 0
        · have hz := he0
          rw [decide_eq_false (by unfold Fr.ok; simp only; omega)]
          go_enter Try.func68, Try.ntmps68
          go_wp2_with fail
          with_reducible refine (within_calls _ _ _).mono ?_
          rintro e' w1 ⟨rfl, rfl⟩
          rw [decide_eq_true (by omega)]
          go_wp2_with fail
          with_reducible refine (within_calls _ _ _).mono ?_
          rintro e' w1 ⟨rfl, rfl⟩
          rw [decide_eq_false (by omega)]
          go_wp2
          go_ret
          exact ⟨rfl, Hb.out⟩
        · by_cases he1 : 4294967296 ≤ e
          · have hz := he1
            rw [decide_eq_false (by unfold Fr.ok; simp only; omega)]
            go_enter Try.func68, Try.ntmps68
            go_wp2_with fail
            with_reducible refine (within_calls _ _ _).mono ?_
            rintro e' w1 ⟨rfl, rfl⟩
            rw [decide_eq_true (by omega)]
            go_wp2_with fail
            with_reducible refine (within_calls _ _ _).mono ?_
            rintro e' w1 ⟨rfl, rfl⟩
            rw [decide_eq_false (by omega)]
            go_wp2
            go_ret
            exact ⟨rfl, Hb.out⟩
          · have hze : 0 ≤ e := by omega
            by_cases hi0 : i < 0
            · have hz := hi0
              rw [decide_eq_false (by unfold Fr.ok; simp only; omega)]
              go_enter Try.func68, Try.ntmps68
              go_wp2_with fail
              with_reducible refine (within_calls _ _ _).mono ?_
              rintro e' w1 ⟨rfl, rfl⟩
              rw [decide_eq_true (by omega)]
              go_wp2_with fail
              with_reducible refine (within_calls _ _ _).mono ?_
              rintro e' w1 ⟨rfl, rfl⟩
              rw [decide_eq_true (by omega)]
              go_wp2_with fail
              with_reducible refine (within_calls _ _ _).mono ?_
              rintro e' w1 ⟨rfl, rfl⟩
              rw [decide_eq_false (by omega)]
              go_wp2
              go_ret
              exact ⟨rfl, Hb.out⟩
            · by_cases hi1 : 65536 ≤ i
              · have hz := hi1
                rw [decide_eq_false (by unfold Fr.ok; simp only; omega)]
                go_enter Try.func68, Try.ntmps68
                go_wp2_with fail
                with_reducible refine (within_calls _ _ _).mono ?_
                rintro e' w1 ⟨rfl, rfl⟩
                rw [decide_eq_true (by omega)]
                go_wp2_with fail
                with_reducible refine (within_calls _ _ _).mono ?_
                rintro e' w1 ⟨rfl, rfl⟩
                rw [decide_eq_true (by omega)]
                go_wp2_with fail
                with_reducible refine (within_calls _ _ _).mono ?_
                rintro e' w1 ⟨rfl, rfl⟩
                rw [decide_eq_false (by omega)]
                go_wp2
                go_ret
                exact ⟨rfl, Hb.out⟩
              · have hzi : 0 ≤ i := by omega
                by_cases ht0 : t < 0
                · have hz := ht0
                  rw [decide_eq_false (by unfold Fr.ok; simp only; omega)]
                  go_enter Try.func68, Try.ntmps68
                  go_wp2_with fail
                  with_reducible refine (within_calls _ _ _).mono ?_
                  rintro e' w1 ⟨rfl, rfl⟩
                  rw [decide_eq_true (by omega)]
                  go_wp2_with fail
                  with_reducible refine (within_calls _ _ _).mono ?_
                  rintro e' w1 ⟨rfl, rfl⟩
                  rw [decide_eq_true (by omega)]
                  go_wp2_with fail
                  with_reducible refine (within_calls _ _ _).mono ?_
                  rintro e' w1 ⟨rfl, rfl⟩
                  rw [decide_eq_true (by omega)]
                  go_wp2_with fail
                  with_reducible refine (within_calls _ _ _).mono ?_
                  rintro e' w1 ⟨rfl, rfl⟩
                  rw [decide_eq_false (by omega)]
                  go_wp2
                  go_ret
                  exact ⟨rfl, Hb.out⟩
                · by_cases ht1 : 65536 ≤ t
                  · have hz := ht1
                    rw [decide_eq_false (by unfold Fr.ok; simp only; omega)]
                    go_enter Try.func68, Try.ntmps68
                    go_wp2_with fail
                    with_reducible refine (within_calls _ _ _).mono ?_
                    rintro e' w1 ⟨rfl, rfl⟩
                    rw [decide_eq_true (by omega)]
                    go_wp2_with fail
                    with_reducible refine (within_calls _ _ _).mono ?_
                    rintro e' w1 ⟨rfl, rfl⟩
                    rw [decide_eq_true (by omega)]
                    go_wp2_with fail
                    with_reducible refine (within_calls _ _ _).mono ?_
                    rintro e' w1 ⟨rfl, rfl⟩
                    rw [decide_eq_true (by omega)]
                    go_wp2_with fail
                    with_reducible refine (within_calls _ _ _).mono ?_
                    rintro e' w1 ⟨rfl, rfl⟩
                    rw [decide_eq_false (by omega)]
                    go_wp2
                    go_ret
                    exact ⟨rfl, Hb.out⟩
                  · have hzt : 0 ≤ t := by omega
                    by_cases hd : d.size ≤ 65000
                    · have hz := hd
                      rw [decide_eq_true (show Fr.ok _ from ⟨by simp, hzs, Int.not_le.1 hs1, hze, Int.not_le.1 he1, hzi, Int.not_le.1 hi1, hzt, Int.not_le.1 ht1, hd⟩)]
                      go_enter Try.func68, Try.ntmps68
                      go_wp2_with fail
                      with_reducible refine (within_calls _ _ _).mono ?_
                      rintro e' w1 ⟨rfl, rfl⟩
                      rw [decide_eq_true (by omega)]
                      go_wp2_with fail
                      with_reducible refine (within_calls _ _ _).mono ?_
                      rintro e' w1 ⟨rfl, rfl⟩
                      rw [decide_eq_true (by omega)]
                      go_wp2_with fail
                      with_reducible refine (within_calls _ _ _).mono ?_
                      rintro e' w1 ⟨rfl, rfl⟩
                      rw [decide_eq_true (by omega)]
                      go_wp2_with fail
                      with_reducible refine (within_calls _ _ _).mono ?_
                      rintro e' w1 ⟨rfl, rfl⟩
                      rw [decide_eq_true (by omega)]
                      go_wp2
                      go_ret
                      exact ⟨by show Ending.returned (.bool (decide _)) = _; rw [decide_eq_true (by omega)], Hb.out⟩
                    · have hz := hd
                      rw [decide_eq_false (by unfold Fr.ok; simp only; omega)]
                      go_enter Try.func68, Try.ntmps68
                      go_wp2_with fail
                      with_reducible refine (within_calls _ _ _).mono ?_
                      rintro e' w1 ⟨rfl, rfl⟩
                      rw [decide_eq_true (by omega)]
                      go_wp2_with fail
                      with_reducible refine (within_calls _ _ _).mono ?_
                      rintro e' w1 ⟨rfl, rfl⟩
                      rw [decide_eq_true (by omega)]
                      go_wp2_with fail
                      with_reducible refine (within_calls _ _ _).mono ?_
                      rintro e' w1 ⟨rfl, rfl⟩
                      rw [decide_eq_true (by omega)]
                      go_wp2_with fail
                      with_reducible refine (within_calls _ _ _).mono ?_
                      rintro e' w1 ⟨rfl, rfl⟩
                      rw [decide_eq_true (by omega)]
                      go_wp2
                      go_ret
                      exact ⟨by show Ending.returned (.bool (decide _)) = _; rw [decide_eq_false (by omega)], Hb.out⟩
  have hk2b : (k == 2) = false := by simp; omega
  rw [decide_eq_false (by unfold Fr.ok; simp only; omega)]
  go_enter Try.func68, Try.ntmps68
  go_wp2
  go_ret
  exact ⟨rfl, Hb.out⟩
set_option maxRecDepth 100000 in
set_option maxHeartbeats 4000000 in
theorem RRight_calls (w : World) (f : Fr) :
   Calls Try.prog 71 #[f.val] w fun e w' => e = .returned (.bool (decide f.ok)) ∧ Below w.heap.size w w' := by
  obtain ⟨k, s, e, i, t, d⟩ := f
  unfold Fr.val
  have hb := (Below.refl w.heap.size w).alloc (Nat.le_refl _) (.cells #[.int .i64 k, .int .i64 s, .int .i64 e, .int .i64 i, .int .i64 t, .string d] 32)
  have Hb := Lib.hid hb; clear hb
  by_cases hk1 : k = 1
  · subst hk1
    by_cases hs0 : s < 0
    · have hz := hs0
      rw [decide_eq_false (by unfold Fr.ok; simp only; omega)]
      go_enter Try.func71, Try.ntmps71
      go_wp2
      go_ret
      exact ⟨rfl, Hb.out⟩
    · by_cases hs1 : 4294967296 ≤ s
      · have hz := hs1
        rw [decide_eq_false (by unfold Fr.ok; simp only; omega)]
        go_enter Try.func71, Try.ntmps71
        go_wp2
        go_ret
        exact ⟨rfl, Hb.out⟩
      · have hzs : 0 ≤ s := by omega
        by_cases he0 : e < 0
        · have hz := he0
          rw [decide_eq_false (by unfold Fr.ok; simp only; omega)]
          go_enter Try.func71, Try.ntmps71
          go_wp2
          go_ret
          exact ⟨rfl, Hb.out⟩
        · by_cases he1 : 4294967296 ≤ e
          · have hz := he1
            rw [decide_eq_false (by unfold Fr.ok; simp only; omega)]
            go_enter Try.func71, Try.ntmps71
            go_wp2
            go_ret
            exact ⟨rfl, Hb.out⟩
          · have hze : 0 ≤ e := by omega
            by_cases hi0 : i < 0
            · have hz := hi0
              rw [decide_eq_false (by unfold Fr.ok; simp only; omega)]
              go_enter Try.func71, Try.ntmps71
              go_wp2
              go_ret
              exact ⟨rfl, Hb.out⟩
            · by_cases hi1 : 65536 ≤ i
              · have hz := hi1
                rw [decide_eq_false (by unfold Fr.ok; simp only; omega)]
                go_enter Try.func71, Try.ntmps71
                go_wp2
                go_ret
                exact ⟨rfl, Hb.out⟩
              · have hzi : 0 ≤ i := by omega
                by_cases ht0 : t < 0
                · have hz := ht0
                  rw [decide_eq_false (by unfold Fr.ok; simp only; omega)]
                  go_enter Try.func71, Try.ntmps71
                  go_wp2
                  go_ret
                  exact ⟨rfl, Hb.out⟩
                · by_cases ht1 : 65536 ≤ t
                  · have hz := ht1
                    rw [decide_eq_false (by unfold Fr.ok; simp only; omega)]
                    go_enter Try.func71, Try.ntmps71
                    go_wp2
                    go_ret
                    exact ⟨rfl, Hb.out⟩
                  · have hzt : 0 ≤ t := by omega
                    by_cases hd : d.size ≤ 65000
                    · have hz := hd
                      rw [decide_eq_true (show Fr.ok _ from ⟨by simp, hzs, Int.not_le.1 hs1, hze, Int.not_le.1 he1, hzi, Int.not_le.1 hi1, hzt, Int.not_le.1 ht1, hd⟩)]
                      go_enter Try.func71, Try.ntmps71
                      go_wp2
                      go_ret
                      exact ⟨by show Ending.returned (.bool (decide _)) = _; rw [decide_eq_true (by omega)], Hb.out⟩
                    · have hz := hd
                      rw [decide_eq_false (by unfold Fr.ok; simp only; omega)]
                      go_enter Try.func71, Try.ntmps71
                      go_wp2
                      go_ret
                      exact ⟨by show Ending.returned (.bool (decide _)) = _; rw [decide_eq_false (by omega)], Hb.out⟩
  have hk1b : (k == 1) = false := by simp; omega
  by_cases hk2 : k = 2
  · subst hk2
    by_cases hs0 : s < 0
    · have hz := hs0
      rw [decide_eq_false (by unfold Fr.ok; simp only; omega)]
      go_enter Try.func71, Try.ntmps71
      go_wp2
      go_ret
      exact ⟨rfl, Hb.out⟩
    · by_cases hs1 : 4294967296 ≤ s
      · have hz := hs1
        rw [decide_eq_false (by unfold Fr.ok; simp only; omega)]
        go_enter Try.func71, Try.ntmps71
        go_wp2
        go_ret
        exact ⟨rfl, Hb.out⟩
      · have hzs : 0 ≤ s := by omega
        by_cases he0 : e < 0
        · have hz := he0
          rw [decide_eq_false (by unfold Fr.ok; simp only; omega)]
          go_enter Try.func71, Try.ntmps71
          go_wp2
          go_ret
          exact ⟨rfl, Hb.out⟩
        · by_cases he1 : 4294967296 ≤ e
          · have hz := he1
            rw [decide_eq_false (by unfold Fr.ok; simp only; omega)]
            go_enter Try.func71, Try.ntmps71
            go_wp2
            go_ret
            exact ⟨rfl, Hb.out⟩
          · have hze : 0 ≤ e := by omega
            by_cases hi0 : i < 0
            · have hz := hi0
              rw [decide_eq_false (by unfold Fr.ok; simp only; omega)]
              go_enter Try.func71, Try.ntmps71
              go_wp2
              go_ret
              exact ⟨rfl, Hb.out⟩
            · by_cases hi1 : 65536 ≤ i
              · have hz := hi1
                rw [decide_eq_false (by unfold Fr.ok; simp only; omega)]
                go_enter Try.func71, Try.ntmps71
                go_wp2
                go_ret
                exact ⟨rfl, Hb.out⟩
              · have hzi : 0 ≤ i := by omega
                by_cases ht0 : t < 0
                · have hz := ht0
                  rw [decide_eq_false (by unfold Fr.ok; simp only; omega)]
                  go_enter Try.func71, Try.ntmps71
                  go_wp2
                  go_ret
                  exact ⟨rfl, Hb.out⟩
                · by_cases ht1 : 65536 ≤ t
                  · have hz := ht1
                    rw [decide_eq_false (by unfold Fr.ok; simp only; omega)]
                    go_enter Try.func71, Try.ntmps71
                    go_wp2
                    go_ret
                    exact ⟨rfl, Hb.out⟩
                  · have hzt : 0 ≤ t := by omega
                    by_cases hd : d.size ≤ 65000
                    · have hz := hd
                      rw [decide_eq_true (show Fr.ok _ from ⟨by simp, hzs, Int.not_le.1 hs1, hze, Int.not_le.1 he1, hzi, Int.not_le.1 hi1, hzt, Int.not_le.1 ht1, hd⟩)]
                      go_enter Try.func71, Try.ntmps71
                      go_wp2
                      go_ret
                      exact ⟨by show Ending.returned (.bool (decide _)) = _; rw [decide_eq_true (by omega)], Hb.out⟩
                    · have hz := hd
                      rw [decide_eq_false (by unfold Fr.ok; simp only; omega)]
                      go_enter Try.func71, Try.ntmps71
                      go_wp2
                      go_ret
                      exact ⟨by show Ending.returned (.bool (decide _)) = _; rw [decide_eq_false (by omega)], Hb.out⟩
  have hk2b : (k == 2) = false := by simp; omega
  rw [decide_eq_false (by unfold Fr.ok; simp only; omega)]
  go_enter Try.func71, Try.ntmps71
  go_wp2
  go_ret
  exact ⟨rfl, Hb.out⟩

def bev (l : List UInt8) : Nat := l.foldl (fun n b => 256 * n + b.toNat) 0
theorem bev_snoc (l : List UInt8) (b : UInt8) : bev (l ++ [b]) = 256 * bev l + b.toNat := by unfold bev; rw [List.foldl_append]; rfl
theorem bev_take (s : ByteArray) (k : Nat) (h : k < s.size) : bev (s.data.toList.take (k + 1)) = 256 * bev (s.data.toList.take k) + s[k].toNat := by
  rw [List.take_succ_eq_append_getElem (by simpa using h), bev_snoc]; rfl
theorem bev_go : ∀ (l : List UInt8) (n : Nat), l.foldl (fun n b => 256 * n + b.toNat) n < (n + 1) * 256 ^ l.length
  | [], n => by simp
  | b :: l, n => by
    have ih := bev_go l (256 * n + b.toNat)
    have hb := b.toNat_lt
    have : (256 * n + b.toNat + 1) * 256 ^ l.length ≤ ((n + 1) * 256) * 256 ^ l.length := Nat.mul_le_mul_right _ (by omega)
    rw [List.foldl_cons, List.length_cons, Nat.pow_succ, Nat.mul_comm (256 ^ l.length) 256, ← Nat.mul_assoc]
    omega
theorem bev_lt (l : List UInt8) : bev l < 256 ^ l.length := by
  have := bev_go l 0
  rw [Nat.zero_add, Nat.one_mul] at this; exact this
theorem i64_or_byte (b c : Nat) (hb : b < 4294967296) (hc : c < 256) : bits .or .i64 ((b : Int) * 256) (c : Int) = ((256 * b + c : Nat) : Int) := by
  have e : (b : Int) * 256 = ((b * 256 : Nat) : Int) := by simp
  rw [e]
  show IntKind.i64.wrap ((BitVec.ofInt 64 ((b * 256 : Nat) : Int) ||| BitVec.ofInt 64 (c : Int)).toNat : Int) = _
  rw [BitVec.toNat_or, BitVec.ofInt_natCast, BitVec.ofInt_natCast, BitVec.toNat_ofNat, BitVec.toNat_ofNat, Nat.mod_eq_of_lt (by omega), Nat.mod_eq_of_lt (by omega)]
  have h2 := Nat.two_pow_add_eq_or_of_lt (i := 8) (b := c) (by omega) b
  rw [Nat.mul_comm b 256, show (256 : Nat) = 2 ^ 8 from rfl, ← h2]
  exact IntWalk.i64_in _ (by omega)
end Go.Proofs.Ytpgcdfdfbcmodaa
