/- The walk of sender.New where it refuses; the methods of a sender that is none. -/
import Derived.Test.YtcmgmdgeimmbeaaSenNew
namespace Go.Proofs.Ytcmgmdgeimmbeaa
open Go.RowKit
set_option linter.unusedVariables false
set_option linter.unusedSimpArgs false
def mayB (ses ep : Int) (C : List ByteArray) : Bool := decide (0 ≤ ses ∧ ses < 4294967296) && decide (0 ≤ ep ∧ ep < 4294967296) && !(C.any fun c => decide (1000 < c.size)) && decide (1 ≤ C.length ∧ C.length ≤ 256)
set_option maxHeartbeats 8000000 in
set_option maxRecDepth 100000 in
theorem SNew_bad (w : World) (ses ep : Int) (C : List ByteArray) (ad : Option Addr) (cap : Nat) (h : Strs C ad w) (hn : C.length ≤ 1000) (hs : ∀ (j : Nat) c, C[j]? = some c → c.size ≤ 9223372036854775807) (hbad : mayB ses ep C = false) :
    Calls Try.prog 11 #[.int .i64 ses, .int .i64 ep, .slice ad C.length cap] w fun e w' => e = .returned (.tuple #[.pointer none, .int .i64 1]) ∧ Below w.heap.size w w' := by
  have hcon := ContainsFunc_str #[] (fun c => decide (1000 < c.size)) ad cap C w (by omega) h (fun j c hj W hW => long_calls W c (hs j c hj))
  clear h hs
  unfold mayB at hbad
  generalize C.length = n at *
  cases hany : (C.any fun c => decide (1000 < c.size)) with
  | true =>
    rw [hany] at hcon
    have HCON := Lib.hid hcon; clear hcon hbad hany
    go_enter Try.func11, Try.ntmps11
    go_wp2_with fail
    refine HCON.out.mono ?_
    rintro e w1 ⟨rfl, q, rfl⟩
    go_wp2
    all_goals
      go_ret2
      exact ⟨rfl, below_drewN_of⟩
  | false =>
    rw [hany] at hcon hbad
    have HCON := Lib.hid hcon; clear hcon hany
    by_cases a1 : 0 ≤ ses ∧ ses < 4294967296
    · obtain ⟨a1, a2⟩ := a1
      have e1 : decide (ses < 0) = false := by simpa using a1
      have e2 : decide (4294967296 ≤ ses) = false := by simp; omega
      by_cases a3 : 0 ≤ ep ∧ ep < 4294967296
      · obtain ⟨a3, a4⟩ := a3
        have e3 : decide (ep < 0) = false := by simpa using a3
        have e4 : decide (4294967296 ≤ ep) = false := by simp; omega
        have hnb : (n : Int) < 1 ∨ 256 < (n : Int) := by
          have : ¬ (1 ≤ n ∧ n ≤ 256) := by
            intro hh
            simp [a1, a2, a3, a4, hh] at hbad
          omega
        have hnew := fun w => New_bad w n hnb
        have HNEW := Lib.hid hnew; clear hnew hbad hnb
        go_enter Try.func11, Try.ntmps11
        go_wp2_with fail
        refine HCON.out.mono ?_
        rintro e w1 ⟨rfl, q, rfl⟩
        go_wp2_with fail
        refine (HNEW.out _).mono ?_
        rintro e w1 ⟨rfl, rfl⟩
        go_wp2
        go_ret2
        exact ⟨rfl, below_drewN_of⟩
      · clear hbad
        go_enter Try.func11, Try.ntmps11
        go_wp2_with fail
        refine HCON.out.mono ?_
        rintro e w1 ⟨rfl, q, rfl⟩
        by_cases a5 : ep < 0
        · have e3 : decide (ep < 0) = true := by simpa using a5
          go_wp2
          go_ret2
          exact ⟨rfl, below_drewN_of⟩
        · have e3 : decide (ep < 0) = false := by simpa using a5
          have e4 : decide (4294967296 ≤ ep) = true := by simp; omega
          go_wp2
          go_ret2
          exact ⟨rfl, below_drewN_of⟩
    · clear hbad
      go_enter Try.func11, Try.ntmps11
      go_wp2_with fail
      refine HCON.out.mono ?_
      rintro e w1 ⟨rfl, q, rfl⟩
      by_cases a5 : ses < 0
      · have e3 : decide (ses < 0) = true := by simpa using a5
        go_wp2
        all_goals
          go_ret2
          exact ⟨rfl, below_drewN_of⟩
      · have e3 : decide (ses < 0) = false := by simpa using a5
        have e4 : decide (4294967296 ≤ ses) = true := by simp; omega
        go_wp2
        all_goals
          go_ret2
          exact ⟨rfl, below_drewN_of⟩
set_option maxHeartbeats 2000000 in
theorem Tick_nil (w : World) : Calls Try.prog 15 #[.pointer none] w fun e w' => e = .returned (.tuple #[.slice none 0 0, .int .i64 10]) ∧ Below w.heap.size w w' := by
  have hb := (Below.refl w.heap.size w).alloc (Nat.le_refl _) (.cells #[.pointer none] 26)
  have HB := Lib.hid hb; clear hb
  go_enter Try.func15, Try.ntmps15
  go_wp2
  go_ret2
  exact ⟨rfl, HB.out⟩
set_option maxHeartbeats 2000000 in
theorem Ack_nil (w : World) (k s e i t : Int) (d : ByteArray) : Calls Try.prog 13 #[.pointer none, .agg #[.int .i64 k, .int .i64 s, .int .i64 e, .int .i64 i, .int .i64 t, .string d]] w fun x w' => x = .returned (.int .i64 10) ∧ Below w.heap.size w w' := by
  have hb := (Below.refl w.heap.size w).alloc (Nat.le_refl _) (.cells #[.int .i64 k, .int .i64 s, .int .i64 e, .int .i64 i, .int .i64 t, .string d] 31)
  have HB := Lib.hid hb; clear hb
  go_enter Try.func13, Try.ntmps13
  go_wp2
  go_ret
  exact ⟨rfl, HB.out⟩
set_option maxHeartbeats 2000000 in
theorem Done_nil (w : World) : Calls Try.prog 16 #[.pointer none] w fun e w' => e = .returned (.bool false) ∧ w = w' := by
  go_enter Try.func16, Try.ntmps16
  go_wp2
  go_ret
  exact ⟨rfl, rfl⟩
set_option maxHeartbeats 2000000 in
theorem Err_nil (w : World) : Calls Try.prog 19 #[.pointer none] w fun e w' => e = .returned (.int .i64 10) ∧ w = w' := by
  go_enter Try.func19, Try.ntmps19
  go_wp2
  go_ret
  exact ⟨rfl, rfl⟩
set_option maxHeartbeats 2000000 in
theorem There_nil (w : World) : Calls Try.prog 12 #[.pointer none] w fun e w' => e = .returned (.pointer none) ∧ w = w' := by
  go_enter Try.func12, Try.ntmps12
  go_wp2
  go_ret
  exact ⟨rfl, rfl⟩
set_option maxHeartbeats 2000000 in
theorem Tries_nil (w : World) (i : Int) : Calls Try.prog 17 #[.pointer none, .int .i64 i] w fun e w' => e = .returned (.int .i64 0) ∧ w = w' := by
  go_enter Try.func17, Try.ntmps17
  go_wp2
  go_ret
  exact ⟨rfl, rfl⟩
end Go.Proofs.Ytcmgmdgeimmbeaa
