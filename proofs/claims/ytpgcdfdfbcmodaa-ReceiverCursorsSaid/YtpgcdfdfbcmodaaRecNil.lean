/- The walk of receiver.New where it refuses; the methods of a receiver that is none; the law's data; small. -/
import Derived.Test.YtpgcdfdfbcmodaaRecCur
namespace Go.Proofs.Ytpgcdfdfbcmodaa
open Go.RowKit Go.Maps
set_option linter.unusedVariables false
set_option linter.unusedSimpArgs false
def mayR (ses ep n : Int) : Bool := decide (0 ≤ ses ∧ ses < 4294967296) && decide (0 ≤ ep ∧ ep < 4294967296) && decide (1 ≤ n ∧ n ≤ 256)
set_option maxHeartbeats 4000000 in
set_option maxRecDepth 100000 in
theorem RNew_bad (w : World) (ses ep n : Int) (hbad : mayR ses ep n = false) :
    Calls Try.prog 16 #[.int .i64 ses, .int .i64 ep, .int .i64 n] w fun e w' => e = .returned (.tuple #[.pointer none, .int .i64 1]) ∧ Below w.heap.size w w' := by
  by_cases hn : 1 ≤ n ∧ n ≤ 256
  · obtain ⟨m, rfl⟩ : ∃ m : Nat, n = m := ⟨n.toNat, by omega⟩
    have hnew := New_calls w m (by omega) (by omega)
    have hb2 : ¬ ((0 ≤ ses ∧ ses < 4294967296) ∧ (0 ≤ ep ∧ ep < 4294967296)) := by
      intro hh
      simp [mayR, hh, hn] at hbad
    have HNEW := Lib.hid hnew; clear hnew hbad hn
    by_cases a1 : ses < 0
    · have e1 : decide (ses < 0) = true := by simpa using a1
      clear hb2
      go_enter Try.func16, Try.ntmps16
      go_wp2_with fail
      refine HNEW.out.mono ?_
      rintro e w2 ⟨rfl, -, hb2, -⟩
      go_wp2
      go_ret2
      exact ⟨rfl, hb2⟩
    · have e1 : decide (ses < 0) = false := by simpa using a1
      by_cases a2 : 4294967296 ≤ ses
      · have e2 : decide (4294967296 ≤ ses) = true := by simpa using a2
        clear hb2
        go_enter Try.func16, Try.ntmps16
        go_wp2_with fail
        refine HNEW.out.mono ?_
        rintro e w2 ⟨rfl, -, hb2, -⟩
        go_wp2
        go_ret2
        exact ⟨rfl, hb2⟩
      · have e2 : decide (4294967296 ≤ ses) = false := by simpa using a2
        by_cases a3 : ep < 0
        · have e3 : decide (ep < 0) = true := by simpa using a3
          clear hb2
          go_enter Try.func16, Try.ntmps16
          go_wp2_with fail
          refine HNEW.out.mono ?_
          rintro e w2 ⟨rfl, -, hb2, -⟩
          go_wp2
          go_ret2
          exact ⟨rfl, hb2⟩
        · have e3 : decide (ep < 0) = false := by simpa using a3
          have e4 : decide (4294967296 ≤ ep) = true := by simp; omega
          clear hb2
          go_enter Try.func16, Try.ntmps16
          go_wp2_with fail
          refine HNEW.out.mono ?_
          rintro e w2 ⟨rfl, -, hb2, -⟩
          go_wp2
          go_ret2
          exact ⟨rfl, hb2⟩
  · have hnew := New_bad w n (by omega)
    have HNEW := Lib.hid hnew; clear hnew hbad hn
    go_enter Try.func16, Try.ntmps16
    go_wp2_with fail
    refine HNEW.out.mono ?_
    rintro e w2 ⟨rfl, rfl⟩
    go_wp2
    go_ret2
    exact ⟨rfl, Below.refl _ _⟩
theorem Data_nil (w : World) : Calls Try.prog 19 #[.pointer none] w fun e w' => e = .returned (.tuple #[.string ⟨#[]⟩, .int .i64 10]) ∧ w = w' := by
  go_enter Try.func19, Try.ntmps19
  go_wp2
  go_ret2
  exact ⟨rfl, rfl⟩
theorem Take_nil (w : World) (f : Fr) : Calls Try.prog 18 #[.pointer none, f.val] w fun e w' => e = .returned (.int .i64 10) ∧ Below w.heap.size w w' := by
  obtain ⟨k, s, e, i, t, d⟩ := f
  unfold Fr.val
  have hb := (Below.refl w.heap.size w).alloc (Nat.le_refl _) (.cells #[.int .i64 k, .int .i64 s, .int .i64 e, .int .i64 i, .int .i64 t, .string d] 32)
  go_enter Try.func18, Try.ntmps18
  go_wp2
  go_ret
  exact ⟨rfl, hb⟩
theorem Done_nil (w : World) : Calls Try.prog 20 #[.pointer none] w fun e w' => e = .returned (.bool false) ∧ w = w' := by
  go_enter Try.func20, Try.ntmps20
  go_wp2
  go_ret
  exact ⟨rfl, rfl⟩
theorem There_nil (w : World) : Calls Try.prog 21 #[.pointer none] w fun e w' => e = .returned (.pointer none) ∧ w = w' := by
  go_enter Try.func21, Try.ntmps21
  go_wp2
  go_ret
  exact ⟨rfl, rfl⟩
theorem Drops_nil (w : World) (x : Int) : Calls Try.prog 17 #[.pointer none, .int .i64 x] w fun e w' => e = .returned (.int .i64 0) ∧ w = w' := by
  go_enter Try.func17, Try.ntmps17
  go_wp2
  go_ret
  exact ⟨rfl, rfl⟩
theorem Cursor_nil (w : World) : Calls Try.prog 13 #[.pointer none] w fun e w' => e = .returned (.string ⟨#[]⟩) ∧ w = w' := by
  go_enter Try.func13, Try.ntmps13
  go_wp2
  go_ret
  exact ⟨rfl, rfl⟩
set_option maxHeartbeats 4000000 in
set_option maxRecDepth 100000 in
theorem Ack_nil (w : World) : Calls Try.prog 14 #[.pointer none] w fun e w' => e = .returned (.agg #[.int .i64 0, .int .i64 0, .int .i64 0, .int .i64 0, .int .i64 0, .string ⟨#[]⟩]) ∧ Below w.heap.size w w' := by
  have hb := (Below.refl w.heap.size w).alloc (Nat.le_refl _) (.cells #[.int .i64 0, .int .i64 0, .int .i64 0, .int .i64 0, .int .i64 0, .string ⟨#[]⟩] 32)
  have hA := heap_alloc_new w (.cells #[.int .i64 0, .int .i64 0, .int .i64 0, .int .i64 0, .int .i64 0, .string ⟨#[]⟩] 32)
  go_enter Try.func14, Try.ntmps14
  go_wp2_with (with_reducible refine wpList_mark (o := ⟨none, .store _ _ _, _, _, _, _⟩) ?_)
  refine Marked.intro ?_
  generalize w.alloc (.cells #[.int .i64 0, .int .i64 0, .int .i64 0, .int .i64 0, .int .i64 0, .string ⟨#[]⟩] 32) = w1 at *
  refine wpList_do rfl (exec_store_row _ 32 (.tmp 2) (.tmp 5) (by rfl) w1 w.heap.size 32 #[.int .i64 0, .int .i64 0, .int .i64 0, .int .i64 0, .int .i64 0, .string ⟨#[]⟩] #[.int .i64 0, .int .i64 0, .int .i64 0, .int .i64 0, .int .i64 0, .string ⟨#[]⟩] (by rfl) (by rfl) (by kernel_rfl) rfl (by simp [Value.oneCell']) hA) ?_
  rw [setRow_self _ _ _ _ _ hA]
  go_wp2
  refine bodyPost_ret (results_one rfl _ _ _ ⟨w.heap.size, 0, none⟩ _ rfl (loadFr _ _ _ _ _ rfl hA)) rfl ?_
  exact ⟨rfl, hb⟩
set_option maxHeartbeats 4000000 in
set_option maxRecDepth 100000 in
theorem data_calls (w : World) (i : Int) (s : ByteArray) : Calls Try.prog 31 #[.int .i64 i, .string s] w fun e w' => e = .returned (Fr.val ⟨1, 7, 8, i, 3, s⟩) ∧ Below w.heap.size w w' := by
  have hb := (Below.refl w.heap.size w).alloc (Nat.le_refl _) (.cells #[.int .i64 0, .int .i64 0, .int .i64 0, .int .i64 0, .int .i64 0, .string ⟨#[]⟩] 32)
  have hA := heap_alloc_new w (.cells #[.int .i64 0, .int .i64 0, .int .i64 0, .int .i64 0, .int .i64 0, .string ⟨#[]⟩] 32)
  go_enter Try.func31, Try.ntmps31
  go_wp2_with (with_reducible refine wpList_mark (o := ⟨none, .store _ _ _, _, _, _, _⟩) ?_)
  refine Marked.intro ?_
  generalize w.alloc (.cells #[.int .i64 0, .int .i64 0, .int .i64 0, .int .i64 0, .int .i64 0, .string ⟨#[]⟩] 32) = w1 at *
  have hrow := setRow_heap w1 w.heap.size _ #[.int .i64 1, .int .i64 7, .int .i64 8, .int .i64 i, .int .i64 3, .string s] _ _ hA
  have hbr := below_row hb (Nat.le_refl _) #[.int .i64 1, .int .i64 7, .int .i64 8, .int .i64 i, .int .i64 3, .string s]
  refine wpList_do rfl (exec_store_row _ 32 (.tmp 4) (.tmp 7) (by rfl) w1 w.heap.size 32 #[.int .i64 1, .int .i64 7, .int .i64 8, .int .i64 i, .int .i64 3, .string s] #[.int .i64 0, .int .i64 0, .int .i64 0, .int .i64 0, .int .i64 0, .string ⟨#[]⟩] (by rfl) (by rfl) (by kernel_rfl) rfl (by simp [Value.oneCell']) hA) ?_
  generalize w1.setRow w.heap.size _ = w3 at *
  go_wp2
  refine bodyPost_ret (results_one rfl _ _ _ ⟨w.heap.size, 0, none⟩ _ rfl (loadFr _ _ _ _ _ rfl hrow)) rfl ?_
  exact ⟨rfl, hbr⟩
theorem small_calls (w : World) (n : Nat) (hn : n < 18446744073709551616) : Calls Try.prog 35 #[.int .u64 n] w fun e w' => e = .returned (.int .i64 (min n 4294967296 : Nat)) ∧ w = w' := by
  by_cases h : (n : Int) ≤ 4294967296
  · have h1 : min (n : Int) 4294967296 = (n : Int) := by omega
    have h2 : min n 4294967296 = n := by omega
    rw [h2]
    go_enter Try.func35, Try.ntmps35
    go_wp2
    go_ret
    exact ⟨rfl, rfl⟩
  · have h1 : min (n : Int) 4294967296 = 4294967296 := by omega
    have h2 : min n 4294967296 = 4294967296 := by omega
    rw [h2]
    go_enter Try.func35, Try.ntmps35
    go_wp2
    go_ret
    exact ⟨rfl, rfl⟩
end Go.Proofs.Ytpgcdfdfbcmodaa
