/- The walks of chunk.Cut where it refuses, of the reference's Cut and Same, and of Join. -/
import Derived.Test.YtjdljpikgngcoaaChunkCut
namespace Go.Proofs.Ytjdljpikgngcoaa
open Go.RowKit
set_option linter.unusedVariables false
set_option maxHeartbeats 1000000 in
theorem Cut_arg (w : World) (s : ByteArray) (m : Int) (h1 : -9223372036854775808 ≤ m) (h2 : m ≤ 9223372036854775807) (hE : szE m = 1) :
   Calls Try.prog 9 #[.string s, .int .i64 m] w fun e w' => e = .returned (.tuple #[.slice none 0 0, .int .i64 1]) ∧ w = w' := by
  have HE := Lib.hid hE; clear hE
  go_enter Try.func9, Try.ntmps9
  go_wp2_with fail
  go_step3
  go_wp2_with fail
  with_reducible refine (Size_calls _ m h1 h2).mono ?_
  rintro e w' ⟨rfl, rfl⟩
  rw [HE.out]
  go_wp2
  (try rw [Exit.noGoto_ret])
  go_ret2
  exact ⟨rfl, rfl⟩
set_option maxHeartbeats 1000000 in
theorem Cut_big (w : World) (s : ByteArray) (m : Int) (h1 : -9223372036854775808 ≤ m) (h2 : m ≤ 9223372036854775807) (hs : s.size ≤ 9223372036854775807) (hE : szE m = 0) (hc : cntI s.size m = -1) :
   Calls Try.prog 9 #[.string s, .int .i64 m] w fun e w' => e = .returned (.tuple #[.slice none 0 0, .int .i64 7]) ∧ w = w' := by
  have HE := Lib.hid hE; clear hE
  have HC := Lib.hid hc; clear hc
  go_enter Try.func9, Try.ntmps9
  go_wp2_with fail
  go_step3
  go_wp2_with fail
  with_reducible refine (Size_calls _ m h1 h2).mono ?_
  rintro e w' ⟨rfl, rfl⟩
  rw [HE.out]
  go_wp2_with fail
  with_reducible refine (Count_calls _ s.size m h1 h2 (by omega) (by omega)).mono ?_
  rintro e w' ⟨rfl, rfl⟩
  rw [HC.out]
  go_wp2
  (try rw [Exit.noGoto_ret])
  go_ret2
  exact ⟨rfl, rfl⟩
set_option maxHeartbeats 1000000 in
theorem RCut_arg (w : World) (s : ByteArray) (m : Int) (h1 : -9223372036854775808 ≤ m) (h2 : m ≤ 9223372036854775807) (hE : szI m = 0) :
   Calls Try.prog 10 #[.string s, .int .i64 m] w fun e w' => e = .returned (.tuple #[.slice none 0 0, .int .i64 1]) ∧ w = w' := by
  have HE := Lib.hid hE; clear hE
  go_enter Try.func10, Try.ntmps10
  go_wp2_with fail
  with_reducible refine (RSize_calls _ m h1 h2).mono ?_
  rintro e w' ⟨rfl, rfl⟩
  rw [HE.out]
  go_wp2
  go_ret2
  exact ⟨rfl, rfl⟩
set_option maxHeartbeats 1000000 in
theorem RCut_big (w : World) (s : ByteArray) (m : Int) (h1 : -9223372036854775808 ≤ m) (h2 : m ≤ 9223372036854775807) (hs : s.size ≤ 9223372036854775807) (hE : (szI m == 0) = false) (hc : cntI s.size m = -1) :
   Calls Try.prog 10 #[.string s, .int .i64 m] w fun e w' => e = .returned (.tuple #[.slice none 0 0, .int .i64 7]) ∧ w = w' := by
  have HC := Lib.hid hc; clear hc
  go_enter Try.func10, Try.ntmps10
  go_wp2_with fail
  with_reducible refine (RSize_calls _ m h1 h2).mono ?_
  rintro e w' ⟨rfl, rfl⟩
  go_wp2_with fail
  with_reducible refine (RCount_calls _ s.size m h1 h2 (by omega) (by omega)).mono ?_
  rintro e w' ⟨rfl, rfl⟩
  rw [HC.out]
  go_wp2
  go_ret2
  exact ⟨rfl, rfl⟩
set_option maxRecDepth 100000 in
set_option maxHeartbeats 2000000 in
theorem RCut_ok (w : World) (s : ByteArray) (m : Int) (k : Nat) (h1 : -9223372036854775808 ≤ m) (h2 : m ≤ 9223372036854775807) (hk : szI m = k) (h0 : 0 < k) (hs : s.size ≤ 256 * k) (hk2 : k ≤ 1000) :
   Calls Try.prog 10 #[.string s, .int .i64 m] w (CutOk w (chs s k (cntN s.size k))) := by
  have hc := cntI_N s.size m k hk h0 hs
  have hc1 := cntN_pos s.size k
  have hcl := cntN_le s.size k h0 hs
  have hpred := cntN_pred s.size k h0
  have Hc := Lib.hid hc; clear hc
  have Hk := Lib.hid hk; clear hk
  have Hpred := Lib.hid hpred; clear hpred
  have hk0 : ((k : Int) == 0) = false := by simp; omega
  generalize hN : cntN s.size k = N at Hc hc1 hcl Hpred ⊢
  clear hN
  go_enter Try.func10, Try.ntmps10
  go_wp2_with fail
  with_reducible refine (RSize_calls _ m h1 h2).mono ?_
  rintro e w' ⟨rfl, rfl⟩
  rw [Hk.out]
  go_wp2_with fail
  with_reducible refine (RCount_calls _ s.size m h1 h2 (by omega) (by omega)).mono ?_
  rintro e w' ⟨rfl, rfl⟩
  rw [Hc.out]
  have hd : decide (((N : Nat) : Int) < 0) = false := by simp
  go_wp2
  go_loopw [8, 9] (fun v i wr => ∃ (j : Nat), j ≤ N ∧ i = .int .i64 j ∧ Below w.heap.size w wr ∧ wr.ownsRow w.heap.size 9 1 v j ((chs s k j).map .string)) (fun _ i _ => N - (intOf i).toNat)
  case atStart => exact ⟨0, by omega, rfl, Below.refl _ _, World.ownsRow_nil _ _ _ _⟩
  case round =>
    obtain ⟨j, hj, rfl, hbel0, hown0⟩ := hrel
    by_cases hlt : j < N
    · have hjk : j * k ≤ s.size := by
        cases j with
        | zero => omega
        | succ i => exact Nat.le_of_lt (Hpred.out i hlt)
      have hjm : j * k ≤ 256 * 1000 := Nat.mul_le_mul (by omega) hk2
      have hmin : min ((s.size : Nat) : Int) ((j : Int) * k + k) = ((min s.size (j * k + k) : Nat) : Int) := by
        omega
      go_wp2_with (with_reducible refine wpList_mark (o := ⟨some 40, _, _, _, _, _⟩) ?_)
      refine Marked.intro ?_
      refine wpList_push rfl _ _ 23 rfl w.heap.size 9 (.string ⟨#[]⟩) 1 16 Try.underlying23 info_str rfl (by omega) wr u8 j ((chs s k j).map .string) (by rfl) hown0 [.string (s.extract (j * k) (min s.size (j * k + k)))] (by rfl) rfl (by simp [Value.oneCell']) (by omega) (by unfold maxLen; omega) hbel0.size ?_
      intro v1 w1 hown hbel hsz
      go_wp2
      exact ⟨⟨j + 1, by omega, rfl, hbel0.trans hbel, by rw [chs_succ, List.map_append]; exact hown⟩, by simp only [intOf]; omega⟩
    · have hjN : j = N := by omega
      subst hjN
      go_wp2
      go_ret2
      refine ⟨_, rfl, hbel0, texts_of_own ?_ ?_⟩
      · rw [chs_length]; exact hown0
      · intro e
        have := congrArg List.length e
        rw [chs_length] at this; simp at this; omega
end Go.Proofs.Ytjdljpikgngcoaa
