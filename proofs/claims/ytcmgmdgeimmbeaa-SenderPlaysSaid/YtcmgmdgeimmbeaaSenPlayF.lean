/- The walk of the law SenderPlays: what may not be played. -/
import Derived.Test.YtcmgmdgeimmbeaaSenPlayS
import Derived.Test.YtcmgmdgeimmbeaaOpenSps
namespace Go.Proofs.Ytcmgmdgeimmbeaa
open Go.RowKit Go.Sort
set_option linter.unusedVariables false
set_option linter.unusedSimpArgs false
theorem run_append_zero {P : Program} (w : World) (t ty e : TypeId) (i : TypeInfo) (z : Value) (ht : P.underlying t = some (.slice e)) (hi : P.info? e = some i) (hz : i.zero = some z)
    (a : Addr) (n c : Nat) (hc : n ≤ c) (ad : Option Addr) (cap : Nat) : (Builtin.append_ #[t, t] ty #[.slice (some a) n c, .slice ad 0 cap]).run P w = .ok (.slice (some a) n c) w := by
  have hf : ∀ sz, (Builtin.firstCells sz 0 (.slice ad 0 cap)).run P w = .ok #[] w := fun sz => by
    cases ad with
    | none => simp [Builtin.firstCells]
    | some b => exact run_firstCells_some w sz 0 b 0 cap [] (by simp) (fun j v hj => by simp at hj)
  simp [Builtin.append_, run_underlying ht, sizeOf, typeInfo, zeroValue, hi, hz, Builtin.lenOf, hc, hf, storeCells]
theorem exec_append_zero {P : Program} {a : Act} {o : Oper} (s x : Operand) (t : TypeId) (ho : o.op = .call { callee := .builtin .append, args := #[s, x], argTypes := #[t, t] }) (e : TypeId) (i : TypeInfo) (z : Value) (ht : P.underlying t = some (.slice e)) (hi : P.info? e = some i) (hz : i.zero = some z)
    (b : Addr) (n c : Nat) (ad : Option Addr) (cap : Nat) (hs : a.eval s = .slice (some b) n c) (hx : a.eval x = .slice ad 0 cap) (hc : n ≤ c) (w : World) : (execOp a.eval o).run P w = .ok (.value (.slice (some b) n c)) w := by
  have hr := run_append_zero (P := P) w t o.type e i z ht hi hz b n c hc ad cap
  unfold execOp
  simp only [ho, resolve, invoke, builtin, Sem.run_bind, Sem.run_pure, Result.andThen_ok, List.map_toArray, List.map_cons, List.map_nil, hs, hx, hr]
set_option maxRecDepth 100000 in
set_option maxHeartbeats 16000000 in
theorem SenderPlays_short (ses ep : Int) (C : List ByteArray) (ad0 : Option Addr) (cap0 : Nat) (n : Nat) (adx : Option Addr) (capx : Nat) (w : World) (hs : Strs C ad0 w) (hn0 : C.length ≤ 9223372036854775807) (hsh : fewB C = false ∨ 200 < n ∨ mayB ses ep C = false) :
    Calls Try.prog 8 #[.int .i64 ses, .int .i64 ep, .slice ad0 C.length cap0, .slice adx n capx] w fun e w' => e = .returned (.bool true) ∧ Below w.heap.size w w' := by
  have HS := Lib.hid hs; clear hs
  have hf := fun w h => Few_calls w C ad0 cap0 h hn0
  cases hfew : fewB C with
  | false =>
    rw [hfew] at hf
    have HF := Lib.hid hf
    clear hf hsh hfew
    go_enter Try.func8, Try.ntmps8
    go_wp2_with fail
    refine (awake_calls _).mono ?_
    rintro e w1 ⟨rfl, hb1⟩
    go_wp2_with fail
    refine (HF.out _ (HS.out.below hb1)).mono ?_
    rintro e w2 ⟨rfl, rfl⟩
    go_wp2_with fail
    refine (awake_calls _).mono ?_
    rintro e w2 ⟨rfl, hb2⟩
    go_wp2
    go_ret
    exact ⟨rfl, bn hb1 hb2⟩
  | true =>
    rw [hfew] at hf
    have HF := Lib.hid hf
    by_cases h200 : 200 < n
    · have d1 : decide (200 < (n : Int)) = true := decide_eq_true (by omega)
      clear hf hsh hfew
      go_enter Try.func8, Try.ntmps8
      go_wp2_with fail
      refine (awake_calls _).mono ?_
      rintro e w1 ⟨rfl, hb1⟩
      go_wp2_with fail
      refine (HF.out _ (HS.out.below hb1)).mono ?_
      rintro e w2 ⟨rfl, rfl⟩
      go_wp2_with fail
      refine (awake_calls _).mono ?_
      rintro e w2 ⟨rfl, hb2⟩
      go_wp2
      go_ret
      exact ⟨rfl, bn hb1 hb2⟩
    · have d1 : decide (200 < (n : Int)) = false := decide_eq_false (by omega)
      have hmay : mayB ses ep C = false := by
        rcases hsh with h | h | h
        · rw [hfew] at h; cases h
        · omega
        · exact h
      have hfl : C.length ≤ 300 ∧ ∀ (j : Nat) c, C[j]? = some c → c.size ≤ 1100 := by
        unfold fewB at hfew
        simp only [Bool.and_eq_true, decide_eq_true_eq, Bool.not_eq_true', List.any_eq_false] at hfew
        exact ⟨hfew.2, fun j c hj => by have := hfew.1 c (List.mem_of_getElem? hj); omega⟩
      have hm := fun w h => May_calls w ses ep C ad0 cap0 h hn0
      rw [hmay] at hm
      have hnb := fun w ad cap h => SNew_bad w ses ep C ad cap h (by omega) (fun j c hj => by have := hfl.2 j c hj; omega) hmay
      have HM := Lib.hid hm; have HNB := Lib.hid hnb
      obtain ⟨hfl1, -⟩ := hfl
      clear hf hsh hfew hm hnb hmay
      by_cases hC0 : C.length = 0
      · obtain rfl : C = [] := List.length_eq_zero_iff.1 hC0
        go_enter Try.func8, Try.ntmps8
        go_wp2_with fail
        refine (awake_calls _).mono ?_
        rintro e w1 ⟨rfl, hb1⟩
        go_wp2_with fail
        refine (HF.out _ (HS.out.below hb1)).mono ?_
        rintro e w2 ⟨rfl, rfl⟩
        have HS1 := Lib.hid (HS.out.below hb1)
        have hba := (Below.refl w1.heap.size w1).alloc (Nat.le_refl _) (.cells #[] 9)
        have HS2 := Lib.hid (HS1.out.below hba)
        have HB2 := Lib.hid (bn hb1 hba)
        clear hb1 hba
        obtain ⟨i0, hi0, hz0, -, -⟩ := info_parts info_str
        go_wp2_with (with_reducible refine wpList_mark (o := ⟨some 37, _, _, _, _, _⟩) ?_)
        refine Marked.intro ?_
        refine wpList_run rfl (exec_append_zero _ _ 22 (by rfl) 9 i0 _ Try.underlying22 hi0 hz0 ⟨w1.heap.size, 0, none⟩ 0 0 ad0 cap0 (by rfl) (by rfl) (Nat.le_refl _) _) ?_
        generalize w1.alloc (.cells #[] 9) = w2 at *
        go_wp2_with fail
        refine (HNB.out _ _ _ (fun j c hj => by simp at hj)).mono ?_
        rintro e w3 ⟨rfl, hb3⟩
        have HS4 := Lib.hid (HS2.out.below hb3)
        have HB3 := Lib.hid (bn HB2.out hb3)
        clear hb3
        go_wp2_with fail
        refine (HM.out _ HS4.out).mono ?_
        rintro e w4 ⟨rfl, rfl⟩
        go_wp2
        go_ret
        exact ⟨rfl, HB3.out⟩
      · go_enter Try.func8, Try.ntmps8
        go_wp2_with fail
        refine (awake_calls _).mono ?_
        rintro e w1 ⟨rfl, hb1⟩
        go_wp2_with fail
        refine (HF.out _ (HS.out.below hb1)).mono ?_
        rintro e w2 ⟨rfl, rfl⟩
        have HS1 := Lib.hid (HS.out.below hb1)
        go_wp2_with (with_reducible refine wpList_mark (o := ⟨some 37, _, _, _, _, _⟩) ?_)
        refine Marked.intro ?_
        refine wpList_copy rfl _ _ (by rfl) C ad0 cap0 (by rfl) (by rfl) HS1.out (by omega) (by omega) ?_
        intro gc0 cap1 w2 hs2 hb2
        have HS2 := Lib.hid hs2
        have HS3 := Lib.hid (HS1.out.below hb2)
        have HB2 := Lib.hid (bn hb1 hb2)
        clear hb1 hb2 hs2
        go_wp2_with fail
        refine (HNB.out _ _ _ HS2.out).mono ?_
        rintro e w3 ⟨rfl, hb3⟩
        have HS4 := Lib.hid (HS3.out.below hb3)
        have HB3 := Lib.hid (bn HB2.out hb3)
        clear hb3
        go_wp2_with fail
        refine (HM.out _ HS4.out).mono ?_
        rintro e w4 ⟨rfl, rfl⟩
        go_wp2
        go_ret
        exact ⟨rfl, HB3.out⟩
end Go.Proofs.Ytcmgmdgeimmbeaa
