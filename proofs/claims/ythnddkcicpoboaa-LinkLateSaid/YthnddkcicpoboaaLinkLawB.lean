/- The law LinkLate, walked. -/
import Derived.Test.YthnddkcicpoboaaLinkLawA
namespace Go.Proofs.Ythnddkcicpoboaa
open Go.RowKit Go.ChangeShapes Go.WideShapes
set_option linter.unusedVariables false
set_option linter.unusedSimpArgs false
set_option maxRecDepth 100000 in
set_option maxHeartbeats 2000000 in
theorem LinkLate_walk (a0 a1 : ByteArray) (v : Value) (xs : List ByteArray) (w : World) (w0 : a0.size ≤ 140737488351232) (w1 : a1.size ≤ 140737488351232) (w2 : Strs w v xs) :
    Calls Try.prog 5 #[.string a0, .string a1, v] w fun e w' => e = .returned (.bool true) ∧ Below w.heap.size w w' := by
  have W0 := Lib.hid w2
  obtain ⟨ad, cap, rfl, -⟩ := w2
  by_cases hbig : 50 < xs.length
  · go_enter Try.func5, Try.ntmps5
    go_wp2_with fail
    refine (awake_calls _).mono ?_
    rintro e w1 ⟨rfl, hb1⟩
    go_wp2_with fail
    refine (awake_calls _).mono ?_
    rintro e w2 ⟨rfl, hb2⟩
    go_wp2
    go_ret
    exact ⟨rfl, bn hb1 hb2⟩
  · by_cases hab : a0 = a1
    · have heq : (a0.toList == a1.toList) = true := by rw [str_eq, decide_eq_true hab]
      clear hab
      go_enter Try.func5, Try.ntmps5
      go_wp2_with fail
      refine (awake_calls _).mono ?_
      rintro e w1 ⟨rfl, hb1⟩
      go_wp2_with fail
      refine (awake_calls _).mono ?_
      rintro e w2 ⟨rfl, hb2⟩
      go_wp2
      go_ret
      exact ⟨rfl, bn hb1 hb2⟩
    · have heq : (a0.toList == a1.toList) = false := by rw [str_eq, decide_eq_false hab]
      clear hab
      go_enter Try.func5, Try.ntmps5
      go_wp2_with fail
      refine (awake_calls _).mono ?_
      rintro e w1 ⟨rfl, hb1⟩
      go_wp2_with fail
      refine (New_calls _).mono ?_
      rintro e w2 ⟨rfl, rfl⟩
      have hb2 := (Below.refl w1.heap.size w1).alloc (Nat.le_refl _) (.cells #[.slice none 0 0, .slice none 0 0] 41)
      have L2 := Lib.hid (Lk.new w1 w1.heap.size (Nat.le_refl _))
      have hs1 := hb1.size
      generalize w1.alloc (.cells #[.slice none 0 0, .slice none 0 0] 41) = w2 at *
      generalize hl : w1.heap.size = l at *
      go_wp2_with fail
      refine (Send_late w2 l l _ _ [] [] a0 0 0 L2.out (by simp)).mono ?_
      rintro e w3 ⟨rfl, hb3, u3, L3⟩
      obtain ⟨gu, cu, rfl⟩ := L3.form2 (by simp)
      have L3 := Lib.hid L3
      go_wp2_with fail
      refine (Send_flush w3 l l _ gu cu [] ([] ++ [a0]) a1 0 0 L3.out (by simp) (by simp) (by simp)).mono ?_
      rintro e w4 ⟨rfl, hb4, v4, L4⟩
      have L4 : Hid (Lk l l w4 v4 (.slice none 0 0) [a1, a0] []) := Lib.hid L4
      have hb4' := (hb2.trans hb3).trans hb4
      go_wp2_with fail
      go_loopw [35] (fun i wr => ∃ (j : Nat) (v : Value), j ≤ xs.length ∧ i = .int .i64 j ∧ Lk l l wr v (.slice none 0 0) ([a1, a0] ++ xs.take j) [] ∧ Below l w1 wr) (fun i _ => xs.length - (intOf i).toNat)
      case atStart => exact ⟨0, _, by omega, rfl, by simpa using L4.out, hb4'⟩
      case round =>
        obtain ⟨j, v, hj, rfl, hL, hb⟩ := hrel
        by_cases hlt : j < xs.length
        · obtain ⟨g, o, rfl, -, hg, hc⟩ := W0.out.cell j hlt
          have hc1 := (hb.cell (p := ⟨g, o + j, none⟩) (show g < l by omega)).trans ((hb1.cell (p := ⟨g, o + j, none⟩) hg).trans hc)
          clear hc
          have htk : [a1, a0] ++ xs.take (j + 1) = ([a1, a0] ++ xs.take j) ++ [xs[j]] := by rw [List.take_succ_eq_append_getElem hlt, List.append_assoc]
          have Htk := Lib.hid htk; clear htk
          generalize xs[j] = x at *
          have hLt : ([a1, a0] ++ xs.take j).length ≤ 1000 := by rw [List.length_append, List.length_take]; simp; omega
          have HL := Lib.hid hL; clear hL
          go_wp2_with fail
          refine (Send_go wr l l v _ x 0 0 HL.out hLt).mono ?_
          rintro e w3 ⟨rfl, hb3, v3, hL3⟩
          go_wp2
          exact ⟨⟨j + 1, v3, by omega, rfl, by rw [Htk.out]; exact hL3, hb.trans hb3⟩, by simp only [intOf]; omega⟩
        · rw [List.take_of_length_le (by omega)] at hL
          have HR := Lib.hid hL.read
          have lH : l ≤ wr.heap.size := Nat.le_of_lt hL.lt
          clear hL
          have hle : ([a1, a0] ++ xs).length ≤ 1000 := by rw [List.length_append]; simp; omega
          go_wp2_with fail
          refine (All_calls _ l _ l _ _ _ _ _ HR.out (List.append_nil _) hle lH).mono ?_
          rintro e w8 ⟨o8, rfl, hb8, own8, v8, u8, L8⟩
          obtain ⟨g8, cap8, rfl, hg8, hg8'⟩ := own8.form (by simp)
          have c8 := own8.cells (g := g8) rfl
          have d0 : w8.cell? ⟨g8, 0, none⟩ = some (.string a1) := by
            have := c8 0 (.string a1) (by simp)
            rwa [Addr.add_lit, Nat.zero_add] at this
          have d1 : w8.cell? ⟨g8, 1, none⟩ = some (.string a0) := by
            have := c8 1 (.string a0) (by simp)
            rwa [Addr.add_lit, Nat.zero_add] at this
          have hlen : ((([a1, a0] ++ xs).length : Nat) : Int) = (xs.length : Int) + 2 := by simp only [List.length_append, List.length_cons, List.length_nil]; omega
          have hlen2 : ([a1, a0] ++ xs).length = xs.length + 2 := by simp only [List.length_append, List.length_cons, List.length_nil]; omega
          have hp0 : (0 : Int) < (xs.length : Int) + 2 := by omega
          have hp1 : (1 : Int) < (xs.length : Int) + 2 := by omega
          have e0 := str_refl a0
          have e1 := str_refl a1
          have hq : (((xs.length : Int) + 2) == ((xs.length : Int) + 2)) = true := by simp
          rw [hlen2]
          clear c8 own8 hlen hlen2 hle
          go_wp2
          go_ret
          exact ⟨rfl, hb1.trans ((hb.trans hb8).mono hs1)⟩
end Go.Proofs.Ythnddkcicpoboaa
