/- The reference's May; a copy of texts behind an empty slice. -/
import Derived.Test.YtcmgmdgeimmbeaaSenAwake
import Derived.Test.YtcmgmdgeimmbeaaFrameWalk
namespace Go.Proofs.Ytcmgmdgeimmbeaa
open Go.RowKit
set_option linter.unusedVariables false
set_option linter.unusedSimpArgs false
set_option maxRecDepth 100000 in
set_option maxHeartbeats 8000000 in
theorem May_calls (w : World) (ses ep : Int) (C : List ByteArray) (ad : Option Addr) (cap : Nat) (h : Strs C ad w) (hn : C.length ≤ 9223372036854775807) :
    Calls Try.prog 10 #[.int .i64 ses, .int .i64 ep, .slice ad C.length cap] w fun e w' => e = .returned (.bool (mayB ses ep C)) ∧ w = w' := by
  have hany : ∀ (j : Nat) c, C[j]? = some c → 1000 < c.size → (C.any fun c => decide (1000 < c.size)) = true := fun j c hj hc => by
    rw [List.any_eq_true]; exact ⟨c, List.mem_of_getElem? hj, by simpa using hc⟩
  have hnone : (∀ (j : Nat) c, C[j]? = some c → ¬ 1000 < c.size) → (C.any fun c => decide (1000 < c.size)) = false := fun hh => by
    rw [List.any_eq_false]
    intro c hc
    obtain ⟨j, hj⟩ := List.getElem?_of_mem hc
    simpa using hh j c hj
  unfold mayB
  obtain ⟨n, hN⟩ : ∃ n, C.length = n := ⟨_, rfl⟩
  rw [hN] at hn ⊢
  generalize hA : (C.any fun c => decide (1000 < c.size)) = anyB at *
  have HN := Lib.hid hN; have HANY := Lib.hid hany; have HNONE := Lib.hid hnone; have HS := Lib.hid h
  clear hN hany hnone h hA
  go_enter Try.func10, Try.ntmps10
  go_wp2
  go_loop [7] (fun i => ∃ j : Nat, j ≤ n ∧ i = .int .i64 j ∧ Hid (∀ (k : Nat) c, k < j → C[k]? = some c → ¬ 1000 < c.size)) (fun i => n - (intOf i).toNat)
  case atStart => exact ⟨0, by omega, rfl, Lib.hid fun k c hk => absurd hk (Nat.not_lt_zero _)⟩
  case round =>
    obtain ⟨j, hj, rfl, hk⟩ := hrel
    by_cases hlt : j < n
    · have hx := List.getElem?_eq_getElem (by rw [HN.out]; exact hlt : j < C.length)
      obtain ⟨⟨ab, ao, asp⟩, rfl, hsp, hcell⟩ := HS.out j _ hx
      simp only at hsp hcell
      subst hsp
      have HX := Lib.hid hx; clear hx
      generalize C[j]'(by rw [HN.out]; exact hlt) = c at *
      by_cases hc : 1000 < c.size
      · have hci : 1000 < (c.size : Int) := by omega
        have hat := HANY.out j c HX.out hc
        have HAT := Lib.hid hat
        clear hat hc
        go_wp2
        go_ret
        exact ⟨by first | rfl | (rw [HAT.out]; rfl) | (rw [HAT.out]; simp), rfl⟩
      · have hci : ¬ 1000 < (c.size : Int) := by omega
        have hj1 : (j : Int) < (n : Int) := by omega
        go_wp2
        exact ⟨⟨j + 1, by omega, by go_num, Lib.hid fun k d hk2 hd => by
          by_cases e : k = j
          · subst e
            rw [HX.out] at hd
            obtain rfl : c = d := by simpa using hd
            exact hc
          · exact hk.out k d (by omega) hd⟩, by simp only [intOf]; omega⟩
    · have hat := HNONE.out fun k c hk2 => hk.out k c (by have := (List.getElem?_eq_some_iff.1 hk2).1; rw [HN.out] at this; omega) hk2
      have HAT := Lib.hid hat
      clear hat hk HS HANY HNONE
      by_cases a1 : 0 ≤ ses
      · by_cases a2 : ses < 4294967296
        · by_cases a3 : 0 ≤ ep
          · by_cases a4 : ep < 4294967296
            · by_cases a5 : 1 ≤ n
              · have a5' : (1 : Int) ≤ (n : Int) := by omega
                by_cases a6 : n ≤ 256
                · have a6' : (n : Int) ≤ 256 := by omega
                  go_wp2
                  go_ret
                  exact ⟨by first | rfl | (rw [HAT.out]; rfl) | (rw [HAT.out]; (simp [a1, a2, a3, a4, a5, a6]) <;> intros <;> omega), rfl⟩
                · have a6' : ¬ (n : Int) ≤ 256 := by omega
                  go_wp2
                  go_ret
                  exact ⟨by first | rfl | (rw [HAT.out]; rfl) | (rw [HAT.out]; (simp [a1, a2, a3, a4, a5, a6]) <;> intros <;> omega), rfl⟩
              · have a5' : ¬ (1 : Int) ≤ (n : Int) := by omega
                go_wp2
                go_ret
                exact ⟨by first | rfl | (rw [HAT.out]; rfl) | (rw [HAT.out]; (simp [a5]) <;> intros <;> omega), rfl⟩
            · go_wp2
              go_ret
              exact ⟨by first | rfl | (rw [HAT.out]; rfl) | (rw [HAT.out]; (simp [a4]) <;> intros <;> omega), rfl⟩
          · go_wp2
            go_ret
            exact ⟨by first | rfl | (rw [HAT.out]; rfl) | (rw [HAT.out]; (simp [a3]) <;> intros <;> omega), rfl⟩
        · go_wp2
          go_ret
          exact ⟨by first | rfl | (rw [HAT.out]; rfl) | (rw [HAT.out]; (simp [a2]) <;> intros <;> omega), rfl⟩
      · go_wp2
        go_ret
        exact ⟨by first | rfl | (rw [HAT.out]; rfl) | (rw [HAT.out]; (simp [a1]) <;> intros <;> omega), rfl⟩
theorem wpList_copy {ops : Array Oper} {rest : List Oper} {o : Oper} {a : Act} {Q : Exit → Act → World → Prop} {w : World} (hgd : o.guard = none) (s x : Operand) (ho : o.op = .call { callee := .builtin .append, args := #[s, x], argTypes := #[22, 22] })
    (C : List ByteArray) (ad : Option Addr) (cap : Nat) (hs : a.eval s = .slice (some ⟨w.heap.size, 0, none⟩) 0 0) (hx : a.eval x = .slice ad C.length cap) (hC : Strs C ad w) (h1 : 1 ≤ C.length) (h2 : C.length ≤ 1000)
    (h : ∀ gc cap' w', Strs C (some ⟨gc, 0, none⟩) w' → Below w.heap.size w w' → wpList Try.prog ops Q rest (a.put o.dst (.slice (some ⟨gc, 0, none⟩) C.length cap')) w') : wpList Try.prog ops Q (o :: rest) a (w.alloc (.cells #[] 9)) := by
  obtain ⟨i0, hi0, hz0, hz1, hz2⟩ := info_parts info_str
  obtain ⟨⟨ab, ao, asp⟩, rfl, hsp, -⟩ := hC 0 C[0] (List.getElem?_eq_getElem (by omega))
  simp only at hsp
  subst hsp
  have hc : ∀ (j : Nat) u, (C.map Value.string)[j]? = some u → (w.alloc (.cells #[] 9)).cell? ((⟨ab, ao, none⟩ : Addr).add j) = some u := fun j u hj => by
    rw [List.getElem?_map] at hj
    cases hx : C[j]? with
    | none => rw [hx] at hj; simp at hj
    | some c =>
      rw [hx] at hj
      obtain rfl : Value.string c = u := by simpa using hj
      obtain ⟨a, ha, -, hcell⟩ := hC j c hx
      obtain rfl : (⟨ab, ao, none⟩ : Addr) = a := by simpa using ha
      rw [Addr.add_lit]; exact Lib.cell?_alloc_some (W := w) _ hcell
  have hown0 : (w.alloc (.cells #[] 9)).ownsRow w.heap.size 9 1 (.slice (some ⟨w.heap.size, 0, none⟩) 0 0) 0 [] := ⟨rfl, Or.inr ⟨w.heap.size, 0, #[], rfl, Nat.le_refl _, heap_alloc_new w _, Nat.le_refl _, by unfold maxLen; omega, rfl, rfl⟩⟩
  refine wpList_append_lies _ hgd s x _ ho w.heap.size 9 i0 _ 1 16 Try.underlying22 hi0 hz0 hz1 hz2 rfl (by omega) (.slice (some ⟨w.heap.size, 0, none⟩) 0 0) 0 [] hs hown0 ⟨ab, ao, none⟩ C.length cap (C.map .string) hx (by simp) hc (by simp [Value.oneCell']) h1 (by unfold maxLen; omega) (by omega) (by simp) (w.heap.size + 1) (by simp) ?_
  intro g cap2 w1 hown hgrow hat hg
  have hb : Below w.heap.size w w1 := ((Below.refl w.heap.size w).alloc (Nat.le_refl _) (.cells #[] 9)).grown hgrow (by simp) (fun k hk => by
    have : w.heap.size = k := by simpa [Value.ownBlock] using hk
    omega)
  rw [Nat.zero_add, List.nil_append] at hown
  rw [Nat.zero_add]
  obtain ⟨⟨cs, t, fr, q1, q2⟩, -, -⟩ := crow_of hown rfl h1
  exact h g cap2 w1 (fun j c hj => ⟨_, rfl, rfl, by show w1.cell? ⟨g, 0 + j, none⟩ = _; rw [Nat.zero_add, cell_of_row _ _ _ _ _ _ q1]; exact q2 j c hj⟩) hb
theorem mayB_true {ses ep : Int} {C : List ByteArray} (h : mayB ses ep C = true) : 0 ≤ ses ∧ ses < 4294967296 ∧ 0 ≤ ep ∧ ep < 4294967296 ∧ 1 ≤ C.length ∧ C.length ≤ 256 ∧ ∀ (j : Nat) c, C[j]? = some c → c.size ≤ 1000 := by
  unfold mayB at h
  simp only [Bool.and_eq_true, decide_eq_true_eq, Bool.not_eq_true', List.any_eq_false] at h
  obtain ⟨⟨⟨⟨a1, a2⟩, a3, a4⟩, a5⟩, a6, a7⟩ := h
  exact ⟨a1, a2, a3, a4, a6, a7, fun j c hj => by have := a5 c (List.mem_of_getElem? hj); omega⟩
end Go.Proofs.Ytcmgmdgeimmbeaa
