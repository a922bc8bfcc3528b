/- The walks of Same and Join. -/
import Derived.Test.YtjdljpikgngcoaaChunkRef
namespace Go.Proofs.Ytjdljpikgngcoaa
open Go.RowKit
set_option linter.unusedVariables false
set_option linter.unusedSimpArgs false
theorem str_refl (x : ByteArray) : (x.toList == x.toList) = true := by simp
theorem Same_nil (w : World) : Calls Try.prog 11 #[.slice none 0 0, .slice none 0 0] w fun e w' => e = .returned (.bool true) ∧ Below w.heap.size w w' := by
  go_enter Try.func11, Try.ntmps11
  go_wp2_with fail
  refine wp_loop_rounds 1 ?_
  go_wp2_with (with_reducible refine rounds_go ?_)
  go_ret
  exact ⟨rfl, Below.refl _ _⟩
set_option maxHeartbeats 1000000 in
theorem Same_true (w : World) (xs : List ByteArray) (hn : xs.length ≤ 140737488351232) (g1 c1 g2 c2 : Nat) (h1 : ∀ (j : Nat) x, xs[j]? = some x → w.cell? ⟨g1, j, none⟩ = some (.string x)) (h2 : ∀ (j : Nat) x, xs[j]? = some x → w.cell? ⟨g2, j, none⟩ = some (.string x)) :
   Calls Try.prog 11 #[.slice (some ⟨g1, 0, none⟩) xs.length c1, .slice (some ⟨g2, 0, none⟩) xs.length c2] w fun e w' => e = .returned (.bool true) ∧ Below w.heap.size w w' := by
  have H1 := Lib.hid h1; clear h1
  have H2 := Lib.hid h2; clear h2
  have hq : ((xs.length : Int) == (xs.length : Int)) = true := by simp
  go_enter Try.func11, Try.ntmps11
  go_wp2
  go_loopw [5] (fun i wr => ∃ (j d : Nat), j ≤ xs.length ∧ i = .int .i64 j ∧ wr = w.drewN d) (fun i _ => xs.length - (intOf i).toNat)
  case atStart => exact ⟨0, 0, by omega, rfl, rfl⟩
  case round =>
    obtain ⟨j, d, hj, rfl, rfl⟩ := hrel
    by_cases hlt : j < xs.length
    · have e1 := H1.out j xs[j] (by simp [hlt])
      have e2 := H2.out j xs[j] (by simp [hlt])
      have e3 := str_refl xs[j]
      generalize xs[j] = x at e1 e2 e3
      go_wp2
      go_quiet (fail)
      go_wp2
      exact ⟨⟨j + 1, _, by omega, rfl, rfl⟩, by simp only [intOf]; omega⟩
    · obtain rfl : j = xs.length := by omega
      go_wp2
      go_ret
      exact ⟨rfl, below_drewN (Below.refl _ _) _⟩
end Go.Proofs.Ytjdljpikgngcoaa
