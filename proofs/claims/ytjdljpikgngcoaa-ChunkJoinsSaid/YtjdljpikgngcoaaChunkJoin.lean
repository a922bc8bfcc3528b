/- The walks of chunk.Join and awake. -/
import Derived.Test.YtjdljpikgngcoaaChunkSame
namespace Go.Proofs.Ytjdljpikgngcoaa
open Go.RowKit
set_option linter.unusedVariables false
set_option linter.unusedSimpArgs false
theorem inter_flat : ∀ l : List (List UInt8), (l.intersperse []).flatten = l.flatten
  | [] => rfl
  | [x] => by simp
  | x :: y :: l => by
    have := inter_flat (y :: l)
    simp only [List.intersperse_cons_cons, List.flatten_cons, List.nil_append] at *
    rw [this]
theorem join_flat (l : List (List UInt8)) : Lib.join l [] = l.flatten := by
  unfold Lib.join List.intercalate; exact inter_flat l
theorem Join_calls (w : World) (v : Value) (B : Nat) (xs : List ByteArray) (h : Texts B w v xs) (hN : xs.length ≤ 140737488355328) (hlen : ((xs.map (·.data.toList)).flatten).length ≤ 140737488355328) :
   Calls Try.prog 12 #[v] w fun e w' => e = .returned (.string ⟨(xs.map (·.data.toList)).flatten.toArray⟩) ∧ Below w.heap.size w w' := by
  obtain ⟨g, cap, rfl, h1, h2, h3, h4⟩ := h
  have C := Try.strings_Join g 0 cap xs ⟨#[]⟩ w (fun j x hx => by rw [Nat.zero_add]; exact h4 j x hx) h2 hN h3 (by rw [join_flat]; exact hlen)
  rw [show (ByteArray.mk #[]).data.toList = [] from rfl, join_flat] at C
  have C' := Lib.hid C; clear C h4
  go_enter Try.func12, Try.ntmps12
  go_wp2_with fail
  refine C'.out.mono ?_
  rintro e w1 ⟨rfl, hb⟩
  go_wp2
  go_ret
  exact ⟨rfl, hb⟩
end Go.Proofs.Ytjdljpikgngcoaa
