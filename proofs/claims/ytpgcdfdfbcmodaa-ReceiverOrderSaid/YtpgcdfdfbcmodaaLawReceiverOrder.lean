/- The statement ReceiverOrderSaid: for every input the law answers true, and each argument reads afterwards as it read before. No condition. -/
import Derived.Test.YtpgcdfdfbcmodaaRows
import Derived.Test.YtpgcdfdfbcmodaaRecLawD
import Derived.ProofKit
import Derived.OpenShut
import Derived.ShutString
import Derived.ChangeOld
import Derived.SizedLaws
import Derived.Test.YtpgcdfdfbcmodaaOpenSl
import Derived.Test.YtpgcdfdfbcmodaaOpenBy
import Derived.Test.YtpgcdfdfbcmodaaOpenStr
namespace Go.Proofs.Ytpgcdfdfbcmodaa.receiverOrder
open Go.ChangeShapes Go.WideShapes Go.ChangeAt Go.RowKit
open Go.ChangeMaps (open_string shut_string)
set_option linter.unusedVariables false

theorem own : ownKnob Try.prog.godebug = none := by kernel_rfl
theorem laidOut : laidOutB Try.prog = true := by kernel_rfl

set_option maxRecDepth 100000 in
theorem lifted (os : Os) (started : os.Started) (H : Type) (enc : TypeId × Value → H) :
    ReturnsInHanded {} Try.checked os 9 .any (Rows.receiverOrderSpec.pre6 enc Try.prog Try.f9 Rows.receiverOrderRow.domain false) (Rows.receiverOrderSpec.post enc Try.prog Try.f9 false true false false) := by
  refine returnsInHanded_of_change_sized (C := Try.checked) own started (by kernel_rfl) Try.func9
    (ChangeSpec.witness6 (enc := enc) (C := Try.checked) false ⟨#[], #[.slice none 0 0, .slice none 0 0], []⟩ 8 (by kernel_rfl) (by kernel_rfl) (by kernel_rfl) (by kernel_rfl)) ?_
  intro W base args ds gs before hval0 hW hcnd hsz0 _
  have hval : ∀ (j : Nat) t v, Try.f9.params[j]? = some t → args[j]? = some v → Value.okWide Try.prog W .any base t v := hval0
  have hW' := hW
  obtain ⟨p, q, hA0, hV, rfl, hfz, hnd⟩ := hW
  have hA : DataW.TrodAll enc Try.prog W 0 (fun _ => true) true Try.f9.params.toList args.toList ds p := hA0
  have hsz : (DataW.weightsEach Try.prog (Try.f9.params.toList ++ Rows.receiverOrderSpec.plain.varTypes Try.prog) (ds ++ gs)).all (· ≤ reachBytes) = true := hsz0
  rw [Try.params9] at hA hval hsz
  obtain ⟨v0, vs0, d0, ds0, p0, q0, hargs, rfl, rfl, h0, r0⟩ := trodAll_cons hA
  obtain ⟨v1, vs1, d1, ds1, p1, q1, rfl, rfl, rfl, h1, r1⟩ := trodAll_cons r0
  obtain ⟨rfl, rfl, rfl⟩ := trodAll_nil r1
  obtain rfl : args = #[v0, v1] := by cases args; simp_all
  obtain ⟨rfl, rfl⟩ := trodVars_none hV
  have k0 := h0
  have lt0 : ∀ x ∈ p0, x.block < W.heap.size := by obtain ⟨m, hm⟩ := k0; exact DataW.trod_lt m _ _ _ hm
  obtain ⟨a0, w0⟩ := open_strs2 Try.underlying51 Try.underlying9 (by kernel_rfl) (hval 0 51 v0 rfl rfl) h0
  have k1 := h1
  have lt1 : ∀ x ∈ p1, x.block < W.heap.size := by obtain ⟨m, hm⟩ := k1; exact DataW.trod_lt m _ _ _ hm
  obtain ⟨a1, ad1, cap1, e1_, q1_, r1_, z1_⟩ := open_u8s Try.underlying62 Try.underlying5 (by kernel_rfl) (hval 1 62 v1 rfl rfl) h1
  have b1_ : a1.length ≤ 140737488351232 := by
    rcases z1_ with h | ⟨el, sp, rfl, hl⟩
    · omega
    · have := sized_slice hsz (j := 1) (t := 62) (e := 5) rfl rfl Try.underlying62
      have h1 : Try.prog.bytesOf 5 = 1 := by kernel_rfl
      have h2 : reachBytes ≤ 140737488351232 := by decide
      rw [h1] at this; omega
  have w1 : ∃ ad cap, v1 = .slice ad a1.length cap ∧ (∀ (j : Nat) x, a1[j]? = some x → x < 256) ∧ a1.length ≤ 140737488351232 ∧ (a1 ≠ [] → ∃ g o, ad = some ⟨g, o, none⟩ ∧ ∀ (j : Nat) x, a1[j]? = some x → W.cell? ⟨g, o + j, none⟩ = some (.int .u8 (x : Int))) := ⟨ad1, cap1, e1_, q1_, b1_, r1_⟩
  clear hA0 hval0
  refine (ReceiverOrder_walk v0 a0 v1 a1 W w0 w1).mono fun e W' ⟨he, bel⟩ => ?_
  subst he
  exact ⟨_, rfl, _, _, _, [], _, [], hW', trodAll_mk1 (shut_bool Try.underlying4 _), (trodAll_cons_mk (Below.trod laidOut (by kernel_rfl) (of_decide_eq_true (by kernel_rfl)) k0 bel lt0) (trodAll_cons_mk (Below.trod laidOut (by kernel_rfl) (of_decide_eq_true (by kernel_rfl)) k1 bel lt1) trodAll_mk0)), rfl, bel.frame _, fun h => by cases h⟩

theorem over : Rows.receiverOrderRow.holds Try.pinned (OpenSpec.ofChange Rows.receiverOrderSpec) :=
  OpenClaim.holds_of_wide 9 Try.f9 rfl rfl rfl rfl rfl rfl rfl ⟨rfl, rfl, rfl, rfl, rfl⟩ rfl rfl rfl rfl rfl (by kernel_rfl) Try.func9 (by kernel_rfl)
    (of_decide_eq_true (by kernel_rfl)) (by unfold Func.isWrapper; first | (rw [if_pos (by decide +kernel)]; kernel_rfl) | (rw [if_neg (by decide +kernel)]; exact ⟨rfl, rfl⟩))
    (fun os started H enc _ => lifted os started H enc)

theorem proved : Rows.ReceiverOrderSaid := over
#print axioms proved
end Go.Proofs.Ytpgcdfdfbcmodaa.receiverOrder
