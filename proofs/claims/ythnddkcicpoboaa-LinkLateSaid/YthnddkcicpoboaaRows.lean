/-
  No cell of these rows narrows 'for every input' (looked for: loops, veiled, ifaces, maps, wideKeys, modest, calm, conditions, laid).
  DERIVED. THE GIVEN ROWS OF THIS SEAT. 3 by the template 'for every input the law returns true; each argument reads behind the call as it read before'; 0 by the template 'total and deterministic' (their statements: YthnddkcicpoboaaTotals.lean).
  GIVEN WITH THE SEED: the statements are not yours to turn. If you find one false, say at which input.
  Laid BY PROGRAM, IN A SANDBOX (cutbox-rows.mjs): the forced cells as the released guide's own fill.sh prints them over the translation 66be5d2af3c4877e… (all of the seat's roots in one cut). By AI agents, Wed Nov 11 2026. No macro, syntax, notation, axiom, sorry.
-/
import Derived.Test.YthnddkcicpoboaaChecked
import GoSem.Claim
import GoSem.ClaimJoined
import GoSem.ClaimMapViews
import Derived.JoinedTies
import Derived.KernelRfl
namespace Go.Proofs.Ythnddkcicpoboaa
/- THE CELL 'sum', in the pinned program and in every row, IS THE sha256 OF THE DUMP (.gsa) THAT YthnddkcicpoboaaProg.lean LOADS. Nothing in Lean hashes anything: it is a label: what it is worth is what the hold of that sum in a sandbox is worth. -/
noncomputable def Try.pinned : Pinned := { name := "ythnddkcicpoboaa", sum := "66be5d2af3c4877e7391d5817cb53e06d40bb3988eb7cc38dc6cda6dd470c13b", checked := Try.checked }
namespace Rows
def none {H : Type} : Left H := { results := [], args := [] }

/-- 'signpostlaw15.LinkFair': WHATEVER THE INPUT: true; the input reads as it did. -/
def linkFairSpec : ChangeSpec := { name := "linkFair", fn := fun _ => fun
  | [d1, d2] => { results := [.lit (.bool true)], args := [d1, d2] }
  | _ => none }
def linkFairRow : OpenClaim := { program := "ythnddkcicpoboaa", sum := "66be5d2af3c4877e7391d5817cb53e06d40bb3988eb7cc38dc6cda6dd470c13b", func := "signpost/signpostlaw15.LinkFair", spec := "linkFair", apart := false }
def LinkFairSaid : Prop := linkFairRow.holds Try.pinned (OpenSpec.ofChange linkFairSpec)

/-- ITS FALSE NEIGHBOUR: 'it returns false'. Refute it at one input. -/
def linkFairWrong : ChangeSpec := { name := "linkFair", fn := fun _ => fun
  | [d1, d2] => { results := [.lit (.bool false)], args := [d1, d2] }
  | _ => none }
def LinkFairWrongFalsely : Prop := linkFairRow.holds Try.pinned (OpenSpec.ofChange linkFairWrong)

/-- 'signpostlaw15.LinkWhole': WHATEVER THE INPUT: true; the input reads as it did. -/
def linkWholeSpec : ChangeSpec := { name := "linkWhole", fn := fun _ => fun
  | [d] => { results := [.lit (.bool true)], args := [d] }
  | _ => none }
def linkWholeRow : OpenClaim := { program := "ythnddkcicpoboaa", sum := "66be5d2af3c4877e7391d5817cb53e06d40bb3988eb7cc38dc6cda6dd470c13b", func := "signpost/signpostlaw15.LinkWhole", spec := "linkWhole", apart := false }
def LinkWholeSaid : Prop := linkWholeRow.holds Try.pinned (OpenSpec.ofChange linkWholeSpec)

/-- ITS FALSE NEIGHBOUR: 'it returns false'. Refute it at one input. -/
def linkWholeWrong : ChangeSpec := { name := "linkWhole", fn := fun _ => fun
  | [d] => { results := [.lit (.bool false)], args := [d] }
  | _ => none }
def LinkWholeWrongFalsely : Prop := linkWholeRow.holds Try.pinned (OpenSpec.ofChange linkWholeWrong)

/-- 'signpostlaw15.LinkLate': WHATEVER THE INPUT: true; the input reads as it did. -/
def linkLateSpec : ChangeSpec := { name := "linkLate", fn := fun _ => fun
  | [d1, d2, d3] => { results := [.lit (.bool true)], args := [d1, d2, d3] }
  | _ => none }
def linkLateRow : OpenClaim := { program := "ythnddkcicpoboaa", sum := "66be5d2af3c4877e7391d5817cb53e06d40bb3988eb7cc38dc6cda6dd470c13b", func := "signpost/signpostlaw15.LinkLate", spec := "linkLate", apart := false }
def LinkLateSaid : Prop := linkLateRow.holds Try.pinned (OpenSpec.ofChange linkLateSpec)

/-- ITS FALSE NEIGHBOUR: 'it returns false'. Refute it at one input. -/
def linkLateWrong : ChangeSpec := { name := "linkLate", fn := fun _ => fun
  | [d1, d2, d3] => { results := [.lit (.bool false)], args := [d1, d2, d3] }
  | _ => none }
def LinkLateWrongFalsely : Prop := linkLateRow.holds Try.pinned (OpenSpec.ofChange linkLateWrong)

/- THE SECOND FORM. 'bulk': how many values and letters a reading holds, each counted each time it is reached (what is shared counts as often as it is met; a slice's spare places count too). A statement '..UptoSaid' is the law's where the arguments, and the package variables that the reading takes, are together of bulk at most 1048576: NARROWER than '..Said'. Prove '..Said' where nothing that the law and all that it calls make is longer than what came in: it says more and counts as full. Else prove '..UptoSaid'. A law counts once. -/
mutual
def uptoBulk {H : Type} : DataW H → Nat
  | .lit (.string bytes) => bytes.length + 1
  | .lit _ => 1
  | .nil => 1
  | .ptr d => uptoBulk d + 1
  | .slice elems spare => uptoBulkAll elems + uptoBulkAll spare + 1
  | .agg parts => uptoBulkAll parts + 1
  | .iface _ d => uptoBulk d + 1
  | .map entries => uptoBulkEntries entries + 1
  | .held _ => 1
def uptoBulkAll {H : Type} : List (DataW H) → Nat
  | [] => 0
  | d :: r => uptoBulk d + uptoBulkAll r
def uptoBulkEntries {H : Type} : List (Lit × DataW H) → Nat
  | [] => 0
  | x :: r => uptoBulkEntry x + uptoBulkEntries r
def uptoBulkEntry {H : Type} : Lit × DataW H → Nat
  | (.string bytes, d) => bytes.length + uptoBulk d + 1
  | (_, d) => uptoBulk d + 1
 end
def uptoSmall : (H : Type) → List (DataW H) → Bool := fun _ ds => decide (uptoBulkAll ds ≤ 1048576)
def OpenSpec.upto (s : _root_.Go.ChangeSpec) : _root_.Go.OpenSpec := { _root_.Go.OpenSpec.ofChange s with cond := some uptoSmall }

/-- 'signpostlaw15.LinkFair', WHERE WHAT IT READS IS OF BULK AT MOST 1048576: true; the input reads as it did. -/
def linkFairUptoRow : OpenClaim := { program := "ythnddkcicpoboaa", sum := "66be5d2af3c4877e7391d5817cb53e06d40bb3988eb7cc38dc6cda6dd470c13b", func := "signpost/signpostlaw15.LinkFair", spec := "linkFair", apart := false, narrowed := true }
def LinkFairUptoSaid : Prop := linkFairUptoRow.holds Try.pinned (OpenSpec.upto linkFairSpec)

/-- 'signpostlaw15.LinkWhole', WHERE WHAT IT READS IS OF BULK AT MOST 1048576: true; the input reads as it did. -/
def linkWholeUptoRow : OpenClaim := { program := "ythnddkcicpoboaa", sum := "66be5d2af3c4877e7391d5817cb53e06d40bb3988eb7cc38dc6cda6dd470c13b", func := "signpost/signpostlaw15.LinkWhole", spec := "linkWhole", apart := false, narrowed := true }
def LinkWholeUptoSaid : Prop := linkWholeUptoRow.holds Try.pinned (OpenSpec.upto linkWholeSpec)

/-- 'signpostlaw15.LinkLate', WHERE WHAT IT READS IS OF BULK AT MOST 1048576: true; the input reads as it did. -/
def linkLateUptoRow : OpenClaim := { program := "ythnddkcicpoboaa", sum := "66be5d2af3c4877e7391d5817cb53e06d40bb3988eb7cc38dc6cda6dd470c13b", func := "signpost/signpostlaw15.LinkLate", spec := "linkLate", apart := false, narrowed := true }
def LinkLateUptoSaid : Prop := linkLateUptoRow.holds Try.pinned (OpenSpec.upto linkLateSpec)

end Rows
end Go.Proofs.Ythnddkcicpoboaa
