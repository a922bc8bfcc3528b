/-
  No cell of these rows narrows 'for every input' (looked for: loops, veiled, ifaces, maps, wideKeys, modest, calm, conditions, laid).
  DERIVED. THE GIVEN ROWS OF THIS SEAT. 5 by the template 'for every input the law returns true; each argument reads behind the call as it read before'; 0 by the template 'total and deterministic' (their statements: YtbpamegfohcbmaaTotals.lean).
  GIVEN WITH THE SEED: the statements are not yours to turn. If you find one false, say at which input.
  Laid BY PROGRAM, IN A SANDBOX (cutbox-rows.mjs): the forced cells as the released guide's own fill.sh prints them over the translation 07ad4fe5f23a4849… (all of the seat's roots in one cut). By AI agents, Wed Nov 11 2026. No macro, syntax, notation, axiom, sorry.
-/
import Derived.Test.YtbpamegfohcbmaaChecked
import GoSem.Claim
import GoSem.ClaimJoined
import GoSem.ClaimMapViews
import Derived.JoinedTies
import Derived.KernelRfl
namespace Go.Proofs.Ytbpamegfohcbmaa
/- THE CELL 'sum', in the pinned program and in every row, IS THE sha256 OF THE DUMP (.gsa) THAT YtbpamegfohcbmaaProg.lean LOADS. Nothing in Lean hashes anything: it is a label: what it is worth is what the hold of that sum in a sandbox is worth. -/
noncomputable def Try.pinned : Pinned := { name := "ytbpamegfohcbmaa", sum := "07ad4fe5f23a48492e06152d8e368ece8e4e93d98ad6834cbd2ac20c7800719c", checked := Try.checked }
namespace Rows
def none {H : Type} : Left H := { results := [], args := [] }

/-- 'signpostlaw11.FramePrints': WHATEVER THE INPUT: true; the input reads as it did. -/
def framePrintsSpec : ChangeSpec := { name := "framePrints", fn := fun _ => fun
  | [d] => { results := [.lit (.bool true)], args := [d] }
  | _ => none }
def framePrintsRow : OpenClaim := { program := "ytbpamegfohcbmaa", sum := "07ad4fe5f23a48492e06152d8e368ece8e4e93d98ad6834cbd2ac20c7800719c", func := "signpost/signpostlaw11.FramePrints", spec := "framePrints", apart := false }
def FramePrintsSaid : Prop := framePrintsRow.holds Try.pinned (OpenSpec.ofChange framePrintsSpec)

/-- ITS FALSE NEIGHBOUR: 'it returns false'. Refute it at one input. -/
def framePrintsWrong : ChangeSpec := { name := "framePrints", fn := fun _ => fun
  | [d] => { results := [.lit (.bool false)], args := [d] }
  | _ => none }
def FramePrintsWrongFalsely : Prop := framePrintsRow.holds Try.pinned (OpenSpec.ofChange framePrintsWrong)

/-- 'signpostlaw11.FrameReads': WHATEVER THE INPUT: true; the input reads as it did. -/
def frameReadsSpec : ChangeSpec := { name := "frameReads", fn := fun _ => fun
  | [d] => { results := [.lit (.bool true)], args := [d] }
  | _ => none }
def frameReadsRow : OpenClaim := { program := "ytbpamegfohcbmaa", sum := "07ad4fe5f23a48492e06152d8e368ece8e4e93d98ad6834cbd2ac20c7800719c", func := "signpost/signpostlaw11.FrameReads", spec := "frameReads", apart := false }
def FrameReadsSaid : Prop := frameReadsRow.holds Try.pinned (OpenSpec.ofChange frameReadsSpec)

/-- ITS FALSE NEIGHBOUR: 'it returns false'. Refute it at one input. -/
def frameReadsWrong : ChangeSpec := { name := "frameReads", fn := fun _ => fun
  | [d] => { results := [.lit (.bool false)], args := [d] }
  | _ => none }
def FrameReadsWrongFalsely : Prop := frameReadsRow.holds Try.pinned (OpenSpec.ofChange frameReadsWrong)

/-- 'signpostlaw11.FrameBursts': WHATEVER THE INPUT: true; the input reads as it did. -/
def frameBurstsSpec : ChangeSpec := { name := "frameBursts", fn := fun _ => fun
  | [d1, d2, d3, d4] => { results := [.lit (.bool true)], args := [d1, d2, d3, d4] }
  | _ => none }
def frameBurstsRow : OpenClaim := { program := "ytbpamegfohcbmaa", sum := "07ad4fe5f23a48492e06152d8e368ece8e4e93d98ad6834cbd2ac20c7800719c", func := "signpost/signpostlaw11.FrameBursts", spec := "frameBursts", apart := false }
def FrameBurstsSaid : Prop := frameBurstsRow.holds Try.pinned (OpenSpec.ofChange frameBurstsSpec)

/-- ITS FALSE NEIGHBOUR: 'it returns false'. Refute it at one input. -/
def frameBurstsWrong : ChangeSpec := { name := "frameBursts", fn := fun _ => fun
  | [d1, d2, d3, d4] => { results := [.lit (.bool false)], args := [d1, d2, d3, d4] }
  | _ => none }
def FrameBurstsWrongFalsely : Prop := frameBurstsRow.holds Try.pinned (OpenSpec.ofChange frameBurstsWrong)

/-- 'signpostlaw11.FrameFields': WHATEVER THE INPUT: true; the input reads as it did. -/
def frameFieldsSpec : ChangeSpec := { name := "frameFields", fn := fun _ => fun
  | [d1, d2] => { results := [.lit (.bool true)], args := [d1, d2] }
  | _ => none }
def frameFieldsRow : OpenClaim := { program := "ytbpamegfohcbmaa", sum := "07ad4fe5f23a48492e06152d8e368ece8e4e93d98ad6834cbd2ac20c7800719c", func := "signpost/signpostlaw11.FrameFields", spec := "frameFields", apart := false }
def FrameFieldsSaid : Prop := frameFieldsRow.holds Try.pinned (OpenSpec.ofChange frameFieldsSpec)

/-- ITS FALSE NEIGHBOUR: 'it returns false'. Refute it at one input. -/
def frameFieldsWrong : ChangeSpec := { name := "frameFields", fn := fun _ => fun
  | [d1, d2] => { results := [.lit (.bool false)], args := [d1, d2] }
  | _ => none }
def FrameFieldsWrongFalsely : Prop := frameFieldsRow.holds Try.pinned (OpenSpec.ofChange frameFieldsWrong)

/-- 'signpostlaw11.FrameTwo': WHATEVER THE INPUT: true; the input reads as it did. -/
def frameTwoSpec : ChangeSpec := { name := "frameTwo", fn := fun _ => fun
  | [d1, d2] => { results := [.lit (.bool true)], args := [d1, d2] }
  | _ => none }
def frameTwoRow : OpenClaim := { program := "ytbpamegfohcbmaa", sum := "07ad4fe5f23a48492e06152d8e368ece8e4e93d98ad6834cbd2ac20c7800719c", func := "signpost/signpostlaw11.FrameTwo", spec := "frameTwo", apart := false }
def FrameTwoSaid : Prop := frameTwoRow.holds Try.pinned (OpenSpec.ofChange frameTwoSpec)

/-- ITS FALSE NEIGHBOUR: 'it returns false'. Refute it at one input. -/
def frameTwoWrong : ChangeSpec := { name := "frameTwo", fn := fun _ => fun
  | [d1, d2] => { results := [.lit (.bool false)], args := [d1, d2] }
  | _ => none }
def FrameTwoWrongFalsely : Prop := frameTwoRow.holds Try.pinned (OpenSpec.ofChange frameTwoWrong)

/- THE SECOND FORM. 'bulk': how many values and letters a reading holds, each counted each time it is reached (what is shared counts as often as it is met; a slice's spare places count too). A statement '..UptoSaid' is the law's where the arguments, and the package variables that the reading takes, are together of bulk at most 1048576: NARROWER than '..Said'. Prove '..Said' where nothing that the law and all that it calls make is longer than what came in: it says more and counts as full. Else prove '..UptoSaid'. A law counts once. -/
mutual
def uptoBulk {H : Type} : DataW H → Nat
  | .lit (.string bytes) => bytes.length + 1
  | .lit _ => 1
  | .nil => 1
  | .ptr d => uptoBulk d + 1
  | .slice elems spare => uptoBulkAll elems + uptoBulkAll spare + 1
  | .agg parts => uptoBulkAll parts + 1
  | .iface _ d => uptoBulk d + 1
  | .map entries => uptoBulkEntries entries + 1
  | .held _ => 1
def uptoBulkAll {H : Type} : List (DataW H) → Nat
  | [] => 0
  | d :: r => uptoBulk d + uptoBulkAll r
def uptoBulkEntries {H : Type} : List (Lit × DataW H) → Nat
  | [] => 0
  | x :: r => uptoBulkEntry x + uptoBulkEntries r
def uptoBulkEntry {H : Type} : Lit × DataW H → Nat
  | (.string bytes, d) => bytes.length + uptoBulk d + 1
  | (_, d) => uptoBulk d + 1
 end
def uptoSmall : (H : Type) → List (DataW H) → Bool := fun _ ds => decide (uptoBulkAll ds ≤ 1048576)
def OpenSpec.upto (s : _root_.Go.ChangeSpec) : _root_.Go.OpenSpec := { _root_.Go.OpenSpec.ofChange s with cond := some uptoSmall }

/-- 'signpostlaw11.FramePrints', WHERE WHAT IT READS IS OF BULK AT MOST 1048576: true; the input reads as it did. -/
def framePrintsUptoRow : OpenClaim := { program := "ytbpamegfohcbmaa", sum := "07ad4fe5f23a48492e06152d8e368ece8e4e93d98ad6834cbd2ac20c7800719c", func := "signpost/signpostlaw11.FramePrints", spec := "framePrints", apart := false, narrowed := true }
def FramePrintsUptoSaid : Prop := framePrintsUptoRow.holds Try.pinned (OpenSpec.upto framePrintsSpec)

/-- 'signpostlaw11.FrameReads', WHERE WHAT IT READS IS OF BULK AT MOST 1048576: true; the input reads as it did. -/
def frameReadsUptoRow : OpenClaim := { program := "ytbpamegfohcbmaa", sum := "07ad4fe5f23a48492e06152d8e368ece8e4e93d98ad6834cbd2ac20c7800719c", func := "signpost/signpostlaw11.FrameReads", spec := "frameReads", apart := false, narrowed := true }
def FrameReadsUptoSaid : Prop := frameReadsUptoRow.holds Try.pinned (OpenSpec.upto frameReadsSpec)

/-- 'signpostlaw11.FrameBursts', WHERE WHAT IT READS IS OF BULK AT MOST 1048576: true; the input reads as it did. -/
def frameBurstsUptoRow : OpenClaim := { program := "ytbpamegfohcbmaa", sum := "07ad4fe5f23a48492e06152d8e368ece8e4e93d98ad6834cbd2ac20c7800719c", func := "signpost/signpostlaw11.FrameBursts", spec := "frameBursts", apart := false, narrowed := true }
def FrameBurstsUptoSaid : Prop := frameBurstsUptoRow.holds Try.pinned (OpenSpec.upto frameBurstsSpec)

/-- 'signpostlaw11.FrameFields', WHERE WHAT IT READS IS OF BULK AT MOST 1048576: true; the input reads as it did. -/
def frameFieldsUptoRow : OpenClaim := { program := "ytbpamegfohcbmaa", sum := "07ad4fe5f23a48492e06152d8e368ece8e4e93d98ad6834cbd2ac20c7800719c", func := "signpost/signpostlaw11.FrameFields", spec := "frameFields", apart := false, narrowed := true }
def FrameFieldsUptoSaid : Prop := frameFieldsUptoRow.holds Try.pinned (OpenSpec.upto frameFieldsSpec)

/-- 'signpostlaw11.FrameTwo', WHERE WHAT IT READS IS OF BULK AT MOST 1048576: true; the input reads as it did. -/
def frameTwoUptoRow : OpenClaim := { program := "ytbpamegfohcbmaa", sum := "07ad4fe5f23a48492e06152d8e368ece8e4e93d98ad6834cbd2ac20c7800719c", func := "signpost/signpostlaw11.FrameTwo", spec := "frameTwo", apart := false, narrowed := true }
def FrameTwoUptoSaid : Prop := frameTwoUptoRow.holds Try.pinned (OpenSpec.upto frameTwoSpec)

end Rows
end Go.Proofs.Ytbpamegfohcbmaa
