/-
  No cell of these rows narrows 'for every input' (looked for: loops, veiled, ifaces, maps, wideKeys, modest, calm, conditions, laid).
  DERIVED. THE GIVEN ROWS OF THIS SEAT. 7 by the template 'for every input the law returns true; each argument reads behind the call as it read before'; 0 by the template 'total and deterministic' (their statements: YtnblpbaflcgkkaaTotals.lean).
  GIVEN WITH THE SEED: the statements are not yours to turn. If you find one false, say at which input.
  Laid BY PROGRAM, IN A SANDBOX (cutbox-rows.mjs): the forced cells as the released guide's own fill.sh prints them over the translation 311277c4366337bf… (all of the seat's roots in one cut). By AI agents, Wed Nov 11 2026. No macro, syntax, notation, axiom, sorry.
-/
import Derived.Test.YtnblpbaflcgkkaaChecked
import GoSem.Claim
import GoSem.ClaimJoined
import GoSem.ClaimMapViews
import Derived.JoinedTies
import Derived.KernelRfl
namespace Go.Proofs.Ytnblpbaflcgkkaa
/- THE CELL 'sum', in the pinned program and in every row, IS THE sha256 OF THE DUMP (.gsa) THAT YtnblpbaflcgkkaaProg.lean LOADS. Nothing in Lean hashes anything: it is a label: what it is worth is what the hold of that sum in a sandbox is worth. -/
noncomputable def Try.pinned : Pinned := { name := "ytnblpbaflcgkkaa", sum := "311277c4366337bf04a24c7faacf68ac3122e09d939ffd809d4918472563aecc", checked := Try.checked }
namespace Rows
def none {H : Type} : Left H := { results := [], args := [] }

/-- 'signpostlaw12.SackPlays': WHATEVER THE INPUT: true; the input reads as it did. -/
def sackPlaysSpec : ChangeSpec := { name := "sackPlays", fn := fun _ => fun
  | [d1, d2] => { results := [.lit (.bool true)], args := [d1, d2] }
  | _ => none }
def sackPlaysRow : OpenClaim := { program := "ytnblpbaflcgkkaa", sum := "311277c4366337bf04a24c7faacf68ac3122e09d939ffd809d4918472563aecc", func := "signpost/signpostlaw12.SackPlays", spec := "sackPlays", apart := false }
def SackPlaysSaid : Prop := sackPlaysRow.holds Try.pinned (OpenSpec.ofChange sackPlaysSpec)

/-- ITS FALSE NEIGHBOUR: 'it returns false'. Refute it at one input. -/
def sackPlaysWrong : ChangeSpec := { name := "sackPlays", fn := fun _ => fun
  | [d1, d2] => { results := [.lit (.bool false)], args := [d1, d2] }
  | _ => none }
def SackPlaysWrongFalsely : Prop := sackPlaysRow.holds Try.pinned (OpenSpec.ofChange sackPlaysWrong)

/-- 'signpostlaw12.SackMissing': WHATEVER THE INPUT: true; the input reads as it did. -/
def sackMissingSpec : ChangeSpec := { name := "sackMissing", fn := fun _ => fun
  | [d1, d2] => { results := [.lit (.bool true)], args := [d1, d2] }
  | _ => none }
def sackMissingRow : OpenClaim := { program := "ytnblpbaflcgkkaa", sum := "311277c4366337bf04a24c7faacf68ac3122e09d939ffd809d4918472563aecc", func := "signpost/signpostlaw12.SackMissing", spec := "sackMissing", apart := false }
def SackMissingSaid : Prop := sackMissingRow.holds Try.pinned (OpenSpec.ofChange sackMissingSpec)

/-- ITS FALSE NEIGHBOUR: 'it returns false'. Refute it at one input. -/
def sackMissingWrong : ChangeSpec := { name := "sackMissing", fn := fun _ => fun
  | [d1, d2] => { results := [.lit (.bool false)], args := [d1, d2] }
  | _ => none }
def SackMissingWrongFalsely : Prop := sackMissingRow.holds Try.pinned (OpenSpec.ofChange sackMissingWrong)

/-- 'signpostlaw12.SackBase': WHATEVER THE INPUT: true; the input reads as it did. -/
def sackBaseSpec : ChangeSpec := { name := "sackBase", fn := fun _ => fun
  | [d1, d2] => { results := [.lit (.bool true)], args := [d1, d2] }
  | _ => none }
def sackBaseRow : OpenClaim := { program := "ytnblpbaflcgkkaa", sum := "311277c4366337bf04a24c7faacf68ac3122e09d939ffd809d4918472563aecc", func := "signpost/signpostlaw12.SackBase", spec := "sackBase", apart := false }
def SackBaseSaid : Prop := sackBaseRow.holds Try.pinned (OpenSpec.ofChange sackBaseSpec)

/-- ITS FALSE NEIGHBOUR: 'it returns false'. Refute it at one input. -/
def sackBaseWrong : ChangeSpec := { name := "sackBase", fn := fun _ => fun
  | [d1, d2] => { results := [.lit (.bool false)], args := [d1, d2] }
  | _ => none }
def SackBaseWrongFalsely : Prop := sackBaseRow.holds Try.pinned (OpenSpec.ofChange sackBaseWrong)

/-- 'signpostlaw12.SackShort': WHATEVER THE INPUT: true; the input reads as it did. -/
def sackShortSpec : ChangeSpec := { name := "sackShort", fn := fun _ => fun
  | [d1, d2, d3] => { results := [.lit (.bool true)], args := [d1, d2, d3] }
  | _ => none }
def sackShortRow : OpenClaim := { program := "ytnblpbaflcgkkaa", sum := "311277c4366337bf04a24c7faacf68ac3122e09d939ffd809d4918472563aecc", func := "signpost/signpostlaw12.SackShort", spec := "sackShort", apart := false }
def SackShortSaid : Prop := sackShortRow.holds Try.pinned (OpenSpec.ofChange sackShortSpec)

/-- ITS FALSE NEIGHBOUR: 'it returns false'. Refute it at one input. -/
def sackShortWrong : ChangeSpec := { name := "sackShort", fn := fun _ => fun
  | [d1, d2, d3] => { results := [.lit (.bool false)], args := [d1, d2, d3] }
  | _ => none }
def SackShortWrongFalsely : Prop := sackShortRow.holds Try.pinned (OpenSpec.ofChange sackShortWrong)

/-- 'signpostlaw12.SackTells': WHATEVER THE INPUT: true; the input reads as it did. -/
def sackTellsSpec : ChangeSpec := { name := "sackTells", fn := fun _ => fun
  | [d1, d2, d3] => { results := [.lit (.bool true)], args := [d1, d2, d3] }
  | _ => none }
def sackTellsRow : OpenClaim := { program := "ytnblpbaflcgkkaa", sum := "311277c4366337bf04a24c7faacf68ac3122e09d939ffd809d4918472563aecc", func := "signpost/signpostlaw12.SackTells", spec := "sackTells", apart := false }
def SackTellsSaid : Prop := sackTellsRow.holds Try.pinned (OpenSpec.ofChange sackTellsSpec)

/-- ITS FALSE NEIGHBOUR: 'it returns false'. Refute it at one input. -/
def sackTellsWrong : ChangeSpec := { name := "sackTells", fn := fun _ => fun
  | [d1, d2, d3] => { results := [.lit (.bool false)], args := [d1, d2, d3] }
  | _ => none }
def SackTellsWrongFalsely : Prop := sackTellsRow.holds Try.pinned (OpenSpec.ofChange sackTellsWrong)

/-- 'signpostlaw12.SackNil': WHATEVER THE INPUT: true; the input reads as it did. -/
def sackNilSpec : ChangeSpec := { name := "sackNil", fn := fun _ => fun
  | [d1, d2] => { results := [.lit (.bool true)], args := [d1, d2] }
  | _ => none }
def sackNilRow : OpenClaim := { program := "ytnblpbaflcgkkaa", sum := "311277c4366337bf04a24c7faacf68ac3122e09d939ffd809d4918472563aecc", func := "signpost/signpostlaw12.SackNil", spec := "sackNil", apart := false }
def SackNilSaid : Prop := sackNilRow.holds Try.pinned (OpenSpec.ofChange sackNilSpec)

/-- ITS FALSE NEIGHBOUR: 'it returns false'. Refute it at one input. -/
def sackNilWrong : ChangeSpec := { name := "sackNil", fn := fun _ => fun
  | [d1, d2] => { results := [.lit (.bool false)], args := [d1, d2] }
  | _ => none }
def SackNilWrongFalsely : Prop := sackNilRow.holds Try.pinned (OpenSpec.ofChange sackNilWrong)

/-- 'signpostlaw12.SackCopies': WHATEVER THE INPUT: true; the input reads as it did. -/
def sackCopiesSpec : ChangeSpec := { name := "sackCopies", fn := fun _ => fun
  | [d1, d2, d3] => { results := [.lit (.bool true)], args := [d1, d2, d3] }
  | _ => none }
def sackCopiesRow : OpenClaim := { program := "ytnblpbaflcgkkaa", sum := "311277c4366337bf04a24c7faacf68ac3122e09d939ffd809d4918472563aecc", func := "signpost/signpostlaw12.SackCopies", spec := "sackCopies", apart := false }
def SackCopiesSaid : Prop := sackCopiesRow.holds Try.pinned (OpenSpec.ofChange sackCopiesSpec)

/-- ITS FALSE NEIGHBOUR: 'it returns false'. Refute it at one input. -/
def sackCopiesWrong : ChangeSpec := { name := "sackCopies", fn := fun _ => fun
  | [d1, d2, d3] => { results := [.lit (.bool false)], args := [d1, d2, d3] }
  | _ => none }
def SackCopiesWrongFalsely : Prop := sackCopiesRow.holds Try.pinned (OpenSpec.ofChange sackCopiesWrong)

/- THE SECOND FORM. 'bulk': how many values and letters a reading holds, each counted each time it is reached (what is shared counts as often as it is met; a slice's spare places count too). A statement '..UptoSaid' is the law's where the arguments, and the package variables that the reading takes, are together of bulk at most 1048576: NARROWER than '..Said'. Prove '..Said' where nothing that the law and all that it calls make is longer than what came in: it says more and counts as full. Else prove '..UptoSaid'. A law counts once. -/
mutual
def uptoBulk {H : Type} : DataW H → Nat
  | .lit (.string bytes) => bytes.length + 1
  | .lit _ => 1
  | .nil => 1
  | .ptr d => uptoBulk d + 1
  | .slice elems spare => uptoBulkAll elems + uptoBulkAll spare + 1
  | .agg parts => uptoBulkAll parts + 1
  | .iface _ d => uptoBulk d + 1
  | .map entries => uptoBulkEntries entries + 1
  | .held _ => 1
def uptoBulkAll {H : Type} : List (DataW H) → Nat
  | [] => 0
  | d :: r => uptoBulk d + uptoBulkAll r
def uptoBulkEntries {H : Type} : List (Lit × DataW H) → Nat
  | [] => 0
  | x :: r => uptoBulkEntry x + uptoBulkEntries r
def uptoBulkEntry {H : Type} : Lit × DataW H → Nat
  | (.string bytes, d) => bytes.length + uptoBulk d + 1
  | (_, d) => uptoBulk d + 1
 end
def uptoSmall : (H : Type) → List (DataW H) → Bool := fun _ ds => decide (uptoBulkAll ds ≤ 1048576)
def OpenSpec.upto (s : _root_.Go.ChangeSpec) : _root_.Go.OpenSpec := { _root_.Go.OpenSpec.ofChange s with cond := some uptoSmall }

/-- 'signpostlaw12.SackPlays', WHERE WHAT IT READS IS OF BULK AT MOST 1048576: true; the input reads as it did. -/
def sackPlaysUptoRow : OpenClaim := { program := "ytnblpbaflcgkkaa", sum := "311277c4366337bf04a24c7faacf68ac3122e09d939ffd809d4918472563aecc", func := "signpost/signpostlaw12.SackPlays", spec := "sackPlays", apart := false, narrowed := true }
def SackPlaysUptoSaid : Prop := sackPlaysUptoRow.holds Try.pinned (OpenSpec.upto sackPlaysSpec)

/-- 'signpostlaw12.SackMissing', WHERE WHAT IT READS IS OF BULK AT MOST 1048576: true; the input reads as it did. -/
def sackMissingUptoRow : OpenClaim := { program := "ytnblpbaflcgkkaa", sum := "311277c4366337bf04a24c7faacf68ac3122e09d939ffd809d4918472563aecc", func := "signpost/signpostlaw12.SackMissing", spec := "sackMissing", apart := false, narrowed := true }
def SackMissingUptoSaid : Prop := sackMissingUptoRow.holds Try.pinned (OpenSpec.upto sackMissingSpec)

/-- 'signpostlaw12.SackBase', WHERE WHAT IT READS IS OF BULK AT MOST 1048576: true; the input reads as it did. -/
def sackBaseUptoRow : OpenClaim := { program := "ytnblpbaflcgkkaa", sum := "311277c4366337bf04a24c7faacf68ac3122e09d939ffd809d4918472563aecc", func := "signpost/signpostlaw12.SackBase", spec := "sackBase", apart := false, narrowed := true }
def SackBaseUptoSaid : Prop := sackBaseUptoRow.holds Try.pinned (OpenSpec.upto sackBaseSpec)

/-- 'signpostlaw12.SackShort', WHERE WHAT IT READS IS OF BULK AT MOST 1048576: true; the input reads as it did. -/
def sackShortUptoRow : OpenClaim := { program := "ytnblpbaflcgkkaa", sum := "311277c4366337bf04a24c7faacf68ac3122e09d939ffd809d4918472563aecc", func := "signpost/signpostlaw12.SackShort", spec := "sackShort", apart := false, narrowed := true }
def SackShortUptoSaid : Prop := sackShortUptoRow.holds Try.pinned (OpenSpec.upto sackShortSpec)

/-- 'signpostlaw12.SackTells', WHERE WHAT IT READS IS OF BULK AT MOST 1048576: true; the input reads as it did. -/
def sackTellsUptoRow : OpenClaim := { program := "ytnblpbaflcgkkaa", sum := "311277c4366337bf04a24c7faacf68ac3122e09d939ffd809d4918472563aecc", func := "signpost/signpostlaw12.SackTells", spec := "sackTells", apart := false, narrowed := true }
def SackTellsUptoSaid : Prop := sackTellsUptoRow.holds Try.pinned (OpenSpec.upto sackTellsSpec)

/-- 'signpostlaw12.SackNil', WHERE WHAT IT READS IS OF BULK AT MOST 1048576: true; the input reads as it did. -/
def sackNilUptoRow : OpenClaim := { program := "ytnblpbaflcgkkaa", sum := "311277c4366337bf04a24c7faacf68ac3122e09d939ffd809d4918472563aecc", func := "signpost/signpostlaw12.SackNil", spec := "sackNil", apart := false, narrowed := true }
def SackNilUptoSaid : Prop := sackNilUptoRow.holds Try.pinned (OpenSpec.upto sackNilSpec)

/-- 'signpostlaw12.SackCopies', WHERE WHAT IT READS IS OF BULK AT MOST 1048576: true; the input reads as it did. -/
def sackCopiesUptoRow : OpenClaim := { program := "ytnblpbaflcgkkaa", sum := "311277c4366337bf04a24c7faacf68ac3122e09d939ffd809d4918472563aecc", func := "signpost/signpostlaw12.SackCopies", spec := "sackCopies", apart := false, narrowed := true }
def SackCopiesUptoSaid : Prop := sackCopiesUptoRow.holds Try.pinned (OpenSpec.upto sackCopiesSpec)

end Rows
end Go.Proofs.Ytnblpbaflcgkkaa
