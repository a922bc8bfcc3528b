/-
  No cell of these rows narrows 'for every input' (looked for: loops, veiled, ifaces, maps, wideKeys, modest, calm, conditions, laid).
  DERIVED. THE GIVEN ROWS OF THIS SEAT. 6 by the template 'for every input the law returns true; each argument reads behind the call as it read before'; 0 by the template 'total and deterministic' (their statements: YtolkeibmllhacaaTotals.lean).
  GIVEN WITH THE SEED: the statements are not yours to turn. If you find one false, say at which input.
  Laid BY PROGRAM, IN A SANDBOX (cutbox-rows.mjs): the forced cells as the released guide's own fill.sh prints them over the translation d10c4adddbab3467… (all of the seat's roots in one cut). By AI agents, Wed Nov 11 2026. No macro, syntax, notation, axiom, sorry.
-/
import Derived.Test.YtolkeibmllhacaaChecked
import GoSem.Claim
import GoSem.ClaimJoined
import GoSem.ClaimMapViews
import Derived.JoinedTies
import Derived.KernelRfl
namespace Go.Proofs.Ytolkeibmllhacaa
/- THE CELL 'sum', in the pinned program and in every row, IS THE sha256 OF THE DUMP (.gsa) THAT YtolkeibmllhacaaProg.lean LOADS. Nothing in Lean hashes anything: it is a label: what it is worth is what the hold of that sum in a sandbox is worth. -/
noncomputable def Try.pinned : Pinned := { name := "ytolkeibmllhacaa", sum := "d10c4adddbab3467acece8a7687fa1e711fef80e2ae4b8bd52242b2d267f3b02", checked := Try.checked }
namespace Rows
def none {H : Type} : Left H := { results := [], args := [] }

/-- 'signpostlaw01.VarintWrites': WHATEVER THE INPUT: true; the input reads as it did. -/
def varintWritesSpec : ChangeSpec := { name := "varintWrites", fn := fun _ => fun
  | [d] => { results := [.lit (.bool true)], args := [d] }
  | _ => none }
def varintWritesRow : OpenClaim := { program := "ytolkeibmllhacaa", sum := "d10c4adddbab3467acece8a7687fa1e711fef80e2ae4b8bd52242b2d267f3b02", func := "signpost/signpostlaw01.VarintWrites", spec := "varintWrites", inPlace := ["internal/abi.NoEscape"], recurses := true, apart := false }
def VarintWritesSaid : Prop := varintWritesRow.holds Try.pinned (OpenSpec.ofChange varintWritesSpec)

/-- ITS FALSE NEIGHBOUR: 'it returns false'. Refute it at one input. -/
def varintWritesWrong : ChangeSpec := { name := "varintWrites", fn := fun _ => fun
  | [d] => { results := [.lit (.bool false)], args := [d] }
  | _ => none }
def VarintWritesWrongFalsely : Prop := varintWritesRow.holds Try.pinned (OpenSpec.ofChange varintWritesWrong)

/-- 'signpostlaw01.VarintOne': WHATEVER THE INPUT: true; the input reads as it did. -/
def varintOneSpec : ChangeSpec := { name := "varintOne", fn := fun _ => fun
  | [d1, d2] => { results := [.lit (.bool true)], args := [d1, d2] }
  | _ => none }
def varintOneRow : OpenClaim := { program := "ytolkeibmllhacaa", sum := "d10c4adddbab3467acece8a7687fa1e711fef80e2ae4b8bd52242b2d267f3b02", func := "signpost/signpostlaw01.VarintOne", spec := "varintOne", inPlace := ["internal/abi.NoEscape"], apart := false }
def VarintOneSaid : Prop := varintOneRow.holds Try.pinned (OpenSpec.ofChange varintOneSpec)

/-- ITS FALSE NEIGHBOUR: 'it returns false'. Refute it at one input. -/
def varintOneWrong : ChangeSpec := { name := "varintOne", fn := fun _ => fun
  | [d1, d2] => { results := [.lit (.bool false)], args := [d1, d2] }
  | _ => none }
def VarintOneWrongFalsely : Prop := varintOneRow.holds Try.pinned (OpenSpec.ofChange varintOneWrong)

/-- 'signpostlaw01.VarintNil': WHATEVER THE INPUT: true; the input reads as it did. -/
def varintNilSpec : ChangeSpec := { name := "varintNil", fn := fun _ => fun
  | [d] => { results := [.lit (.bool true)], args := [d] }
  | _ => none }
def varintNilRow : OpenClaim := { program := "ytolkeibmllhacaa", sum := "d10c4adddbab3467acece8a7687fa1e711fef80e2ae4b8bd52242b2d267f3b02", func := "signpost/signpostlaw01.VarintNil", spec := "varintNil", inPlace := ["internal/abi.NoEscape"], apart := false }
def VarintNilSaid : Prop := varintNilRow.holds Try.pinned (OpenSpec.ofChange varintNilSpec)

/-- ITS FALSE NEIGHBOUR: 'it returns false'. Refute it at one input. -/
def varintNilWrong : ChangeSpec := { name := "varintNil", fn := fun _ => fun
  | [d] => { results := [.lit (.bool false)], args := [d] }
  | _ => none }
def VarintNilWrongFalsely : Prop := varintNilRow.holds Try.pinned (OpenSpec.ofChange varintNilWrong)

/-- 'signpostlaw01.VarintJoins': WHATEVER THE INPUT: true; the input reads as it did. -/
def varintJoinsSpec : ChangeSpec := { name := "varintJoins", fn := fun _ => fun
  | [d1, d2] => { results := [.lit (.bool true)], args := [d1, d2] }
  | _ => none }
def varintJoinsRow : OpenClaim := { program := "ytolkeibmllhacaa", sum := "d10c4adddbab3467acece8a7687fa1e711fef80e2ae4b8bd52242b2d267f3b02", func := "signpost/signpostlaw01.VarintJoins", spec := "varintJoins", inPlace := ["internal/abi.NoEscape"], recurses := true, apart := false }
def VarintJoinsSaid : Prop := varintJoinsRow.holds Try.pinned (OpenSpec.ofChange varintJoinsSpec)

/-- ITS FALSE NEIGHBOUR: 'it returns false'. Refute it at one input. -/
def varintJoinsWrong : ChangeSpec := { name := "varintJoins", fn := fun _ => fun
  | [d1, d2] => { results := [.lit (.bool false)], args := [d1, d2] }
  | _ => none }
def VarintJoinsWrongFalsely : Prop := varintJoinsRow.holds Try.pinned (OpenSpec.ofChange varintJoinsWrong)

/-- 'signpostlaw01.VarintCuts': WHATEVER THE INPUT: true; the input reads as it did. -/
def varintCutsSpec : ChangeSpec := { name := "varintCuts", fn := fun _ => fun
  | [d1, d2, d3] => { results := [.lit (.bool true)], args := [d1, d2, d3] }
  | _ => none }
def varintCutsRow : OpenClaim := { program := "ytolkeibmllhacaa", sum := "d10c4adddbab3467acece8a7687fa1e711fef80e2ae4b8bd52242b2d267f3b02", func := "signpost/signpostlaw01.VarintCuts", spec := "varintCuts", inPlace := ["internal/abi.NoEscape"], apart := false }
def VarintCutsSaid : Prop := varintCutsRow.holds Try.pinned (OpenSpec.ofChange varintCutsSpec)

/-- ITS FALSE NEIGHBOUR: 'it returns false'. Refute it at one input. -/
def varintCutsWrong : ChangeSpec := { name := "varintCuts", fn := fun _ => fun
  | [d1, d2, d3] => { results := [.lit (.bool false)], args := [d1, d2, d3] }
  | _ => none }
def VarintCutsWrongFalsely : Prop := varintCutsRow.holds Try.pinned (OpenSpec.ofChange varintCutsWrong)

/-- 'signpostlaw01.VarintStops': WHATEVER THE INPUT: true; the input reads as it did. -/
def varintStopsSpec : ChangeSpec := { name := "varintStops", fn := fun _ => fun
  | [d1, d2] => { results := [.lit (.bool true)], args := [d1, d2] }
  | _ => none }
def varintStopsRow : OpenClaim := { program := "ytolkeibmllhacaa", sum := "d10c4adddbab3467acece8a7687fa1e711fef80e2ae4b8bd52242b2d267f3b02", func := "signpost/signpostlaw01.VarintStops", spec := "varintStops", inPlace := ["internal/abi.NoEscape"], apart := false }
def VarintStopsSaid : Prop := varintStopsRow.holds Try.pinned (OpenSpec.ofChange varintStopsSpec)

/-- ITS FALSE NEIGHBOUR: 'it returns false'. Refute it at one input. -/
def varintStopsWrong : ChangeSpec := { name := "varintStops", fn := fun _ => fun
  | [d1, d2] => { results := [.lit (.bool false)], args := [d1, d2] }
  | _ => none }
def VarintStopsWrongFalsely : Prop := varintStopsRow.holds Try.pinned (OpenSpec.ofChange varintStopsWrong)

/- THE SECOND FORM. 'bulk': how many values and letters a reading holds, each counted each time it is reached (what is shared counts as often as it is met; a slice's spare places count too). A statement '..UptoSaid' is the law's where the arguments, and the package variables that the reading takes, are together of bulk at most 1048576: NARROWER than '..Said'. Prove '..Said' where nothing that the law and all that it calls make is longer than what came in: it says more and counts as full. Else prove '..UptoSaid'. A law counts once. -/
mutual
def uptoBulk {H : Type} : DataW H → Nat
  | .lit (.string bytes) => bytes.length + 1
  | .lit _ => 1
  | .nil => 1
  | .ptr d => uptoBulk d + 1
  | .slice elems spare => uptoBulkAll elems + uptoBulkAll spare + 1
  | .agg parts => uptoBulkAll parts + 1
  | .iface _ d => uptoBulk d + 1
  | .map entries => uptoBulkEntries entries + 1
  | .held _ => 1
def uptoBulkAll {H : Type} : List (DataW H) → Nat
  | [] => 0
  | d :: r => uptoBulk d + uptoBulkAll r
def uptoBulkEntries {H : Type} : List (Lit × DataW H) → Nat
  | [] => 0
  | x :: r => uptoBulkEntry x + uptoBulkEntries r
def uptoBulkEntry {H : Type} : Lit × DataW H → Nat
  | (.string bytes, d) => bytes.length + uptoBulk d + 1
  | (_, d) => uptoBulk d + 1
 end
def uptoSmall : (H : Type) → List (DataW H) → Bool := fun _ ds => decide (uptoBulkAll ds ≤ 1048576)
def OpenSpec.upto (s : _root_.Go.ChangeSpec) : _root_.Go.OpenSpec := { _root_.Go.OpenSpec.ofChange s with cond := some uptoSmall }

/-- 'signpostlaw01.VarintWrites', WHERE WHAT IT READS IS OF BULK AT MOST 1048576: true; the input reads as it did. -/
def varintWritesUptoRow : OpenClaim := { program := "ytolkeibmllhacaa", sum := "d10c4adddbab3467acece8a7687fa1e711fef80e2ae4b8bd52242b2d267f3b02", func := "signpost/signpostlaw01.VarintWrites", spec := "varintWrites", inPlace := ["internal/abi.NoEscape"], recurses := true, apart := false, narrowed := true }
def VarintWritesUptoSaid : Prop := varintWritesUptoRow.holds Try.pinned (OpenSpec.upto varintWritesSpec)

/-- 'signpostlaw01.VarintOne', WHERE WHAT IT READS IS OF BULK AT MOST 1048576: true; the input reads as it did. -/
def varintOneUptoRow : OpenClaim := { program := "ytolkeibmllhacaa", sum := "d10c4adddbab3467acece8a7687fa1e711fef80e2ae4b8bd52242b2d267f3b02", func := "signpost/signpostlaw01.VarintOne", spec := "varintOne", inPlace := ["internal/abi.NoEscape"], apart := false, narrowed := true }
def VarintOneUptoSaid : Prop := varintOneUptoRow.holds Try.pinned (OpenSpec.upto varintOneSpec)

/-- 'signpostlaw01.VarintNil', WHERE WHAT IT READS IS OF BULK AT MOST 1048576: true; the input reads as it did. -/
def varintNilUptoRow : OpenClaim := { program := "ytolkeibmllhacaa", sum := "d10c4adddbab3467acece8a7687fa1e711fef80e2ae4b8bd52242b2d267f3b02", func := "signpost/signpostlaw01.VarintNil", spec := "varintNil", inPlace := ["internal/abi.NoEscape"], apart := false, narrowed := true }
def VarintNilUptoSaid : Prop := varintNilUptoRow.holds Try.pinned (OpenSpec.upto varintNilSpec)

/-- 'signpostlaw01.VarintJoins', WHERE WHAT IT READS IS OF BULK AT MOST 1048576: true; the input reads as it did. -/
def varintJoinsUptoRow : OpenClaim := { program := "ytolkeibmllhacaa", sum := "d10c4adddbab3467acece8a7687fa1e711fef80e2ae4b8bd52242b2d267f3b02", func := "signpost/signpostlaw01.VarintJoins", spec := "varintJoins", inPlace := ["internal/abi.NoEscape"], recurses := true, apart := false, narrowed := true }
def VarintJoinsUptoSaid : Prop := varintJoinsUptoRow.holds Try.pinned (OpenSpec.upto varintJoinsSpec)

/-- 'signpostlaw01.VarintCuts', WHERE WHAT IT READS IS OF BULK AT MOST 1048576: true; the input reads as it did. -/
def varintCutsUptoRow : OpenClaim := { program := "ytolkeibmllhacaa", sum := "d10c4adddbab3467acece8a7687fa1e711fef80e2ae4b8bd52242b2d267f3b02", func := "signpost/signpostlaw01.VarintCuts", spec := "varintCuts", inPlace := ["internal/abi.NoEscape"], apart := false, narrowed := true }
def VarintCutsUptoSaid : Prop := varintCutsUptoRow.holds Try.pinned (OpenSpec.upto varintCutsSpec)

/-- 'signpostlaw01.VarintStops', WHERE WHAT IT READS IS OF BULK AT MOST 1048576: true; the input reads as it did. -/
def varintStopsUptoRow : OpenClaim := { program := "ytolkeibmllhacaa", sum := "d10c4adddbab3467acece8a7687fa1e711fef80e2ae4b8bd52242b2d267f3b02", func := "signpost/signpostlaw01.VarintStops", spec := "varintStops", inPlace := ["internal/abi.NoEscape"], apart := false, narrowed := true }
def VarintStopsUptoSaid : Prop := varintStopsUptoRow.holds Try.pinned (OpenSpec.upto varintStopsSpec)

end Rows
end Go.Proofs.Ytolkeibmllhacaa
