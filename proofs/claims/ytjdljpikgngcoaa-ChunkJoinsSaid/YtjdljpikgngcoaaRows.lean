/-
  No cell of these rows narrows 'for every input' (looked for: loops, veiled, ifaces, maps, wideKeys, modest, calm, conditions, laid).
  DERIVED. THE GIVEN ROWS OF THIS SEAT. 5 by the template 'for every input the law returns true; each argument reads behind the call as it read before'; 0 by the template 'total and deterministic' (their statements: YtjdljpikgngcoaaTotals.lean).
  GIVEN WITH THE SEED: the statements are not yours to turn. If you find one false, say at which input.
  Laid BY PROGRAM, IN A SANDBOX (cutbox-rows.mjs): the forced cells as the released guide's own fill.sh prints them over the translation dabc6f54045092c8… (all of the seat's roots in one cut). By AI agents, Wed Nov 11 2026. No macro, syntax, notation, axiom, sorry.
-/
import Derived.Test.YtjdljpikgngcoaaChecked
import GoSem.Claim
import GoSem.ClaimJoined
import GoSem.ClaimMapViews
import Derived.JoinedTies
import Derived.KernelRfl
namespace Go.Proofs.Ytjdljpikgngcoaa
/- THE CELL 'sum', in the pinned program and in every row, IS THE sha256 OF THE DUMP (.gsa) THAT YtjdljpikgngcoaaProg.lean LOADS. Nothing in Lean hashes anything: it is a label: what it is worth is what the hold of that sum in a sandbox is worth. -/
noncomputable def Try.pinned : Pinned := { name := "ytjdljpikgngcoaa", sum := "dabc6f54045092c81f2ef80aa232f70f5612496b468700fcd9bb60aec74ddb93", checked := Try.checked }
namespace Rows
def none {H : Type} : Left H := { results := [], args := [] }

/-- 'signpostlaw10.ChunkCuts': WHATEVER THE INPUT: true; the input reads as it did. -/
def chunkCutsSpec : ChangeSpec := { name := "chunkCuts", fn := fun _ => fun
  | [d1, d2] => { results := [.lit (.bool true)], args := [d1, d2] }
  | _ => none }
def chunkCutsRow : OpenClaim := { program := "ytjdljpikgngcoaa", sum := "dabc6f54045092c81f2ef80aa232f70f5612496b468700fcd9bb60aec74ddb93", func := "signpost/signpostlaw10.ChunkCuts", spec := "chunkCuts", inPlace := ["internal/abi.NoEscape", "internal/bytealg.MakeNoZero"], apart := false }
def ChunkCutsSaid : Prop := chunkCutsRow.holds Try.pinned (OpenSpec.ofChange chunkCutsSpec)

/-- ITS FALSE NEIGHBOUR: 'it returns false'. Refute it at one input. -/
def chunkCutsWrong : ChangeSpec := { name := "chunkCuts", fn := fun _ => fun
  | [d1, d2] => { results := [.lit (.bool false)], args := [d1, d2] }
  | _ => none }
def ChunkCutsWrongFalsely : Prop := chunkCutsRow.holds Try.pinned (OpenSpec.ofChange chunkCutsWrong)

/-- 'signpostlaw10.ChunkSizes': WHATEVER THE INPUT: true; the input reads as it did. -/
def chunkSizesSpec : ChangeSpec := { name := "chunkSizes", fn := fun _ => fun
  | [d1, d2] => { results := [.lit (.bool true)], args := [d1, d2] }
  | _ => none }
def chunkSizesRow : OpenClaim := { program := "ytjdljpikgngcoaa", sum := "dabc6f54045092c81f2ef80aa232f70f5612496b468700fcd9bb60aec74ddb93", func := "signpost/signpostlaw10.ChunkSizes", spec := "chunkSizes", inPlace := ["internal/abi.NoEscape", "internal/bytealg.MakeNoZero"], apart := false }
def ChunkSizesSaid : Prop := chunkSizesRow.holds Try.pinned (OpenSpec.ofChange chunkSizesSpec)

/-- ITS FALSE NEIGHBOUR: 'it returns false'. Refute it at one input. -/
def chunkSizesWrong : ChangeSpec := { name := "chunkSizes", fn := fun _ => fun
  | [d1, d2] => { results := [.lit (.bool false)], args := [d1, d2] }
  | _ => none }
def ChunkSizesWrongFalsely : Prop := chunkSizesRow.holds Try.pinned (OpenSpec.ofChange chunkSizesWrong)

/-- 'signpostlaw10.ChunkEach': WHATEVER THE INPUT: true; the input reads as it did. -/
def chunkEachSpec : ChangeSpec := { name := "chunkEach", fn := fun _ => fun
  | [d1, d2] => { results := [.lit (.bool true)], args := [d1, d2] }
  | _ => none }
def chunkEachRow : OpenClaim := { program := "ytjdljpikgngcoaa", sum := "dabc6f54045092c81f2ef80aa232f70f5612496b468700fcd9bb60aec74ddb93", func := "signpost/signpostlaw10.ChunkEach", spec := "chunkEach", inPlace := ["internal/abi.NoEscape", "internal/bytealg.MakeNoZero"], apart := false }
def ChunkEachSaid : Prop := chunkEachRow.holds Try.pinned (OpenSpec.ofChange chunkEachSpec)

/-- ITS FALSE NEIGHBOUR: 'it returns false'. Refute it at one input. -/
def chunkEachWrong : ChangeSpec := { name := "chunkEach", fn := fun _ => fun
  | [d1, d2] => { results := [.lit (.bool false)], args := [d1, d2] }
  | _ => none }
def ChunkEachWrongFalsely : Prop := chunkEachRow.holds Try.pinned (OpenSpec.ofChange chunkEachWrong)

/-- 'signpostlaw10.ChunkJoins': WHATEVER THE INPUT: true; the input reads as it did. -/
def chunkJoinsSpec : ChangeSpec := { name := "chunkJoins", fn := fun _ => fun
  | [d1, d2, d3] => { results := [.lit (.bool true)], args := [d1, d2, d3] }
  | _ => none }
def chunkJoinsRow : OpenClaim := { program := "ytjdljpikgngcoaa", sum := "dabc6f54045092c81f2ef80aa232f70f5612496b468700fcd9bb60aec74ddb93", func := "signpost/signpostlaw10.ChunkJoins", spec := "chunkJoins", inPlace := ["internal/abi.NoEscape", "internal/bytealg.MakeNoZero"], apart := false }
def ChunkJoinsSaid : Prop := chunkJoinsRow.holds Try.pinned (OpenSpec.ofChange chunkJoinsSpec)

/-- ITS FALSE NEIGHBOUR: 'it returns false'. Refute it at one input. -/
def chunkJoinsWrong : ChangeSpec := { name := "chunkJoins", fn := fun _ => fun
  | [d1, d2, d3] => { results := [.lit (.bool false)], args := [d1, d2, d3] }
  | _ => none }
def ChunkJoinsWrongFalsely : Prop := chunkJoinsRow.holds Try.pinned (OpenSpec.ofChange chunkJoinsWrong)

/-- 'signpostlaw10.ChunkCounts': WHATEVER THE INPUT: true; the input reads as it did. -/
def chunkCountsSpec : ChangeSpec := { name := "chunkCounts", fn := fun _ => fun
  | [d1, d2] => { results := [.lit (.bool true)], args := [d1, d2] }
  | _ => none }
def chunkCountsRow : OpenClaim := { program := "ytjdljpikgngcoaa", sum := "dabc6f54045092c81f2ef80aa232f70f5612496b468700fcd9bb60aec74ddb93", func := "signpost/signpostlaw10.ChunkCounts", spec := "chunkCounts", inPlace := ["internal/abi.NoEscape", "internal/bytealg.MakeNoZero"], apart := false }
def ChunkCountsSaid : Prop := chunkCountsRow.holds Try.pinned (OpenSpec.ofChange chunkCountsSpec)

/-- ITS FALSE NEIGHBOUR: 'it returns false'. Refute it at one input. -/
def chunkCountsWrong : ChangeSpec := { name := "chunkCounts", fn := fun _ => fun
  | [d1, d2] => { results := [.lit (.bool false)], args := [d1, d2] }
  | _ => none }
def ChunkCountsWrongFalsely : Prop := chunkCountsRow.holds Try.pinned (OpenSpec.ofChange chunkCountsWrong)

/- THE SECOND FORM. 'bulk': how many values and letters a reading holds, each counted each time it is reached (what is shared counts as often as it is met; a slice's spare places count too). A statement '..UptoSaid' is the law's where the arguments, and the package variables that the reading takes, are together of bulk at most 1048576: NARROWER than '..Said'. Prove '..Said' where nothing that the law and all that it calls make is longer than what came in: it says more and counts as full. Else prove '..UptoSaid'. A law counts once. -/
mutual
def uptoBulk {H : Type} : DataW H → Nat
  | .lit (.string bytes) => bytes.length + 1
  | .lit _ => 1
  | .nil => 1
  | .ptr d => uptoBulk d + 1
  | .slice elems spare => uptoBulkAll elems + uptoBulkAll spare + 1
  | .agg parts => uptoBulkAll parts + 1
  | .iface _ d => uptoBulk d + 1
  | .map entries => uptoBulkEntries entries + 1
  | .held _ => 1
def uptoBulkAll {H : Type} : List (DataW H) → Nat
  | [] => 0
  | d :: r => uptoBulk d + uptoBulkAll r
def uptoBulkEntries {H : Type} : List (Lit × DataW H) → Nat
  | [] => 0
  | x :: r => uptoBulkEntry x + uptoBulkEntries r
def uptoBulkEntry {H : Type} : Lit × DataW H → Nat
  | (.string bytes, d) => bytes.length + uptoBulk d + 1
  | (_, d) => uptoBulk d + 1
 end
def uptoSmall : (H : Type) → List (DataW H) → Bool := fun _ ds => decide (uptoBulkAll ds ≤ 1048576)
def OpenSpec.upto (s : _root_.Go.ChangeSpec) : _root_.Go.OpenSpec := { _root_.Go.OpenSpec.ofChange s with cond := some uptoSmall }

/-- 'signpostlaw10.ChunkCuts', WHERE WHAT IT READS IS OF BULK AT MOST 1048576: true; the input reads as it did. -/
def chunkCutsUptoRow : OpenClaim := { program := "ytjdljpikgngcoaa", sum := "dabc6f54045092c81f2ef80aa232f70f5612496b468700fcd9bb60aec74ddb93", func := "signpost/signpostlaw10.ChunkCuts", spec := "chunkCuts", inPlace := ["internal/abi.NoEscape", "internal/bytealg.MakeNoZero"], apart := false, narrowed := true }
def ChunkCutsUptoSaid : Prop := chunkCutsUptoRow.holds Try.pinned (OpenSpec.upto chunkCutsSpec)

/-- 'signpostlaw10.ChunkSizes', WHERE WHAT IT READS IS OF BULK AT MOST 1048576: true; the input reads as it did. -/
def chunkSizesUptoRow : OpenClaim := { program := "ytjdljpikgngcoaa", sum := "dabc6f54045092c81f2ef80aa232f70f5612496b468700fcd9bb60aec74ddb93", func := "signpost/signpostlaw10.ChunkSizes", spec := "chunkSizes", inPlace := ["internal/abi.NoEscape", "internal/bytealg.MakeNoZero"], apart := false, narrowed := true }
def ChunkSizesUptoSaid : Prop := chunkSizesUptoRow.holds Try.pinned (OpenSpec.upto chunkSizesSpec)

/-- 'signpostlaw10.ChunkEach', WHERE WHAT IT READS IS OF BULK AT MOST 1048576: true; the input reads as it did. -/
def chunkEachUptoRow : OpenClaim := { program := "ytjdljpikgngcoaa", sum := "dabc6f54045092c81f2ef80aa232f70f5612496b468700fcd9bb60aec74ddb93", func := "signpost/signpostlaw10.ChunkEach", spec := "chunkEach", inPlace := ["internal/abi.NoEscape", "internal/bytealg.MakeNoZero"], apart := false, narrowed := true }
def ChunkEachUptoSaid : Prop := chunkEachUptoRow.holds Try.pinned (OpenSpec.upto chunkEachSpec)

/-- 'signpostlaw10.ChunkJoins', WHERE WHAT IT READS IS OF BULK AT MOST 1048576: true; the input reads as it did. -/
def chunkJoinsUptoRow : OpenClaim := { program := "ytjdljpikgngcoaa", sum := "dabc6f54045092c81f2ef80aa232f70f5612496b468700fcd9bb60aec74ddb93", func := "signpost/signpostlaw10.ChunkJoins", spec := "chunkJoins", inPlace := ["internal/abi.NoEscape", "internal/bytealg.MakeNoZero"], apart := false, narrowed := true }
def ChunkJoinsUptoSaid : Prop := chunkJoinsUptoRow.holds Try.pinned (OpenSpec.upto chunkJoinsSpec)

/-- 'signpostlaw10.ChunkCounts', WHERE WHAT IT READS IS OF BULK AT MOST 1048576: true; the input reads as it did. -/
def chunkCountsUptoRow : OpenClaim := { program := "ytjdljpikgngcoaa", sum := "dabc6f54045092c81f2ef80aa232f70f5612496b468700fcd9bb60aec74ddb93", func := "signpost/signpostlaw10.ChunkCounts", spec := "chunkCounts", inPlace := ["internal/abi.NoEscape", "internal/bytealg.MakeNoZero"], apart := false, narrowed := true }
def ChunkCountsUptoSaid : Prop := chunkCountsUptoRow.holds Try.pinned (OpenSpec.upto chunkCountsSpec)

end Rows
end Go.Proofs.Ytjdljpikgngcoaa
