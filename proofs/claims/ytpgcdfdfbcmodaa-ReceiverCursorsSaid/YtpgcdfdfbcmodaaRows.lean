/-
  No cell of these rows narrows 'for every input' (looked for: loops, veiled, ifaces, maps, wideKeys, modest, calm, conditions, laid).
  DERIVED. THE GIVEN ROWS OF THIS SEAT. 7 by the template 'for every input the law returns true; each argument reads behind the call as it read before'; 0 by the template 'total and deterministic' (their statements: YtpgcdfdfbcmodaaTotals.lean).
  GIVEN WITH THE SEED: the statements are not yours to turn. If you find one false, say at which input.
  Laid BY PROGRAM, IN A SANDBOX (cutbox-rows.mjs): the forced cells as the released guide's own fill.sh prints them over the translation 5e3f3152fcecc4f3… (all of the seat's roots in one cut). By AI agents, Wed Nov 11 2026. No macro, syntax, notation, axiom, sorry.
-/
import Derived.Test.YtpgcdfdfbcmodaaChecked
import GoSem.Claim
import GoSem.ClaimJoined
import GoSem.ClaimMapViews
import Derived.JoinedTies
import Derived.KernelRfl
namespace Go.Proofs.Ytpgcdfdfbcmodaa
/- THE CELL 'sum', in the pinned program and in every row, IS THE sha256 OF THE DUMP (.gsa) THAT YtpgcdfdfbcmodaaProg.lean LOADS. Nothing in Lean hashes anything: it is a label: what it is worth is what the hold of that sum in a sandbox is worth. -/
noncomputable def Try.pinned : Pinned := { name := "ytpgcdfdfbcmodaa", sum := "5e3f3152fcecc4f320f88a828489ede2953ed22373632759c33a0626cb8f985a", checked := Try.checked }
namespace Rows
def none {H : Type} : Left H := { results := [], args := [] }

/-- 'signpostlaw14.ReceiverCursors': WHATEVER THE INPUT: true; the input reads as it did. -/
def receiverCursorsSpec : ChangeSpec := { name := "receiverCursors", fn := fun _ => fun
  | [d] => { results := [.lit (.bool true)], args := [d] }
  | _ => none }
def receiverCursorsRow : OpenClaim := { program := "ytpgcdfdfbcmodaa", sum := "5e3f3152fcecc4f320f88a828489ede2953ed22373632759c33a0626cb8f985a", func := "signpost/signpostlaw14.ReceiverCursors", spec := "receiverCursors", inPlace := ["internal/abi.NoEscape", "internal/bytealg.MakeNoZero"], apart := false }
def ReceiverCursorsSaid : Prop := receiverCursorsRow.holds Try.pinned (OpenSpec.ofChange receiverCursorsSpec)

/-- ITS FALSE NEIGHBOUR: 'it returns false'. Refute it at one input. -/
def receiverCursorsWrong : ChangeSpec := { name := "receiverCursors", fn := fun _ => fun
  | [d] => { results := [.lit (.bool false)], args := [d] }
  | _ => none }
def ReceiverCursorsWrongFalsely : Prop := receiverCursorsRow.holds Try.pinned (OpenSpec.ofChange receiverCursorsWrong)

/-- 'signpostlaw14.ReceiverDrops': WHATEVER THE INPUT: true; the input reads as it did. -/
def receiverDropsSpec : ChangeSpec := { name := "receiverDrops", fn := fun _ => fun
  | [d] => { results := [.lit (.bool true)], args := [d] }
  | _ => none }
def receiverDropsRow : OpenClaim := { program := "ytpgcdfdfbcmodaa", sum := "5e3f3152fcecc4f320f88a828489ede2953ed22373632759c33a0626cb8f985a", func := "signpost/signpostlaw14.ReceiverDrops", spec := "receiverDrops", inPlace := ["internal/abi.NoEscape", "internal/bytealg.MakeNoZero"], apart := false }
def ReceiverDropsSaid : Prop := receiverDropsRow.holds Try.pinned (OpenSpec.ofChange receiverDropsSpec)

/-- ITS FALSE NEIGHBOUR: 'it returns false'. Refute it at one input. -/
def receiverDropsWrong : ChangeSpec := { name := "receiverDrops", fn := fun _ => fun
  | [d] => { results := [.lit (.bool false)], args := [d] }
  | _ => none }
def ReceiverDropsWrongFalsely : Prop := receiverDropsRow.holds Try.pinned (OpenSpec.ofChange receiverDropsWrong)

/-- 'signpostlaw14.ReceiverOwn': WHATEVER THE INPUT: true; the input reads as it did. -/
def receiverOwnSpec : ChangeSpec := { name := "receiverOwn", fn := fun _ => fun
  | [d1, d2] => { results := [.lit (.bool true)], args := [d1, d2] }
  | _ => none }
def receiverOwnRow : OpenClaim := { program := "ytpgcdfdfbcmodaa", sum := "5e3f3152fcecc4f320f88a828489ede2953ed22373632759c33a0626cb8f985a", func := "signpost/signpostlaw14.ReceiverOwn", spec := "receiverOwn", inPlace := ["internal/abi.NoEscape", "internal/bytealg.MakeNoZero"], apart := false }
def ReceiverOwnSaid : Prop := receiverOwnRow.holds Try.pinned (OpenSpec.ofChange receiverOwnSpec)

/-- ITS FALSE NEIGHBOUR: 'it returns false'. Refute it at one input. -/
def receiverOwnWrong : ChangeSpec := { name := "receiverOwn", fn := fun _ => fun
  | [d1, d2] => { results := [.lit (.bool false)], args := [d1, d2] }
  | _ => none }
def ReceiverOwnWrongFalsely : Prop := receiverOwnRow.holds Try.pinned (OpenSpec.ofChange receiverOwnWrong)

/-- 'signpostlaw14.ReceiverNil': WHATEVER THE INPUT: true; the input reads as it did. -/
def receiverNilSpec : ChangeSpec := { name := "receiverNil", fn := fun _ => fun
  | [d] => { results := [.lit (.bool true)], args := [d] }
  | _ => none }
def receiverNilRow : OpenClaim := { program := "ytpgcdfdfbcmodaa", sum := "5e3f3152fcecc4f320f88a828489ede2953ed22373632759c33a0626cb8f985a", func := "signpost/signpostlaw14.ReceiverNil", spec := "receiverNil", inPlace := ["internal/abi.NoEscape", "internal/bytealg.MakeNoZero"], apart := false }
def ReceiverNilSaid : Prop := receiverNilRow.holds Try.pinned (OpenSpec.ofChange receiverNilSpec)

/-- ITS FALSE NEIGHBOUR: 'it returns false'. Refute it at one input. -/
def receiverNilWrong : ChangeSpec := { name := "receiverNil", fn := fun _ => fun
  | [d] => { results := [.lit (.bool false)], args := [d] }
  | _ => none }
def ReceiverNilWrongFalsely : Prop := receiverNilRow.holds Try.pinned (OpenSpec.ofChange receiverNilWrong)

/-- 'signpostlaw14.ReceiverPlays': WHATEVER THE INPUT: true; the input reads as it did. -/
def receiverPlaysSpec : ChangeSpec := { name := "receiverPlays", fn := fun _ => fun
  | [d1, d2, d3, d4] => { results := [.lit (.bool true)], args := [d1, d2, d3, d4] }
  | _ => none }
def receiverPlaysRow : OpenClaim := { program := "ytpgcdfdfbcmodaa", sum := "5e3f3152fcecc4f320f88a828489ede2953ed22373632759c33a0626cb8f985a", func := "signpost/signpostlaw14.ReceiverPlays", spec := "receiverPlays", inPlace := ["internal/abi.NoEscape", "internal/bytealg.MakeNoZero"], recurses := true, apart := false }
def ReceiverPlaysSaid : Prop := receiverPlaysRow.holds Try.pinned (OpenSpec.ofChange receiverPlaysSpec)

/-- ITS FALSE NEIGHBOUR: 'it returns false'. Refute it at one input. -/
def receiverPlaysWrong : ChangeSpec := { name := "receiverPlays", fn := fun _ => fun
  | [d1, d2, d3, d4] => { results := [.lit (.bool false)], args := [d1, d2, d3, d4] }
  | _ => none }
def ReceiverPlaysWrongFalsely : Prop := receiverPlaysRow.holds Try.pinned (OpenSpec.ofChange receiverPlaysWrong)

/-- 'signpostlaw14.ReceiverResumes': WHATEVER THE INPUT: true; the input reads as it did. -/
def receiverResumesSpec : ChangeSpec := { name := "receiverResumes", fn := fun _ => fun
  | [d1, d2, d3] => { results := [.lit (.bool true)], args := [d1, d2, d3] }
  | _ => none }
def receiverResumesRow : OpenClaim := { program := "ytpgcdfdfbcmodaa", sum := "5e3f3152fcecc4f320f88a828489ede2953ed22373632759c33a0626cb8f985a", func := "signpost/signpostlaw14.ReceiverResumes", spec := "receiverResumes", inPlace := ["internal/abi.NoEscape", "internal/bytealg.MakeNoZero"], apart := false }
def ReceiverResumesSaid : Prop := receiverResumesRow.holds Try.pinned (OpenSpec.ofChange receiverResumesSpec)

/-- ITS FALSE NEIGHBOUR: 'it returns false'. Refute it at one input. -/
def receiverResumesWrong : ChangeSpec := { name := "receiverResumes", fn := fun _ => fun
  | [d1, d2, d3] => { results := [.lit (.bool false)], args := [d1, d2, d3] }
  | _ => none }
def ReceiverResumesWrongFalsely : Prop := receiverResumesRow.holds Try.pinned (OpenSpec.ofChange receiverResumesWrong)

/-- 'signpostlaw14.ReceiverOrder': WHATEVER THE INPUT: true; the input reads as it did. -/
def receiverOrderSpec : ChangeSpec := { name := "receiverOrder", fn := fun _ => fun
  | [d1, d2] => { results := [.lit (.bool true)], args := [d1, d2] }
  | _ => none }
def receiverOrderRow : OpenClaim := { program := "ytpgcdfdfbcmodaa", sum := "5e3f3152fcecc4f320f88a828489ede2953ed22373632759c33a0626cb8f985a", func := "signpost/signpostlaw14.ReceiverOrder", spec := "receiverOrder", inPlace := ["internal/abi.NoEscape", "internal/bytealg.MakeNoZero"], unfollowed := true, recurses := true, apart := false }
def ReceiverOrderSaid : Prop := receiverOrderRow.holds Try.pinned (OpenSpec.ofChange receiverOrderSpec)

/-- ITS FALSE NEIGHBOUR: 'it returns false'. Refute it at one input. -/
def receiverOrderWrong : ChangeSpec := { name := "receiverOrder", fn := fun _ => fun
  | [d1, d2] => { results := [.lit (.bool false)], args := [d1, d2] }
  | _ => none }
def ReceiverOrderWrongFalsely : Prop := receiverOrderRow.holds Try.pinned (OpenSpec.ofChange receiverOrderWrong)

/- THE SECOND FORM. 'bulk': how many values and letters a reading holds, each counted each time it is reached (what is shared counts as often as it is met; a slice's spare places count too). A statement '..UptoSaid' is the law's where the arguments, and the package variables that the reading takes, are together of bulk at most 1048576: NARROWER than '..Said'. Prove '..Said' where nothing that the law and all that it calls make is longer than what came in: it says more and counts as full. Else prove '..UptoSaid'. A law counts once. -/
mutual
def uptoBulk {H : Type} : DataW H → Nat
  | .lit (.string bytes) => bytes.length + 1
  | .lit _ => 1
  | .nil => 1
  | .ptr d => uptoBulk d + 1
  | .slice elems spare => uptoBulkAll elems + uptoBulkAll spare + 1
  | .agg parts => uptoBulkAll parts + 1
  | .iface _ d => uptoBulk d + 1
  | .map entries => uptoBulkEntries entries + 1
  | .held _ => 1
def uptoBulkAll {H : Type} : List (DataW H) → Nat
  | [] => 0
  | d :: r => uptoBulk d + uptoBulkAll r
def uptoBulkEntries {H : Type} : List (Lit × DataW H) → Nat
  | [] => 0
  | x :: r => uptoBulkEntry x + uptoBulkEntries r
def uptoBulkEntry {H : Type} : Lit × DataW H → Nat
  | (.string bytes, d) => bytes.length + uptoBulk d + 1
  | (_, d) => uptoBulk d + 1
 end
def uptoSmall : (H : Type) → List (DataW H) → Bool := fun _ ds => decide (uptoBulkAll ds ≤ 1048576)
def OpenSpec.upto (s : _root_.Go.ChangeSpec) : _root_.Go.OpenSpec := { _root_.Go.OpenSpec.ofChange s with cond := some uptoSmall }

/-- 'signpostlaw14.ReceiverCursors', WHERE WHAT IT READS IS OF BULK AT MOST 1048576: true; the input reads as it did. -/
def receiverCursorsUptoRow : OpenClaim := { program := "ytpgcdfdfbcmodaa", sum := "5e3f3152fcecc4f320f88a828489ede2953ed22373632759c33a0626cb8f985a", func := "signpost/signpostlaw14.ReceiverCursors", spec := "receiverCursors", inPlace := ["internal/abi.NoEscape", "internal/bytealg.MakeNoZero"], apart := false, narrowed := true }
def ReceiverCursorsUptoSaid : Prop := receiverCursorsUptoRow.holds Try.pinned (OpenSpec.upto receiverCursorsSpec)

/-- 'signpostlaw14.ReceiverDrops', WHERE WHAT IT READS IS OF BULK AT MOST 1048576: true; the input reads as it did. -/
def receiverDropsUptoRow : OpenClaim := { program := "ytpgcdfdfbcmodaa", sum := "5e3f3152fcecc4f320f88a828489ede2953ed22373632759c33a0626cb8f985a", func := "signpost/signpostlaw14.ReceiverDrops", spec := "receiverDrops", inPlace := ["internal/abi.NoEscape", "internal/bytealg.MakeNoZero"], apart := false, narrowed := true }
def ReceiverDropsUptoSaid : Prop := receiverDropsUptoRow.holds Try.pinned (OpenSpec.upto receiverDropsSpec)

/-- 'signpostlaw14.ReceiverOwn', WHERE WHAT IT READS IS OF BULK AT MOST 1048576: true; the input reads as it did. -/
def receiverOwnUptoRow : OpenClaim := { program := "ytpgcdfdfbcmodaa", sum := "5e3f3152fcecc4f320f88a828489ede2953ed22373632759c33a0626cb8f985a", func := "signpost/signpostlaw14.ReceiverOwn", spec := "receiverOwn", inPlace := ["internal/abi.NoEscape", "internal/bytealg.MakeNoZero"], apart := false, narrowed := true }
def ReceiverOwnUptoSaid : Prop := receiverOwnUptoRow.holds Try.pinned (OpenSpec.upto receiverOwnSpec)

/-- 'signpostlaw14.ReceiverNil', WHERE WHAT IT READS IS OF BULK AT MOST 1048576: true; the input reads as it did. -/
def receiverNilUptoRow : OpenClaim := { program := "ytpgcdfdfbcmodaa", sum := "5e3f3152fcecc4f320f88a828489ede2953ed22373632759c33a0626cb8f985a", func := "signpost/signpostlaw14.ReceiverNil", spec := "receiverNil", inPlace := ["internal/abi.NoEscape", "internal/bytealg.MakeNoZero"], apart := false, narrowed := true }
def ReceiverNilUptoSaid : Prop := receiverNilUptoRow.holds Try.pinned (OpenSpec.upto receiverNilSpec)

/-- 'signpostlaw14.ReceiverPlays', WHERE WHAT IT READS IS OF BULK AT MOST 1048576: true; the input reads as it did. -/
def receiverPlaysUptoRow : OpenClaim := { program := "ytpgcdfdfbcmodaa", sum := "5e3f3152fcecc4f320f88a828489ede2953ed22373632759c33a0626cb8f985a", func := "signpost/signpostlaw14.ReceiverPlays", spec := "receiverPlays", inPlace := ["internal/abi.NoEscape", "internal/bytealg.MakeNoZero"], recurses := true, apart := false, narrowed := true }
def ReceiverPlaysUptoSaid : Prop := receiverPlaysUptoRow.holds Try.pinned (OpenSpec.upto receiverPlaysSpec)

/-- 'signpostlaw14.ReceiverResumes', WHERE WHAT IT READS IS OF BULK AT MOST 1048576: true; the input reads as it did. -/
def receiverResumesUptoRow : OpenClaim := { program := "ytpgcdfdfbcmodaa", sum := "5e3f3152fcecc4f320f88a828489ede2953ed22373632759c33a0626cb8f985a", func := "signpost/signpostlaw14.ReceiverResumes", spec := "receiverResumes", inPlace := ["internal/abi.NoEscape", "internal/bytealg.MakeNoZero"], apart := false, narrowed := true }
def ReceiverResumesUptoSaid : Prop := receiverResumesUptoRow.holds Try.pinned (OpenSpec.upto receiverResumesSpec)

/-- 'signpostlaw14.ReceiverOrder', WHERE WHAT IT READS IS OF BULK AT MOST 1048576: true; the input reads as it did. -/
def receiverOrderUptoRow : OpenClaim := { program := "ytpgcdfdfbcmodaa", sum := "5e3f3152fcecc4f320f88a828489ede2953ed22373632759c33a0626cb8f985a", func := "signpost/signpostlaw14.ReceiverOrder", spec := "receiverOrder", inPlace := ["internal/abi.NoEscape", "internal/bytealg.MakeNoZero"], unfollowed := true, recurses := true, apart := false, narrowed := true }
def ReceiverOrderUptoSaid : Prop := receiverOrderUptoRow.holds Try.pinned (OpenSpec.upto receiverOrderSpec)

end Rows
end Go.Proofs.Ytpgcdfdfbcmodaa
