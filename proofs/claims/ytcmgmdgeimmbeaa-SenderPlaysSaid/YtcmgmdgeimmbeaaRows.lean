/-
  No cell of these rows narrows 'for every input' (looked for: loops, veiled, ifaces, maps, wideKeys, modest, calm, conditions, laid).
  DERIVED. THE GIVEN ROWS OF THIS SEAT. 6 by the template 'for every input the law returns true; each argument reads behind the call as it read before'; 0 by the template 'total and deterministic' (their statements: YtcmgmdgeimmbeaaTotals.lean).
  GIVEN WITH THE SEED: the statements are not yours to turn. If you find one false, say at which input.
  Laid BY PROGRAM, IN A SANDBOX (cutbox-rows.mjs): the forced cells as the released guide's own fill.sh prints them over the translation dbd041e3eeecb4d2… (all of the seat's roots in one cut). By AI agents, Wed Nov 11 2026. No macro, syntax, notation, axiom, sorry.
-/
import Derived.Test.YtcmgmdgeimmbeaaChecked
import GoSem.Claim
import GoSem.ClaimJoined
import GoSem.ClaimMapViews
import Derived.JoinedTies
import Derived.KernelRfl
namespace Go.Proofs.Ytcmgmdgeimmbeaa
/- THE CELL 'sum', in the pinned program and in every row, IS THE sha256 OF THE DUMP (.gsa) THAT YtcmgmdgeimmbeaaProg.lean LOADS. Nothing in Lean hashes anything: it is a label: what it is worth is what the hold of that sum in a sandbox is worth. -/
noncomputable def Try.pinned : Pinned := { name := "ytcmgmdgeimmbeaa", sum := "dbd041e3eeecb4d28bcbe5735d99b7220a8cf7091d3beaf6f26b67d127080a00", checked := Try.checked }
namespace Rows
def none {H : Type} : Left H := { results := [], args := [] }

/-- 'signpostlaw13.SenderAcks': WHATEVER THE INPUT: true; the input reads as it did. -/
def senderAcksSpec : ChangeSpec := { name := "senderAcks", fn := fun _ => fun
  | [d1, d2] => { results := [.lit (.bool true)], args := [d1, d2] }
  | _ => none }
def senderAcksRow : OpenClaim := { program := "ytcmgmdgeimmbeaa", sum := "dbd041e3eeecb4d28bcbe5735d99b7220a8cf7091d3beaf6f26b67d127080a00", func := "signpost/signpostlaw13.SenderAcks", spec := "senderAcks", unfollowed := true, recurses := true, apart := false }
def SenderAcksSaid : Prop := senderAcksRow.holds Try.pinned (OpenSpec.ofChange senderAcksSpec)

/-- ITS FALSE NEIGHBOUR: 'it returns false'. Refute it at one input. -/
def senderAcksWrong : ChangeSpec := { name := "senderAcks", fn := fun _ => fun
  | [d1, d2] => { results := [.lit (.bool false)], args := [d1, d2] }
  | _ => none }
def SenderAcksWrongFalsely : Prop := senderAcksRow.holds Try.pinned (OpenSpec.ofChange senderAcksWrong)

/-- 'signpostlaw13.SenderWhole': WHATEVER THE INPUT: true; the input reads as it did. -/
def senderWholeSpec : ChangeSpec := { name := "senderWhole", fn := fun _ => fun
  | [d] => { results := [.lit (.bool true)], args := [d] }
  | _ => none }
def senderWholeRow : OpenClaim := { program := "ytcmgmdgeimmbeaa", sum := "dbd041e3eeecb4d28bcbe5735d99b7220a8cf7091d3beaf6f26b67d127080a00", func := "signpost/signpostlaw13.SenderWhole", spec := "senderWhole", unfollowed := true, recurses := true, apart := false }
def SenderWholeSaid : Prop := senderWholeRow.holds Try.pinned (OpenSpec.ofChange senderWholeSpec)

/-- ITS FALSE NEIGHBOUR: 'it returns false'. Refute it at one input. -/
def senderWholeWrong : ChangeSpec := { name := "senderWhole", fn := fun _ => fun
  | [d] => { results := [.lit (.bool false)], args := [d] }
  | _ => none }
def SenderWholeWrongFalsely : Prop := senderWholeRow.holds Try.pinned (OpenSpec.ofChange senderWholeWrong)

/-- 'signpostlaw13.SenderWindow': WHATEVER THE INPUT: true; the input reads as it did. -/
def senderWindowSpec : ChangeSpec := { name := "senderWindow", fn := fun _ => fun
  | [d1, d2] => { results := [.lit (.bool true)], args := [d1, d2] }
  | _ => none }
def senderWindowRow : OpenClaim := { program := "ytcmgmdgeimmbeaa", sum := "dbd041e3eeecb4d28bcbe5735d99b7220a8cf7091d3beaf6f26b67d127080a00", func := "signpost/signpostlaw13.SenderWindow", spec := "senderWindow", unfollowed := true, recurses := true, apart := false }
def SenderWindowSaid : Prop := senderWindowRow.holds Try.pinned (OpenSpec.ofChange senderWindowSpec)

/-- ITS FALSE NEIGHBOUR: 'it returns false'. Refute it at one input. -/
def senderWindowWrong : ChangeSpec := { name := "senderWindow", fn := fun _ => fun
  | [d1, d2] => { results := [.lit (.bool false)], args := [d1, d2] }
  | _ => none }
def SenderWindowWrongFalsely : Prop := senderWindowRow.holds Try.pinned (OpenSpec.ofChange senderWindowWrong)

/-- 'signpostlaw13.SenderLoses': WHATEVER THE INPUT: true; the input reads as it did. -/
def senderLosesSpec : ChangeSpec := { name := "senderLoses", fn := fun _ => fun
  | [d] => { results := [.lit (.bool true)], args := [d] }
  | _ => none }
def senderLosesRow : OpenClaim := { program := "ytcmgmdgeimmbeaa", sum := "dbd041e3eeecb4d28bcbe5735d99b7220a8cf7091d3beaf6f26b67d127080a00", func := "signpost/signpostlaw13.SenderLoses", spec := "senderLoses", unfollowed := true, recurses := true, apart := false }
def SenderLosesSaid : Prop := senderLosesRow.holds Try.pinned (OpenSpec.ofChange senderLosesSpec)

/-- ITS FALSE NEIGHBOUR: 'it returns false'. Refute it at one input. -/
def senderLosesWrong : ChangeSpec := { name := "senderLoses", fn := fun _ => fun
  | [d] => { results := [.lit (.bool false)], args := [d] }
  | _ => none }
def SenderLosesWrongFalsely : Prop := senderLosesRow.holds Try.pinned (OpenSpec.ofChange senderLosesWrong)

/-- 'signpostlaw13.SenderNil': WHATEVER THE INPUT: true; the input reads as it did. -/
def senderNilSpec : ChangeSpec := { name := "senderNil", fn := fun _ => fun
  | [d] => { results := [.lit (.bool true)], args := [d] }
  | _ => none }
def senderNilRow : OpenClaim := { program := "ytcmgmdgeimmbeaa", sum := "dbd041e3eeecb4d28bcbe5735d99b7220a8cf7091d3beaf6f26b67d127080a00", func := "signpost/signpostlaw13.SenderNil", spec := "senderNil", unfollowed := true, recurses := true, apart := false }
def SenderNilSaid : Prop := senderNilRow.holds Try.pinned (OpenSpec.ofChange senderNilSpec)

/-- ITS FALSE NEIGHBOUR: 'it returns false'. Refute it at one input. -/
def senderNilWrong : ChangeSpec := { name := "senderNil", fn := fun _ => fun
  | [d] => { results := [.lit (.bool false)], args := [d] }
  | _ => none }
def SenderNilWrongFalsely : Prop := senderNilRow.holds Try.pinned (OpenSpec.ofChange senderNilWrong)

/-- 'signpostlaw13.SenderPlays': WHATEVER THE INPUT: true; the input reads as it did. -/
def senderPlaysSpec : ChangeSpec := { name := "senderPlays", fn := fun _ => fun
  | [d1, d2, d3, d4] => { results := [.lit (.bool true)], args := [d1, d2, d3, d4] }
  | _ => none }
def senderPlaysRow : OpenClaim := { program := "ytcmgmdgeimmbeaa", sum := "dbd041e3eeecb4d28bcbe5735d99b7220a8cf7091d3beaf6f26b67d127080a00", func := "signpost/signpostlaw13.SenderPlays", spec := "senderPlays", unfollowed := true, recurses := true, apart := false }
def SenderPlaysSaid : Prop := senderPlaysRow.holds Try.pinned (OpenSpec.ofChange senderPlaysSpec)

/-- ITS FALSE NEIGHBOUR: 'it returns false'. Refute it at one input. -/
def senderPlaysWrong : ChangeSpec := { name := "senderPlays", fn := fun _ => fun
  | [d1, d2, d3, d4] => { results := [.lit (.bool false)], args := [d1, d2, d3, d4] }
  | _ => none }
def SenderPlaysWrongFalsely : Prop := senderPlaysRow.holds Try.pinned (OpenSpec.ofChange senderPlaysWrong)

/- THE SECOND FORM. 'bulk': how many values and letters a reading holds, each counted each time it is reached (what is shared counts as often as it is met; a slice's spare places count too). A statement '..UptoSaid' is the law's where the arguments, and the package variables that the reading takes, are together of bulk at most 1048576: NARROWER than '..Said'. Prove '..Said' where nothing that the law and all that it calls make is longer than what came in: it says more and counts as full. Else prove '..UptoSaid'. A law counts once. -/
mutual
def uptoBulk {H : Type} : DataW H → Nat
  | .lit (.string bytes) => bytes.length + 1
  | .lit _ => 1
  | .nil => 1
  | .ptr d => uptoBulk d + 1
  | .slice elems spare => uptoBulkAll elems + uptoBulkAll spare + 1
  | .agg parts => uptoBulkAll parts + 1
  | .iface _ d => uptoBulk d + 1
  | .map entries => uptoBulkEntries entries + 1
  | .held _ => 1
def uptoBulkAll {H : Type} : List (DataW H) → Nat
  | [] => 0
  | d :: r => uptoBulk d + uptoBulkAll r
def uptoBulkEntries {H : Type} : List (Lit × DataW H) → Nat
  | [] => 0
  | x :: r => uptoBulkEntry x + uptoBulkEntries r
def uptoBulkEntry {H : Type} : Lit × DataW H → Nat
  | (.string bytes, d) => bytes.length + uptoBulk d + 1
  | (_, d) => uptoBulk d + 1
 end
def uptoSmall : (H : Type) → List (DataW H) → Bool := fun _ ds => decide (uptoBulkAll ds ≤ 1048576)
def OpenSpec.upto (s : _root_.Go.ChangeSpec) : _root_.Go.OpenSpec := { _root_.Go.OpenSpec.ofChange s with cond := some uptoSmall }

/-- 'signpostlaw13.SenderAcks', WHERE WHAT IT READS IS OF BULK AT MOST 1048576: true; the input reads as it did. -/
def senderAcksUptoRow : OpenClaim := { program := "ytcmgmdgeimmbeaa", sum := "dbd041e3eeecb4d28bcbe5735d99b7220a8cf7091d3beaf6f26b67d127080a00", func := "signpost/signpostlaw13.SenderAcks", spec := "senderAcks", unfollowed := true, recurses := true, apart := false, narrowed := true }
def SenderAcksUptoSaid : Prop := senderAcksUptoRow.holds Try.pinned (OpenSpec.upto senderAcksSpec)

/-- 'signpostlaw13.SenderWhole', WHERE WHAT IT READS IS OF BULK AT MOST 1048576: true; the input reads as it did. -/
def senderWholeUptoRow : OpenClaim := { program := "ytcmgmdgeimmbeaa", sum := "dbd041e3eeecb4d28bcbe5735d99b7220a8cf7091d3beaf6f26b67d127080a00", func := "signpost/signpostlaw13.SenderWhole", spec := "senderWhole", unfollowed := true, recurses := true, apart := false, narrowed := true }
def SenderWholeUptoSaid : Prop := senderWholeUptoRow.holds Try.pinned (OpenSpec.upto senderWholeSpec)

/-- 'signpostlaw13.SenderWindow', WHERE WHAT IT READS IS OF BULK AT MOST 1048576: true; the input reads as it did. -/
def senderWindowUptoRow : OpenClaim := { program := "ytcmgmdgeimmbeaa", sum := "dbd041e3eeecb4d28bcbe5735d99b7220a8cf7091d3beaf6f26b67d127080a00", func := "signpost/signpostlaw13.SenderWindow", spec := "senderWindow", unfollowed := true, recurses := true, apart := false, narrowed := true }
def SenderWindowUptoSaid : Prop := senderWindowUptoRow.holds Try.pinned (OpenSpec.upto senderWindowSpec)

/-- 'signpostlaw13.SenderLoses', WHERE WHAT IT READS IS OF BULK AT MOST 1048576: true; the input reads as it did. -/
def senderLosesUptoRow : OpenClaim := { program := "ytcmgmdgeimmbeaa", sum := "dbd041e3eeecb4d28bcbe5735d99b7220a8cf7091d3beaf6f26b67d127080a00", func := "signpost/signpostlaw13.SenderLoses", spec := "senderLoses", unfollowed := true, recurses := true, apart := false, narrowed := true }
def SenderLosesUptoSaid : Prop := senderLosesUptoRow.holds Try.pinned (OpenSpec.upto senderLosesSpec)

/-- 'signpostlaw13.SenderNil', WHERE WHAT IT READS IS OF BULK AT MOST 1048576: true; the input reads as it did. -/
def senderNilUptoRow : OpenClaim := { program := "ytcmgmdgeimmbeaa", sum := "dbd041e3eeecb4d28bcbe5735d99b7220a8cf7091d3beaf6f26b67d127080a00", func := "signpost/signpostlaw13.SenderNil", spec := "senderNil", unfollowed := true, recurses := true, apart := false, narrowed := true }
def SenderNilUptoSaid : Prop := senderNilUptoRow.holds Try.pinned (OpenSpec.upto senderNilSpec)

/-- 'signpostlaw13.SenderPlays', WHERE WHAT IT READS IS OF BULK AT MOST 1048576: true; the input reads as it did. -/
def senderPlaysUptoRow : OpenClaim := { program := "ytcmgmdgeimmbeaa", sum := "dbd041e3eeecb4d28bcbe5735d99b7220a8cf7091d3beaf6f26b67d127080a00", func := "signpost/signpostlaw13.SenderPlays", spec := "senderPlays", unfollowed := true, recurses := true, apart := false, narrowed := true }
def SenderPlaysUptoSaid : Prop := senderPlaysUptoRow.holds Try.pinned (OpenSpec.upto senderPlaysSpec)

end Rows
end Go.Proofs.Ytcmgmdgeimmbeaa
