/-
  DERIVED. GIVEN WITH THE SEED: THE CARDS: each row of YtmccnmccegbdjaaDoorRows.lean that lists a variable, with what it lists TIED to the program's text (the seventh form; the later family's looks); each row that meets fmt, with fmt's text TOLD by the authors' own Lean function (tested against real Go, not proved from fmt's source: count such statements apart). THE CARD IS WHAT COUNTS. Prove the row's statement (the work); the ties are given (YtmccnmccegbdjaaDoorTie.lean); close each card by the builder's one call (the guide's Derived/Test/ToyasCard.lean, 'card_holds'). Laid BY PROGRAM, IN A SANDBOX (cutbox-door.mjs). By AI agents, Wed Nov 11 2026. No macro, syntax, notation, axiom, sorry.
-/
import Derived.Test.YtmccnmccegbdjaaDoorRows
import GoSem.ClaimSeven
namespace Go.Proofs.YtmccnmccegbdjaaDoor
namespace Rows

/-- THE TIED CARD OF 'signpostlaw03.PrefixReads'. -/
def prefixReadsCard : Claim7 := { stood := { row := prefixReadsRow, standIns := [], harness := (true, "c3b88ea733611297a182af5105bab54616944dad46d95524c0978dcbea37e3f7"), looks := false }, kinds := [], alts := [], laidByText := true, laidKinds := [.data, .data, .data], laidTests := true, laidLooks := .later }
def PrefixReadsCardSaid : Prop := Claim7.holds Tryd.pinned (.plain (OpenSpec.ofChange prefixReadsSpec)) prefixReadsCard

/-- THE TIED CARD OF 'signpostlaw03.PrefixBack'. -/
def prefixBackCard : Claim7 := { stood := { row := prefixBackRow, standIns := [], harness := (true, "c3b88ea733611297a182af5105bab54616944dad46d95524c0978dcbea37e3f7"), looks := false }, kinds := [], alts := [], laidByText := true, laidKinds := [.data, .data, .data], laidTests := true, laidLooks := .later }
def PrefixBackCardSaid : Prop := Claim7.holds Tryd.pinned (.plain (OpenSpec.ofChange prefixBackSpec)) prefixBackCard

/-- THE TIED CARD OF 'signpostlaw03.PrefixTells'. -/
def prefixTellsCard : Claim7 := { stood := { row := prefixTellsRow, standIns := [], harness := (true, "c3b88ea733611297a182af5105bab54616944dad46d95524c0978dcbea37e3f7"), looks := false }, kinds := [], alts := [], laidByText := true, laidKinds := [.data, .data, .data], laidTests := true, laidLooks := .later }
def PrefixTellsCardSaid : Prop := Claim7.holds Tryd.pinned (.plain (OpenSpec.ofChange prefixTellsSpec)) prefixTellsCard

/-- THE TIED CARD OF 'signpostlaw03.PrefixOrder'. -/
def prefixOrderCard : Claim7 := { stood := { row := prefixOrderRow, standIns := [], harness := (true, "c3b88ea733611297a182af5105bab54616944dad46d95524c0978dcbea37e3f7"), looks := false }, kinds := [], alts := [], laidByText := true, laidKinds := [.data, .data, .data], laidTests := true, laidLooks := .later }
def PrefixOrderCardSaid : Prop := Claim7.holds Tryd.pinned (.plain (OpenSpec.ofChange prefixOrderSpec)) prefixOrderCard

/-- THE TIED CARD OF 'signpostlaw03.PrefixMakes'. -/
def prefixMakesCard : Claim7 := { stood := { row := prefixMakesRow, standIns := [], harness := (true, "c3b88ea733611297a182af5105bab54616944dad46d95524c0978dcbea37e3f7"), looks := false }, kinds := [], alts := [], laidByText := true, laidKinds := [.data, .data, .data], laidTests := true, laidLooks := .later }
def PrefixMakesCardSaid : Prop := Claim7.holds Tryd.pinned (.plain (OpenSpec.ofChange prefixMakesSpec)) prefixMakesCard

/-- THE TIED CARD OF 'signpostlaw03.PrefixKinds'. -/
def prefixKindsCard : Claim7 := { stood := { row := prefixKindsRow, standIns := [], harness := (true, "c3b88ea733611297a182af5105bab54616944dad46d95524c0978dcbea37e3f7"), looks := false }, kinds := [], alts := [], laidByText := true, laidKinds := [.data, .data, .data], laidTests := true, laidLooks := .later }
def PrefixKindsCardSaid : Prop := Claim7.holds Tryd.pinned (.plain (OpenSpec.ofChange prefixKindsSpec)) prefixKindsCard

/-- THE SECOND FORM's CARD OF 'signpostlaw03.PrefixReads'. -/
def prefixReadsUptoCard : Claim7 := { stood := { row := prefixReadsUptoRow, standIns := [], harness := (true, "c3b88ea733611297a182af5105bab54616944dad46d95524c0978dcbea37e3f7"), looks := false }, kinds := [], alts := [], laidByText := true, laidKinds := [.data, .data, .data], laidTests := true, laidLooks := .later }
def PrefixReadsUptoCardSaid : Prop := Claim7.holds Tryd.pinned (.plain (OpenSpec.upto prefixReadsSpec)) prefixReadsUptoCard

/-- THE SECOND FORM's CARD OF 'signpostlaw03.PrefixBack'. -/
def prefixBackUptoCard : Claim7 := { stood := { row := prefixBackUptoRow, standIns := [], harness := (true, "c3b88ea733611297a182af5105bab54616944dad46d95524c0978dcbea37e3f7"), looks := false }, kinds := [], alts := [], laidByText := true, laidKinds := [.data, .data, .data], laidTests := true, laidLooks := .later }
def PrefixBackUptoCardSaid : Prop := Claim7.holds Tryd.pinned (.plain (OpenSpec.upto prefixBackSpec)) prefixBackUptoCard

/-- THE SECOND FORM's CARD OF 'signpostlaw03.PrefixTells'. -/
def prefixTellsUptoCard : Claim7 := { stood := { row := prefixTellsUptoRow, standIns := [], harness := (true, "c3b88ea733611297a182af5105bab54616944dad46d95524c0978dcbea37e3f7"), looks := false }, kinds := [], alts := [], laidByText := true, laidKinds := [.data, .data, .data], laidTests := true, laidLooks := .later }
def PrefixTellsUptoCardSaid : Prop := Claim7.holds Tryd.pinned (.plain (OpenSpec.upto prefixTellsSpec)) prefixTellsUptoCard

/-- THE SECOND FORM's CARD OF 'signpostlaw03.PrefixOrder'. -/
def prefixOrderUptoCard : Claim7 := { stood := { row := prefixOrderUptoRow, standIns := [], harness := (true, "c3b88ea733611297a182af5105bab54616944dad46d95524c0978dcbea37e3f7"), looks := false }, kinds := [], alts := [], laidByText := true, laidKinds := [.data, .data, .data], laidTests := true, laidLooks := .later }
def PrefixOrderUptoCardSaid : Prop := Claim7.holds Tryd.pinned (.plain (OpenSpec.upto prefixOrderSpec)) prefixOrderUptoCard

/-- THE SECOND FORM's CARD OF 'signpostlaw03.PrefixMakes'. -/
def prefixMakesUptoCard : Claim7 := { stood := { row := prefixMakesUptoRow, standIns := [], harness := (true, "c3b88ea733611297a182af5105bab54616944dad46d95524c0978dcbea37e3f7"), looks := false }, kinds := [], alts := [], laidByText := true, laidKinds := [.data, .data, .data], laidTests := true, laidLooks := .later }
def PrefixMakesUptoCardSaid : Prop := Claim7.holds Tryd.pinned (.plain (OpenSpec.upto prefixMakesSpec)) prefixMakesUptoCard

/-- THE SECOND FORM's CARD OF 'signpostlaw03.PrefixKinds'. -/
def prefixKindsUptoCard : Claim7 := { stood := { row := prefixKindsUptoRow, standIns := [], harness := (true, "c3b88ea733611297a182af5105bab54616944dad46d95524c0978dcbea37e3f7"), looks := false }, kinds := [], alts := [], laidByText := true, laidKinds := [.data, .data, .data], laidTests := true, laidLooks := .later }
def PrefixKindsUptoCardSaid : Prop := Claim7.holds Tryd.pinned (.plain (OpenSpec.upto prefixKindsSpec)) prefixKindsUptoCard
end Rows
end Go.Proofs.YtmccnmccegbdjaaDoor
