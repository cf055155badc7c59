/-
  DERIVED. GIVEN WITH THE SEED: THE CARDS: each row of YtmemmonmlbfopaaGreatDoorRows.lean that lists a variable, with what it lists TIED to the program's text (the seventh form; the later family's looks); each row that meets fmt, with fmt's text TOLD by the authors' own Lean function (tested against real Go, not proved from fmt's source: count such statements apart). THE CARD IS WHAT COUNTS. Prove the row's statement (the work); the ties are given (YtmemmonmlbfopaaGreatDoorTie.lean); close each card by the builder's one call (the guide's Derived/Test/ToyasCard.lean, 'card_holds'). Laid BY PROGRAM, IN A SANDBOX (cutbox-door.mjs). By AI agents, Wed Nov 11 2026. No macro, syntax, notation, axiom, sorry.
-/
import Derived.Test.YtmemmonmlbfopaaGreatDoorRows
import GoSem.ClaimSeven
namespace Go.Proofs.YtmemmonmlbfopaaGreatDoor
namespace Rows

/-- THE TIED CARD OF 'vitrinelaw26.SnapFinds'. -/
def snapFindsCard : Claim7 := { stood := { row := snapFindsRow, standIns := [], harness := (true, "9a10ddabc6ce671e87b45a5590a52c006202c44ea77fe2e0bc9957623f67401b"), looks := false }, kinds := [], alts := [], laidByText := true, laidKinds := [.data, .pinned], laidTests := true, laidLooks := .later }
def SnapFindsCardSaid : Prop := Claim7.holds Tryz.pinned (.plain (OpenSpec.ofChange snapFindsSpec)) snapFindsCard

/-- THE TIED CARD OF 'vitrinelaw26.SnapDiffs'. -/
def snapDiffsCard : Claim7 := { stood := { row := snapDiffsRow, standIns := [], harness := (true, "9a10ddabc6ce671e87b45a5590a52c006202c44ea77fe2e0bc9957623f67401b"), looks := false }, kinds := [], alts := [], laidByText := true, laidKinds := [.data, .pinned], laidTests := true, laidLooks := .later }
def SnapDiffsCardSaid : Prop := Claim7.holds Tryz.pinned (.plain (OpenSpec.ofChange snapDiffsSpec)) snapDiffsCard

/-- THE TIED CARD OF 'vitrinelaw17.WriteJoins'. -/
def writeJoinsCard : Claim7 := { stood := { row := writeJoinsRow, standIns := [], harness := (true, "9a10ddabc6ce671e87b45a5590a52c006202c44ea77fe2e0bc9957623f67401b"), looks := false }, kinds := [], alts := [], laidByText := true, laidKinds := [.data], laidTests := true, laidLooks := .later }
def WriteJoinsCardSaid : Prop := Claim7.holds Tryz.pinned (.plain (OpenSpec.ofChange writeJoinsSpec)) writeJoinsCard

/-- THE TIED CARD OF 'vitrinelaw26.SnapLines'. -/
def snapLinesCard : Claim7 := { stood := { row := snapLinesRow, standIns := [], harness := (true, "9a10ddabc6ce671e87b45a5590a52c006202c44ea77fe2e0bc9957623f67401b"), looks := false }, kinds := [], alts := [], laidByText := true, laidKinds := [.data, .pinned], laidTests := true, laidLooks := .later }
def SnapLinesCardSaid : Prop := Claim7.holds Tryz.pinned (.plain (OpenSpec.ofChange snapLinesSpec)) snapLinesCard

/-- THE TIED CARD OF 'vitrinelaw26.SnapFields'. -/
def snapFieldsCard : Claim7 := { stood := { row := snapFieldsRow, standIns := [], harness := (true, "9a10ddabc6ce671e87b45a5590a52c006202c44ea77fe2e0bc9957623f67401b"), looks := false }, kinds := [], alts := [], laidByText := true, laidKinds := [.data, .data, .data, .data, .pinned], laidTests := true, laidLooks := .later }
def SnapFieldsCardSaid : Prop := Claim7.holds Tryz.pinned (.plain (OpenSpec.ofChange snapFieldsSpec)) snapFieldsCard

/-- THE TIED CARD OF 'vitrinelaw26.SnapHidden'. -/
def snapHiddenCard : Claim7 := { stood := { row := snapHiddenRow, standIns := [], harness := (true, "9a10ddabc6ce671e87b45a5590a52c006202c44ea77fe2e0bc9957623f67401b"), looks := false }, kinds := [], alts := [], laidByText := true, laidKinds := [.data, .data, .data, .data, .pinned], laidTests := true, laidLooks := .later }
def SnapHiddenCardSaid : Prop := Claim7.holds Tryz.pinned (.plain (OpenSpec.ofChange snapHiddenSpec)) snapHiddenCard

/-- THE TIED CARD OF 'vitrinelaw26.SnapStatus'. -/
def snapStatusCard : Claim7 := { stood := { row := snapStatusRow, standIns := [], harness := (true, "9a10ddabc6ce671e87b45a5590a52c006202c44ea77fe2e0bc9957623f67401b"), looks := false }, kinds := [], alts := [], laidByText := true, laidKinds := [.data, .data, .data, .data, .data, .pinned], laidTests := true, laidLooks := .later }
def SnapStatusCardSaid : Prop := Claim7.holds Tryz.pinned (.plain (OpenSpec.ofChange snapStatusSpec)) snapStatusCard

/-- THE SECOND FORM's CARD OF 'vitrinelaw26.SnapFinds'. -/
def snapFindsUptoCard : Claim7 := { stood := { row := snapFindsUptoRow, standIns := [], harness := (true, "9a10ddabc6ce671e87b45a5590a52c006202c44ea77fe2e0bc9957623f67401b"), looks := false }, kinds := [], alts := [], laidByText := true, laidKinds := [.data, .pinned], laidTests := true, laidLooks := .later }
def SnapFindsUptoCardSaid : Prop := Claim7.holds Tryz.pinned (.plain (OpenSpec.upto snapFindsSpec)) snapFindsUptoCard

/-- THE SECOND FORM's CARD OF 'vitrinelaw26.SnapDiffs'. -/
def snapDiffsUptoCard : Claim7 := { stood := { row := snapDiffsUptoRow, standIns := [], harness := (true, "9a10ddabc6ce671e87b45a5590a52c006202c44ea77fe2e0bc9957623f67401b"), looks := false }, kinds := [], alts := [], laidByText := true, laidKinds := [.data, .pinned], laidTests := true, laidLooks := .later }
def SnapDiffsUptoCardSaid : Prop := Claim7.holds Tryz.pinned (.plain (OpenSpec.upto snapDiffsSpec)) snapDiffsUptoCard

/-- THE SECOND FORM's CARD OF 'vitrinelaw17.WriteJoins'. -/
def writeJoinsUptoCard : Claim7 := { stood := { row := writeJoinsUptoRow, standIns := [], harness := (true, "9a10ddabc6ce671e87b45a5590a52c006202c44ea77fe2e0bc9957623f67401b"), looks := false }, kinds := [], alts := [], laidByText := true, laidKinds := [.data], laidTests := true, laidLooks := .later }
def WriteJoinsUptoCardSaid : Prop := Claim7.holds Tryz.pinned (.plain (OpenSpec.upto writeJoinsSpec)) writeJoinsUptoCard

/-- THE SECOND FORM's CARD OF 'vitrinelaw26.SnapLines'. -/
def snapLinesUptoCard : Claim7 := { stood := { row := snapLinesUptoRow, standIns := [], harness := (true, "9a10ddabc6ce671e87b45a5590a52c006202c44ea77fe2e0bc9957623f67401b"), looks := false }, kinds := [], alts := [], laidByText := true, laidKinds := [.data, .pinned], laidTests := true, laidLooks := .later }
def SnapLinesUptoCardSaid : Prop := Claim7.holds Tryz.pinned (.plain (OpenSpec.upto snapLinesSpec)) snapLinesUptoCard

/-- THE SECOND FORM's CARD OF 'vitrinelaw26.SnapFields'. -/
def snapFieldsUptoCard : Claim7 := { stood := { row := snapFieldsUptoRow, standIns := [], harness := (true, "9a10ddabc6ce671e87b45a5590a52c006202c44ea77fe2e0bc9957623f67401b"), looks := false }, kinds := [], alts := [], laidByText := true, laidKinds := [.data, .data, .data, .data, .pinned], laidTests := true, laidLooks := .later }
def SnapFieldsUptoCardSaid : Prop := Claim7.holds Tryz.pinned (.plain (OpenSpec.upto snapFieldsSpec)) snapFieldsUptoCard

/-- THE SECOND FORM's CARD OF 'vitrinelaw26.SnapHidden'. -/
def snapHiddenUptoCard : Claim7 := { stood := { row := snapHiddenUptoRow, standIns := [], harness := (true, "9a10ddabc6ce671e87b45a5590a52c006202c44ea77fe2e0bc9957623f67401b"), looks := false }, kinds := [], alts := [], laidByText := true, laidKinds := [.data, .data, .data, .data, .pinned], laidTests := true, laidLooks := .later }
def SnapHiddenUptoCardSaid : Prop := Claim7.holds Tryz.pinned (.plain (OpenSpec.upto snapHiddenSpec)) snapHiddenUptoCard

/-- THE SECOND FORM's CARD OF 'vitrinelaw26.SnapStatus'. -/
def snapStatusUptoCard : Claim7 := { stood := { row := snapStatusUptoRow, standIns := [], harness := (true, "9a10ddabc6ce671e87b45a5590a52c006202c44ea77fe2e0bc9957623f67401b"), looks := false }, kinds := [], alts := [], laidByText := true, laidKinds := [.data, .data, .data, .data, .data, .pinned], laidTests := true, laidLooks := .later }
def SnapStatusUptoCardSaid : Prop := Claim7.holds Tryz.pinned (.plain (OpenSpec.upto snapStatusSpec)) snapStatusUptoCard
end Rows
end Go.Proofs.YtmemmonmlbfopaaGreatDoor
