/-
  DERIVED. GIVEN WITH THE SEED: THE CARDS: each row of YtdmkjchmcgjjmaaDoorRows.lean that lists a variable, with what it lists TIED to the program's text (the seventh form; the later family's looks); each row that meets fmt, with fmt's text TOLD by the authors' own Lean function (tested against real Go, not proved from fmt's source: count such statements apart). THE CARD IS WHAT COUNTS. Prove the row's statement (the work); the ties are given (YtdmkjchmcgjjmaaDoorTie.lean); close each card by the builder's one call (the guide's Derived/Test/ToyasCard.lean, 'card_holds'). Laid BY PROGRAM, IN A SANDBOX (cutbox-door.mjs). By AI agents, Wed Nov 11 2026. No macro, syntax, notation, axiom, sorry.
-/
import Derived.Test.YtdmkjchmcgjjmaaDoorRows
import GoSem.ClaimSeven
namespace Go.Proofs.YtdmkjchmcgjjmaaDoor
namespace Rows

/-- THE TIED CARD OF 'viramalaw03.FieldLines'. -/
def fieldLinesCard : Claim7 := { stood := { row := fieldLinesRow, standIns := [], harness := (true, "43e2281452c70b837a4541654caf1f22946bade0866a47c72cd31f3040b3f261"), looks := true }, kinds := [], alts := [], laidByText := true, laidKinds := [.data, .handle, .pinned], laidTests := true, laidLooks := .later }
def FieldLinesCardSaid : Prop := Claim7.holds Tryd.pinned (.plain (OpenSpec.ofChange fieldLinesSpec)) fieldLinesCard

/-- THE TIED CARD OF 'viramalaw03.FieldCodes'. -/
def fieldCodesCard : Claim7 := { stood := { row := fieldCodesRow, standIns := [], harness := (true, "43e2281452c70b837a4541654caf1f22946bade0866a47c72cd31f3040b3f261"), looks := true }, kinds := [], alts := [], laidByText := true, laidKinds := [.data, .handle, .pinned], laidTests := true, laidLooks := .later }
def FieldCodesCardSaid : Prop := Claim7.holds Tryd.pinned (.plain (OpenSpec.ofChange fieldCodesSpec)) fieldCodesCard

/-- THE TIED CARD OF 'viramalaw03.FieldCase'. -/
def fieldCaseCard : Claim7 := { stood := { row := fieldCaseRow, standIns := [], harness := (true, "43e2281452c70b837a4541654caf1f22946bade0866a47c72cd31f3040b3f261"), looks := true }, kinds := [], alts := [], laidByText := true, laidKinds := [.data, .handle, .pinned], laidTests := true, laidLooks := .later }
def FieldCaseCardSaid : Prop := Claim7.holds Tryd.pinned (.plain (OpenSpec.ofChange fieldCaseSpec)) fieldCaseCard

/-- THE TIED CARD OF 'viramalaw03.FieldPrints'. -/
def fieldPrintsCard : Claim7 := { stood := { row := fieldPrintsRow, standIns := [], harness := (true, "43e2281452c70b837a4541654caf1f22946bade0866a47c72cd31f3040b3f261"), looks := true }, kinds := [], alts := [], laidByText := true, laidKinds := [.data, .handle, .pinned], laidTests := true, laidLooks := .later }
def FieldPrintsCardSaid : Prop := Claim7.holds Tryd.pinned (.plain (OpenSpec.ofChange fieldPrintsSpec)) fieldPrintsCard

/-- THE TIED CARD OF 'viramalaw03.FieldBack'. -/
def fieldBackCard : Claim7 := { stood := { row := fieldBackRow, standIns := [], harness := (true, "43e2281452c70b837a4541654caf1f22946bade0866a47c72cd31f3040b3f261"), looks := true }, kinds := [], alts := [], laidByText := true, laidKinds := [.data, .handle, .pinned], laidTests := true, laidLooks := .later }
def FieldBackCardSaid : Prop := Claim7.holds Tryd.pinned (.plain (OpenSpec.ofChange fieldBackSpec)) fieldBackCard

/-- THE TIED CARD OF 'viramalaw03.FieldJoins'. -/
def fieldJoinsCard : Claim7 := { stood := { row := fieldJoinsRow, standIns := [], harness := (true, "43e2281452c70b837a4541654caf1f22946bade0866a47c72cd31f3040b3f261"), looks := true }, kinds := [], alts := [], laidByText := true, laidKinds := [.data, .handle, .pinned], laidTests := true, laidLooks := .later }
def FieldJoinsCardSaid : Prop := Claim7.holds Tryd.pinned (.plain (OpenSpec.ofChange fieldJoinsSpec)) fieldJoinsCard

/-- THE TIED CARD OF 'viramalaw03.FieldRemarks'. -/
def fieldRemarksCard : Claim7 := { stood := { row := fieldRemarksRow, standIns := [], harness := (true, "43e2281452c70b837a4541654caf1f22946bade0866a47c72cd31f3040b3f261"), looks := true }, kinds := [], alts := [], laidByText := true, laidKinds := [.data, .handle, .pinned], laidTests := true, laidLooks := .later }
def FieldRemarksCardSaid : Prop := Claim7.holds Tryd.pinned (.plain (OpenSpec.ofChange fieldRemarksSpec)) fieldRemarksCard

/-- THE SECOND FORM's CARD OF 'viramalaw03.FieldLines'. -/
def fieldLinesUptoCard : Claim7 := { stood := { row := fieldLinesUptoRow, standIns := [], harness := (true, "43e2281452c70b837a4541654caf1f22946bade0866a47c72cd31f3040b3f261"), looks := true }, kinds := [], alts := [], laidByText := true, laidKinds := [.data, .handle, .pinned], laidTests := true, laidLooks := .later }
def FieldLinesUptoCardSaid : Prop := Claim7.holds Tryd.pinned (.plain (OpenSpec.upto fieldLinesSpec)) fieldLinesUptoCard

/-- THE SECOND FORM's CARD OF 'viramalaw03.FieldCodes'. -/
def fieldCodesUptoCard : Claim7 := { stood := { row := fieldCodesUptoRow, standIns := [], harness := (true, "43e2281452c70b837a4541654caf1f22946bade0866a47c72cd31f3040b3f261"), looks := true }, kinds := [], alts := [], laidByText := true, laidKinds := [.data, .handle, .pinned], laidTests := true, laidLooks := .later }
def FieldCodesUptoCardSaid : Prop := Claim7.holds Tryd.pinned (.plain (OpenSpec.upto fieldCodesSpec)) fieldCodesUptoCard

/-- THE SECOND FORM's CARD OF 'viramalaw03.FieldCase'. -/
def fieldCaseUptoCard : Claim7 := { stood := { row := fieldCaseUptoRow, standIns := [], harness := (true, "43e2281452c70b837a4541654caf1f22946bade0866a47c72cd31f3040b3f261"), looks := true }, kinds := [], alts := [], laidByText := true, laidKinds := [.data, .handle, .pinned], laidTests := true, laidLooks := .later }
def FieldCaseUptoCardSaid : Prop := Claim7.holds Tryd.pinned (.plain (OpenSpec.upto fieldCaseSpec)) fieldCaseUptoCard

/-- THE SECOND FORM's CARD OF 'viramalaw03.FieldPrints'. -/
def fieldPrintsUptoCard : Claim7 := { stood := { row := fieldPrintsUptoRow, standIns := [], harness := (true, "43e2281452c70b837a4541654caf1f22946bade0866a47c72cd31f3040b3f261"), looks := true }, kinds := [], alts := [], laidByText := true, laidKinds := [.data, .handle, .pinned], laidTests := true, laidLooks := .later }
def FieldPrintsUptoCardSaid : Prop := Claim7.holds Tryd.pinned (.plain (OpenSpec.upto fieldPrintsSpec)) fieldPrintsUptoCard

/-- THE SECOND FORM's CARD OF 'viramalaw03.FieldBack'. -/
def fieldBackUptoCard : Claim7 := { stood := { row := fieldBackUptoRow, standIns := [], harness := (true, "43e2281452c70b837a4541654caf1f22946bade0866a47c72cd31f3040b3f261"), looks := true }, kinds := [], alts := [], laidByText := true, laidKinds := [.data, .handle, .pinned], laidTests := true, laidLooks := .later }
def FieldBackUptoCardSaid : Prop := Claim7.holds Tryd.pinned (.plain (OpenSpec.upto fieldBackSpec)) fieldBackUptoCard

/-- THE SECOND FORM's CARD OF 'viramalaw03.FieldJoins'. -/
def fieldJoinsUptoCard : Claim7 := { stood := { row := fieldJoinsUptoRow, standIns := [], harness := (true, "43e2281452c70b837a4541654caf1f22946bade0866a47c72cd31f3040b3f261"), looks := true }, kinds := [], alts := [], laidByText := true, laidKinds := [.data, .handle, .pinned], laidTests := true, laidLooks := .later }
def FieldJoinsUptoCardSaid : Prop := Claim7.holds Tryd.pinned (.plain (OpenSpec.upto fieldJoinsSpec)) fieldJoinsUptoCard

/-- THE SECOND FORM's CARD OF 'viramalaw03.FieldRemarks'. -/
def fieldRemarksUptoCard : Claim7 := { stood := { row := fieldRemarksUptoRow, standIns := [], harness := (true, "43e2281452c70b837a4541654caf1f22946bade0866a47c72cd31f3040b3f261"), looks := true }, kinds := [], alts := [], laidByText := true, laidKinds := [.data, .handle, .pinned], laidTests := true, laidLooks := .later }
def FieldRemarksUptoCardSaid : Prop := Claim7.holds Tryd.pinned (.plain (OpenSpec.upto fieldRemarksSpec)) fieldRemarksUptoCard
end Rows
end Go.Proofs.YtdmkjchmcgjjmaaDoor
