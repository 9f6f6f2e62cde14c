/-
  DERIVED. GIVEN WITH THE SEED: THE CARDS: each row of YtigkphjgidbppaaDoorRows.lean that lists a variable, with what it lists TIED to the program's text (the seventh form; the later family's looks); each row that meets fmt, with fmt's text TOLD by the authors' own Lean function (tested against real Go, not proved from fmt's source: count such statements apart). THE CARD IS WHAT COUNTS. Prove the row's statement (the work); the ties are given (YtigkphjgidbppaaDoorTie.lean); close each card by the builder's one call (the guide's Derived/Test/ToyasCard.lean, 'card_holds'). Laid BY PROGRAM, IN A SANDBOX (cutbox-door.mjs). By AI agents, Wed Nov 11 2026. No macro, syntax, notation, axiom, sorry.
-/
import Derived.Test.YtigkphjgidbppaaDoorRows
import GoSem.ClaimSeven
namespace Go.Proofs.YtigkphjgidbppaaDoor
namespace Rows

/-- THE TIED CARD OF 'viramalaw08.ClassNots'. -/
def classNotsCard : Claim7 := { stood := { row := classNotsRow, standIns := [], harness := (true, "d76056ceac56640e99aa7daf13c28301c7bd0998afa7fb27ee19f4a5ab508e6a"), looks := true }, kinds := [], alts := [], laidByText := true, laidKinds := [.data, .handle, .sentinel, .pinned], laidTests := true, laidLooks := .later }
def ClassNotsCardSaid : Prop := Claim7.holds Tryd.pinned (.plain (OpenSpec.ofChange classNotsSpec)) classNotsCard

/-- THE TIED CARD OF 'viramalaw08.ClassSets'. -/
def classSetsCard : Claim7 := { stood := { row := classSetsRow, standIns := [], harness := (true, "d76056ceac56640e99aa7daf13c28301c7bd0998afa7fb27ee19f4a5ab508e6a"), looks := true }, kinds := [], alts := [], laidByText := true, laidKinds := [.data, .handle, .sentinel, .pinned], laidTests := true, laidLooks := .later }
def ClassSetsCardSaid : Prop := Claim7.holds Tryd.pinned (.plain (OpenSpec.ofChange classSetsSpec)) classSetsCard

/-- THE TIED CARD OF 'viramalaw08.ClassUnions'. -/
def classUnionsCard : Claim7 := { stood := { row := classUnionsRow, standIns := [], harness := (true, "d76056ceac56640e99aa7daf13c28301c7bd0998afa7fb27ee19f4a5ab508e6a"), looks := true }, kinds := [], alts := [], laidByText := true, laidKinds := [.data, .handle, .sentinel, .pinned], laidTests := true, laidLooks := .later }
def ClassUnionsCardSaid : Prop := Claim7.holds Tryd.pinned (.plain (OpenSpec.ofChange classUnionsSpec)) classUnionsCard

/-- THE TIED CARD OF 'viramalaw08.ClassTells'. -/
def classTellsCard : Claim7 := { stood := { row := classTellsRow, standIns := [], harness := (true, "d76056ceac56640e99aa7daf13c28301c7bd0998afa7fb27ee19f4a5ab508e6a"), looks := true }, kinds := [], alts := [], laidByText := true, laidKinds := [.data, .handle, .sentinel, .pinned], laidTests := true, laidLooks := .later }
def ClassTellsCardSaid : Prop := Claim7.holds Tryd.pinned (.plain (OpenSpec.ofChange classTellsSpec)) classTellsCard

/-- THE TIED CARD OF 'viramalaw08.ClassTexts'. -/
def classTextsCard : Claim7 := { stood := { row := classTextsRow, standIns := [], harness := (true, "d76056ceac56640e99aa7daf13c28301c7bd0998afa7fb27ee19f4a5ab508e6a"), looks := true }, kinds := [], alts := [], laidByText := true, laidKinds := [.data, .handle, .sentinel, .pinned], laidTests := true, laidLooks := .later }
def ClassTextsCardSaid : Prop := Claim7.holds Tryd.pinned (.plain (OpenSpec.ofChange classTextsSpec)) classTextsCard

/-- THE TIED CARD OF 'viramalaw08.ClassBack'. -/
def classBackCard : Claim7 := { stood := { row := classBackRow, standIns := [], harness := (true, "d76056ceac56640e99aa7daf13c28301c7bd0998afa7fb27ee19f4a5ab508e6a"), looks := true }, kinds := [], alts := [], laidByText := true, laidKinds := [.data, .handle, .sentinel, .pinned], laidTests := true, laidLooks := .later }
def ClassBackCardSaid : Prop := Claim7.holds Tryd.pinned (.plain (OpenSpec.ofChange classBackSpec)) classBackCard

/-- THE TIED CARD OF 'viramalaw08.ClassOthers'. -/
def classOthersCard : Claim7 := { stood := { row := classOthersRow, standIns := [], harness := (true, "d76056ceac56640e99aa7daf13c28301c7bd0998afa7fb27ee19f4a5ab508e6a"), looks := true }, kinds := [], alts := [], laidByText := true, laidKinds := [.data, .handle, .sentinel, .pinned], laidTests := true, laidLooks := .later }
def ClassOthersCardSaid : Prop := Claim7.holds Tryd.pinned (.plain (OpenSpec.ofChange classOthersSpec)) classOthersCard

/-- THE SECOND FORM's CARD OF 'viramalaw08.ClassNots'. -/
def classNotsUptoCard : Claim7 := { stood := { row := classNotsUptoRow, standIns := [], harness := (true, "d76056ceac56640e99aa7daf13c28301c7bd0998afa7fb27ee19f4a5ab508e6a"), looks := true }, kinds := [], alts := [], laidByText := true, laidKinds := [.data, .handle, .sentinel, .pinned], laidTests := true, laidLooks := .later }
def ClassNotsUptoCardSaid : Prop := Claim7.holds Tryd.pinned (.plain (OpenSpec.upto classNotsSpec)) classNotsUptoCard

/-- THE SECOND FORM's CARD OF 'viramalaw08.ClassSets'. -/
def classSetsUptoCard : Claim7 := { stood := { row := classSetsUptoRow, standIns := [], harness := (true, "d76056ceac56640e99aa7daf13c28301c7bd0998afa7fb27ee19f4a5ab508e6a"), looks := true }, kinds := [], alts := [], laidByText := true, laidKinds := [.data, .handle, .sentinel, .pinned], laidTests := true, laidLooks := .later }
def ClassSetsUptoCardSaid : Prop := Claim7.holds Tryd.pinned (.plain (OpenSpec.upto classSetsSpec)) classSetsUptoCard

/-- THE SECOND FORM's CARD OF 'viramalaw08.ClassUnions'. -/
def classUnionsUptoCard : Claim7 := { stood := { row := classUnionsUptoRow, standIns := [], harness := (true, "d76056ceac56640e99aa7daf13c28301c7bd0998afa7fb27ee19f4a5ab508e6a"), looks := true }, kinds := [], alts := [], laidByText := true, laidKinds := [.data, .handle, .sentinel, .pinned], laidTests := true, laidLooks := .later }
def ClassUnionsUptoCardSaid : Prop := Claim7.holds Tryd.pinned (.plain (OpenSpec.upto classUnionsSpec)) classUnionsUptoCard

/-- THE SECOND FORM's CARD OF 'viramalaw08.ClassTells'. -/
def classTellsUptoCard : Claim7 := { stood := { row := classTellsUptoRow, standIns := [], harness := (true, "d76056ceac56640e99aa7daf13c28301c7bd0998afa7fb27ee19f4a5ab508e6a"), looks := true }, kinds := [], alts := [], laidByText := true, laidKinds := [.data, .handle, .sentinel, .pinned], laidTests := true, laidLooks := .later }
def ClassTellsUptoCardSaid : Prop := Claim7.holds Tryd.pinned (.plain (OpenSpec.upto classTellsSpec)) classTellsUptoCard

/-- THE SECOND FORM's CARD OF 'viramalaw08.ClassTexts'. -/
def classTextsUptoCard : Claim7 := { stood := { row := classTextsUptoRow, standIns := [], harness := (true, "d76056ceac56640e99aa7daf13c28301c7bd0998afa7fb27ee19f4a5ab508e6a"), looks := true }, kinds := [], alts := [], laidByText := true, laidKinds := [.data, .handle, .sentinel, .pinned], laidTests := true, laidLooks := .later }
def ClassTextsUptoCardSaid : Prop := Claim7.holds Tryd.pinned (.plain (OpenSpec.upto classTextsSpec)) classTextsUptoCard

/-- THE SECOND FORM's CARD OF 'viramalaw08.ClassBack'. -/
def classBackUptoCard : Claim7 := { stood := { row := classBackUptoRow, standIns := [], harness := (true, "d76056ceac56640e99aa7daf13c28301c7bd0998afa7fb27ee19f4a5ab508e6a"), looks := true }, kinds := [], alts := [], laidByText := true, laidKinds := [.data, .handle, .sentinel, .pinned], laidTests := true, laidLooks := .later }
def ClassBackUptoCardSaid : Prop := Claim7.holds Tryd.pinned (.plain (OpenSpec.upto classBackSpec)) classBackUptoCard

/-- THE SECOND FORM's CARD OF 'viramalaw08.ClassOthers'. -/
def classOthersUptoCard : Claim7 := { stood := { row := classOthersUptoRow, standIns := [], harness := (true, "d76056ceac56640e99aa7daf13c28301c7bd0998afa7fb27ee19f4a5ab508e6a"), looks := true }, kinds := [], alts := [], laidByText := true, laidKinds := [.data, .handle, .sentinel, .pinned], laidTests := true, laidLooks := .later }
def ClassOthersUptoCardSaid : Prop := Claim7.holds Tryd.pinned (.plain (OpenSpec.upto classOthersSpec)) classOthersUptoCard
end Rows
end Go.Proofs.YtigkphjgidbppaaDoor
