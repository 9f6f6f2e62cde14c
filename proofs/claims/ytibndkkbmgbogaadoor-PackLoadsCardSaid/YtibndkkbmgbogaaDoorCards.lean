/-
  DERIVED. GIVEN WITH THE SEED: THE CARDS: each row of YtibndkkbmgbogaaDoorRows.lean that lists a variable, with what it lists TIED to the program's text (the seventh form; the later family's looks); each row that meets fmt, with fmt's text TOLD by the authors' own Lean function (tested against real Go, not proved from fmt's source: count such statements apart). THE CARD IS WHAT COUNTS. Prove the row's statement (the work); the ties are given (YtibndkkbmgbogaaDoorTie.lean); close each card by the builder's one call (the guide's Derived/Test/ToyasCard.lean, 'card_holds'). Laid BY PROGRAM, IN A SANDBOX (cutbox-door.mjs). By AI agents, Wed Nov 11 2026. No macro, syntax, notation, axiom, sorry.
-/
import Derived.Test.YtibndkkbmgbogaaDoorRows
import GoSem.ClaimSeven
namespace Go.Proofs.YtibndkkbmgbogaaDoor
namespace Rows

/-- THE TIED CARD OF 'viramalaw06.TrieRows'. -/
def trieRowsCard : Claim7 := { stood := { row := trieRowsRow, standIns := [], harness := (true, "508a1be2a6a88f05c6ae57c09991684d9bde6986aa822485d2840f7cc8f94d2b"), looks := true }, kinds := [], alts := [], laidByText := true, laidKinds := [.sentinel, .sentinel], laidTests := true, laidLooks := .later }
def TrieRowsCardSaid : Prop := Claim7.holds Tryd.pinned (.plain (OpenSpec.ofChange trieRowsSpec)) trieRowsCard

/-- THE TIED CARD OF 'viramalaw06.TrieTwo'. -/
def trieTwoCard : Claim7 := { stood := { row := trieTwoRow, standIns := [], harness := (true, "508a1be2a6a88f05c6ae57c09991684d9bde6986aa822485d2840f7cc8f94d2b"), looks := true }, kinds := [], alts := [], laidByText := true, laidKinds := [.sentinel, .sentinel], laidTests := true, laidLooks := .later }
def TrieTwoCardSaid : Prop := Claim7.holds Tryd.pinned (.plain (OpenSpec.ofChange trieTwoSpec)) trieTwoCard

/-- THE TIED CARD OF 'viramalaw06.TrieTells'. -/
def trieTellsCard : Claim7 := { stood := { row := trieTellsRow, standIns := [], harness := (true, "508a1be2a6a88f05c6ae57c09991684d9bde6986aa822485d2840f7cc8f94d2b"), looks := true }, kinds := [], alts := [], laidByText := true, laidKinds := [.sentinel, .sentinel], laidTests := true, laidLooks := .later }
def TrieTellsCardSaid : Prop := Claim7.holds Tryd.pinned (.plain (OpenSpec.ofChange trieTellsSpec)) trieTellsCard

/-- THE TIED CARD OF 'viramalaw06.TrieLeast'. -/
def trieLeastCard : Claim7 := { stood := { row := trieLeastRow, standIns := [], harness := (true, "508a1be2a6a88f05c6ae57c09991684d9bde6986aa822485d2840f7cc8f94d2b"), looks := true }, kinds := [], alts := [], laidByText := true, laidKinds := [.sentinel, .sentinel], laidTests := true, laidLooks := .later }
def TrieLeastCardSaid : Prop := Claim7.holds Tryd.pinned (.plain (OpenSpec.ofChange trieLeastSpec)) trieLeastCard

/-- THE TIED CARD OF 'viramalaw07.PackLoads'. -/
def packLoadsCard : Claim7 := { stood := { row := packLoadsRow, standIns := [], harness := (true, "508a1be2a6a88f05c6ae57c09991684d9bde6986aa822485d2840f7cc8f94d2b"), looks := true }, kinds := [], alts := [], laidByText := true, laidKinds := [.handle, .sentinel], laidTests := true, laidLooks := .later }
def PackLoadsCardSaid : Prop := Claim7.holds Tryd.pinned (.plain (OpenSpec.ofChange packLoadsSpec)) packLoadsCard

/-- THE TIED CARD OF 'viramalaw07.PackWhole'. -/
def packWholeCard : Claim7 := { stood := { row := packWholeRow, standIns := [], harness := (true, "508a1be2a6a88f05c6ae57c09991684d9bde6986aa822485d2840f7cc8f94d2b"), looks := true }, kinds := [], alts := [], laidByText := true, laidKinds := [.handle, .sentinel], laidTests := true, laidLooks := .later }
def PackWholeCardSaid : Prop := Claim7.holds Tryd.pinned (.plain (OpenSpec.ofChange packWholeSpec)) packWholeCard

/-- THE TIED CARD OF 'viramalaw07.PackSums'. -/
def packSumsCard : Claim7 := { stood := { row := packSumsRow, standIns := [], harness := (true, "508a1be2a6a88f05c6ae57c09991684d9bde6986aa822485d2840f7cc8f94d2b"), looks := true }, kinds := [], alts := [], laidByText := true, laidKinds := [.handle, .sentinel], laidTests := true, laidLooks := .later }
def PackSumsCardSaid : Prop := Claim7.holds Tryd.pinned (.plain (OpenSpec.ofChange packSumsSpec)) packSumsCard

/-- THE TIED CARD OF 'viramalaw07.PackRuns'. -/
def packRunsCard : Claim7 := { stood := { row := packRunsRow, standIns := [], harness := (true, "508a1be2a6a88f05c6ae57c09991684d9bde6986aa822485d2840f7cc8f94d2b"), looks := true }, kinds := [], alts := [], laidByText := true, laidKinds := [.handle, .sentinel], laidTests := true, laidLooks := .later }
def PackRunsCardSaid : Prop := Claim7.holds Tryd.pinned (.plain (OpenSpec.ofChange packRunsSpec)) packRunsCard

/-- THE TIED CARD OF 'viramalaw07.PackMakes'. -/
def packMakesCard : Claim7 := { stood := { row := packMakesRow, standIns := [], harness := (true, "508a1be2a6a88f05c6ae57c09991684d9bde6986aa822485d2840f7cc8f94d2b"), looks := true }, kinds := [], alts := [], laidByText := true, laidKinds := [.handle, .sentinel], laidTests := true, laidLooks := .later }
def PackMakesCardSaid : Prop := Claim7.holds Tryd.pinned (.plain (OpenSpec.ofChange packMakesSpec)) packMakesCard

/-- THE TIED CARD OF 'viramalaw07.PackByte'. -/
def packByteCard : Claim7 := { stood := { row := packByteRow, standIns := [], harness := (true, "508a1be2a6a88f05c6ae57c09991684d9bde6986aa822485d2840f7cc8f94d2b"), looks := true }, kinds := [], alts := [], laidByText := true, laidKinds := [.handle, .sentinel, .sentinel, .sentinel], laidTests := true, laidLooks := .later }
def PackByteCardSaid : Prop := Claim7.holds Tryd.pinned (.plain (OpenSpec.ofChange packByteSpec)) packByteCard

/-- THE TIED CARD OF 'viramalaw07.PackBack'. -/
def packBackCard : Claim7 := { stood := { row := packBackRow, standIns := [], harness := (true, "508a1be2a6a88f05c6ae57c09991684d9bde6986aa822485d2840f7cc8f94d2b"), looks := true }, kinds := [], alts := [], laidByText := true, laidKinds := [.handle, .sentinel, .sentinel, .sentinel], laidTests := true, laidLooks := .later }
def PackBackCardSaid : Prop := Claim7.holds Tryd.pinned (.plain (OpenSpec.ofChange packBackSpec)) packBackCard

/-- THE SECOND FORM's CARD OF 'viramalaw06.TrieRows'. -/
def trieRowsUptoCard : Claim7 := { stood := { row := trieRowsUptoRow, standIns := [], harness := (true, "508a1be2a6a88f05c6ae57c09991684d9bde6986aa822485d2840f7cc8f94d2b"), looks := true }, kinds := [], alts := [], laidByText := true, laidKinds := [.sentinel, .sentinel], laidTests := true, laidLooks := .later }
def TrieRowsUptoCardSaid : Prop := Claim7.holds Tryd.pinned (.plain (OpenSpec.upto trieRowsSpec)) trieRowsUptoCard

/-- THE SECOND FORM's CARD OF 'viramalaw06.TrieTwo'. -/
def trieTwoUptoCard : Claim7 := { stood := { row := trieTwoUptoRow, standIns := [], harness := (true, "508a1be2a6a88f05c6ae57c09991684d9bde6986aa822485d2840f7cc8f94d2b"), looks := true }, kinds := [], alts := [], laidByText := true, laidKinds := [.sentinel, .sentinel], laidTests := true, laidLooks := .later }
def TrieTwoUptoCardSaid : Prop := Claim7.holds Tryd.pinned (.plain (OpenSpec.upto trieTwoSpec)) trieTwoUptoCard

/-- THE SECOND FORM's CARD OF 'viramalaw06.TrieTells'. -/
def trieTellsUptoCard : Claim7 := { stood := { row := trieTellsUptoRow, standIns := [], harness := (true, "508a1be2a6a88f05c6ae57c09991684d9bde6986aa822485d2840f7cc8f94d2b"), looks := true }, kinds := [], alts := [], laidByText := true, laidKinds := [.sentinel, .sentinel], laidTests := true, laidLooks := .later }
def TrieTellsUptoCardSaid : Prop := Claim7.holds Tryd.pinned (.plain (OpenSpec.upto trieTellsSpec)) trieTellsUptoCard

/-- THE SECOND FORM's CARD OF 'viramalaw06.TrieLeast'. -/
def trieLeastUptoCard : Claim7 := { stood := { row := trieLeastUptoRow, standIns := [], harness := (true, "508a1be2a6a88f05c6ae57c09991684d9bde6986aa822485d2840f7cc8f94d2b"), looks := true }, kinds := [], alts := [], laidByText := true, laidKinds := [.sentinel, .sentinel], laidTests := true, laidLooks := .later }
def TrieLeastUptoCardSaid : Prop := Claim7.holds Tryd.pinned (.plain (OpenSpec.upto trieLeastSpec)) trieLeastUptoCard

/-- THE SECOND FORM's CARD OF 'viramalaw07.PackLoads'. -/
def packLoadsUptoCard : Claim7 := { stood := { row := packLoadsUptoRow, standIns := [], harness := (true, "508a1be2a6a88f05c6ae57c09991684d9bde6986aa822485d2840f7cc8f94d2b"), looks := true }, kinds := [], alts := [], laidByText := true, laidKinds := [.handle, .sentinel], laidTests := true, laidLooks := .later }
def PackLoadsUptoCardSaid : Prop := Claim7.holds Tryd.pinned (.plain (OpenSpec.upto packLoadsSpec)) packLoadsUptoCard

/-- THE SECOND FORM's CARD OF 'viramalaw07.PackWhole'. -/
def packWholeUptoCard : Claim7 := { stood := { row := packWholeUptoRow, standIns := [], harness := (true, "508a1be2a6a88f05c6ae57c09991684d9bde6986aa822485d2840f7cc8f94d2b"), looks := true }, kinds := [], alts := [], laidByText := true, laidKinds := [.handle, .sentinel], laidTests := true, laidLooks := .later }
def PackWholeUptoCardSaid : Prop := Claim7.holds Tryd.pinned (.plain (OpenSpec.upto packWholeSpec)) packWholeUptoCard

/-- THE SECOND FORM's CARD OF 'viramalaw07.PackSums'. -/
def packSumsUptoCard : Claim7 := { stood := { row := packSumsUptoRow, standIns := [], harness := (true, "508a1be2a6a88f05c6ae57c09991684d9bde6986aa822485d2840f7cc8f94d2b"), looks := true }, kinds := [], alts := [], laidByText := true, laidKinds := [.handle, .sentinel], laidTests := true, laidLooks := .later }
def PackSumsUptoCardSaid : Prop := Claim7.holds Tryd.pinned (.plain (OpenSpec.upto packSumsSpec)) packSumsUptoCard

/-- THE SECOND FORM's CARD OF 'viramalaw07.PackRuns'. -/
def packRunsUptoCard : Claim7 := { stood := { row := packRunsUptoRow, standIns := [], harness := (true, "508a1be2a6a88f05c6ae57c09991684d9bde6986aa822485d2840f7cc8f94d2b"), looks := true }, kinds := [], alts := [], laidByText := true, laidKinds := [.handle, .sentinel], laidTests := true, laidLooks := .later }
def PackRunsUptoCardSaid : Prop := Claim7.holds Tryd.pinned (.plain (OpenSpec.upto packRunsSpec)) packRunsUptoCard

/-- THE SECOND FORM's CARD OF 'viramalaw07.PackMakes'. -/
def packMakesUptoCard : Claim7 := { stood := { row := packMakesUptoRow, standIns := [], harness := (true, "508a1be2a6a88f05c6ae57c09991684d9bde6986aa822485d2840f7cc8f94d2b"), looks := true }, kinds := [], alts := [], laidByText := true, laidKinds := [.handle, .sentinel], laidTests := true, laidLooks := .later }
def PackMakesUptoCardSaid : Prop := Claim7.holds Tryd.pinned (.plain (OpenSpec.upto packMakesSpec)) packMakesUptoCard

/-- THE SECOND FORM's CARD OF 'viramalaw07.PackByte'. -/
def packByteUptoCard : Claim7 := { stood := { row := packByteUptoRow, standIns := [], harness := (true, "508a1be2a6a88f05c6ae57c09991684d9bde6986aa822485d2840f7cc8f94d2b"), looks := true }, kinds := [], alts := [], laidByText := true, laidKinds := [.handle, .sentinel, .sentinel, .sentinel], laidTests := true, laidLooks := .later }
def PackByteUptoCardSaid : Prop := Claim7.holds Tryd.pinned (.plain (OpenSpec.upto packByteSpec)) packByteUptoCard

/-- THE SECOND FORM's CARD OF 'viramalaw07.PackBack'. -/
def packBackUptoCard : Claim7 := { stood := { row := packBackUptoRow, standIns := [], harness := (true, "508a1be2a6a88f05c6ae57c09991684d9bde6986aa822485d2840f7cc8f94d2b"), looks := true }, kinds := [], alts := [], laidByText := true, laidKinds := [.handle, .sentinel, .sentinel, .sentinel], laidTests := true, laidLooks := .later }
def PackBackUptoCardSaid : Prop := Claim7.holds Tryd.pinned (.plain (OpenSpec.upto packBackSpec)) packBackUptoCard
end Rows
end Go.Proofs.YtibndkkbmgbogaaDoor
