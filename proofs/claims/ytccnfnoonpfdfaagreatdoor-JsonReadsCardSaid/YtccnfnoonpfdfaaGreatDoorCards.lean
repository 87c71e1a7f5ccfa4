/-
  DERIVED. GIVEN WITH THE SEED: THE CARDS: each row of YtccnfnoonpfdfaaGreatDoorRows.lean that lists a variable, with what it lists TIED to the program's text (the seventh form; the later family's looks); each row that meets fmt, with fmt's text TOLD by the authors' own Lean function (tested against real Go, not proved from fmt's source: count such statements apart). THE CARD IS WHAT COUNTS. Prove the row's statement (the work); the ties are given (YtccnfnoonpfdfaaGreatDoorTie.lean); close each card by the builder's one call (the guide's Derived/Test/ToyasCard.lean, 'card_holds'). Laid BY PROGRAM, IN A SANDBOX (cutbox-door.mjs). By AI agents, Wed Nov 11 2026. No macro, syntax, notation, axiom, sorry.
-/
import Derived.Test.YtccnfnoonpfdfaaGreatDoorRows
import GoSem.ClaimSeven
namespace Go.Proofs.YtccnfnoonpfdfaaGreatDoor
namespace Rows

/-- THE TIED CARD OF 'roundelaylaw04.JsonPrints'. -/
def jsonPrintsCard : Claim7 := { stood := { row := jsonPrintsRow, standIns := [], harness := (true, "52bd929f5b46a9a6c97189d5b812c157137eaed8afd40c9586b6cd679108df1e"), looks := true }, kinds := [], alts := [], laidByText := true, laidKinds := [.data, .data, .data, .data, .handle, .sentinel, .sentinel, .data, .data, .pinned], laidTests := true, laidLooks := .later }
def JsonPrintsCardSaid : Prop := Claim7.holds Tryz.pinned (.plain (OpenSpec.ofChange jsonPrintsSpec)) jsonPrintsCard

/-- THE TIED CARD OF 'roundelaylaw04.JsonInts'. -/
def jsonIntsCard : Claim7 := { stood := { row := jsonIntsRow, standIns := [], harness := (true, "52bd929f5b46a9a6c97189d5b812c157137eaed8afd40c9586b6cd679108df1e"), looks := true }, kinds := [], alts := [], laidByText := true, laidKinds := [.data, .data, .data, .data, .handle, .sentinel, .sentinel, .pinned], laidTests := true, laidLooks := .later }
def JsonIntsCardSaid : Prop := Claim7.holds Tryz.pinned (.plain (OpenSpec.ofChange jsonIntsSpec)) jsonIntsCard

/-- THE TIED CARD OF 'roundelaylaw04.JsonDeep'. -/
def jsonDeepCard : Claim7 := { stood := { row := jsonDeepRow, standIns := [], harness := (true, "52bd929f5b46a9a6c97189d5b812c157137eaed8afd40c9586b6cd679108df1e"), looks := true }, kinds := [], alts := [], laidByText := true, laidKinds := [.data, .data, .data, .data, .handle, .sentinel, .sentinel, .pinned], laidTests := true, laidLooks := .later }
def JsonDeepCardSaid : Prop := Claim7.holds Tryz.pinned (.plain (OpenSpec.ofChange jsonDeepSpec)) jsonDeepCard

/-- THE TIED CARD OF 'roundelaylaw04.JsonReads'. -/
def jsonReadsCard : Claim7 := { stood := { row := jsonReadsRow, standIns := [], harness := (true, "52bd929f5b46a9a6c97189d5b812c157137eaed8afd40c9586b6cd679108df1e"), looks := true }, kinds := [], alts := [], laidByText := true, laidKinds := [.data, .data, .data, .data, .handle, .sentinel, .sentinel, .data, .data, .pinned], laidTests := true, laidLooks := .later }
def JsonReadsCardSaid : Prop := Claim7.holds Tryz.pinned (.plain (OpenSpec.ofChange jsonReadsSpec)) jsonReadsCard

/-- THE TIED CARD OF 'roundelaylaw04.JsonBlanks'. -/
def jsonBlanksCard : Claim7 := { stood := { row := jsonBlanksRow, standIns := [], harness := (true, "52bd929f5b46a9a6c97189d5b812c157137eaed8afd40c9586b6cd679108df1e"), looks := true }, kinds := [], alts := [], laidByText := true, laidKinds := [.data, .data, .data, .data, .handle, .sentinel, .sentinel, .data, .data, .pinned], laidTests := true, laidLooks := .later }
def JsonBlanksCardSaid : Prop := Claim7.holds Tryz.pinned (.plain (OpenSpec.ofChange jsonBlanksSpec)) jsonBlanksCard

/-- THE TIED CARD OF 'roundelaylaw04.JsonNames'. -/
def jsonNamesCard : Claim7 := { stood := { row := jsonNamesRow, standIns := [], harness := (true, "52bd929f5b46a9a6c97189d5b812c157137eaed8afd40c9586b6cd679108df1e"), looks := true }, kinds := [], alts := [], laidByText := true, laidKinds := [.data, .data, .data, .data, .handle, .sentinel, .sentinel, .data, .data, .pinned], laidTests := true, laidLooks := .later }
def JsonNamesCardSaid : Prop := Claim7.holds Tryz.pinned (.plain (OpenSpec.ofChange jsonNamesSpec)) jsonNamesCard

/-- THE TIED CARD OF 'roundelaylaw04.JsonBack'. -/
def jsonBackCard : Claim7 := { stood := { row := jsonBackRow, standIns := [], harness := (true, "52bd929f5b46a9a6c97189d5b812c157137eaed8afd40c9586b6cd679108df1e"), looks := true }, kinds := [], alts := [], laidByText := true, laidKinds := [.data, .data, .data, .data, .handle, .sentinel, .sentinel, .data, .data, .pinned], laidTests := true, laidLooks := .later }
def JsonBackCardSaid : Prop := Claim7.holds Tryz.pinned (.plain (OpenSpec.ofChange jsonBackSpec)) jsonBackCard

/-- THE SECOND FORM's CARD OF 'roundelaylaw04.JsonPrints'. -/
def jsonPrintsUptoCard : Claim7 := { stood := { row := jsonPrintsUptoRow, standIns := [], harness := (true, "52bd929f5b46a9a6c97189d5b812c157137eaed8afd40c9586b6cd679108df1e"), looks := true }, kinds := [], alts := [], laidByText := true, laidKinds := [.data, .data, .data, .data, .handle, .sentinel, .sentinel, .data, .data, .pinned], laidTests := true, laidLooks := .later }
def JsonPrintsUptoCardSaid : Prop := Claim7.holds Tryz.pinned (.plain (OpenSpec.upto jsonPrintsSpec)) jsonPrintsUptoCard

/-- THE SECOND FORM's CARD OF 'roundelaylaw04.JsonInts'. -/
def jsonIntsUptoCard : Claim7 := { stood := { row := jsonIntsUptoRow, standIns := [], harness := (true, "52bd929f5b46a9a6c97189d5b812c157137eaed8afd40c9586b6cd679108df1e"), looks := true }, kinds := [], alts := [], laidByText := true, laidKinds := [.data, .data, .data, .data, .handle, .sentinel, .sentinel, .pinned], laidTests := true, laidLooks := .later }
def JsonIntsUptoCardSaid : Prop := Claim7.holds Tryz.pinned (.plain (OpenSpec.upto jsonIntsSpec)) jsonIntsUptoCard

/-- THE SECOND FORM's CARD OF 'roundelaylaw04.JsonDeep'. -/
def jsonDeepUptoCard : Claim7 := { stood := { row := jsonDeepUptoRow, standIns := [], harness := (true, "52bd929f5b46a9a6c97189d5b812c157137eaed8afd40c9586b6cd679108df1e"), looks := true }, kinds := [], alts := [], laidByText := true, laidKinds := [.data, .data, .data, .data, .handle, .sentinel, .sentinel, .pinned], laidTests := true, laidLooks := .later }
def JsonDeepUptoCardSaid : Prop := Claim7.holds Tryz.pinned (.plain (OpenSpec.upto jsonDeepSpec)) jsonDeepUptoCard

/-- THE SECOND FORM's CARD OF 'roundelaylaw04.JsonReads'. -/
def jsonReadsUptoCard : Claim7 := { stood := { row := jsonReadsUptoRow, standIns := [], harness := (true, "52bd929f5b46a9a6c97189d5b812c157137eaed8afd40c9586b6cd679108df1e"), looks := true }, kinds := [], alts := [], laidByText := true, laidKinds := [.data, .data, .data, .data, .handle, .sentinel, .sentinel, .data, .data, .pinned], laidTests := true, laidLooks := .later }
def JsonReadsUptoCardSaid : Prop := Claim7.holds Tryz.pinned (.plain (OpenSpec.upto jsonReadsSpec)) jsonReadsUptoCard

/-- THE SECOND FORM's CARD OF 'roundelaylaw04.JsonBlanks'. -/
def jsonBlanksUptoCard : Claim7 := { stood := { row := jsonBlanksUptoRow, standIns := [], harness := (true, "52bd929f5b46a9a6c97189d5b812c157137eaed8afd40c9586b6cd679108df1e"), looks := true }, kinds := [], alts := [], laidByText := true, laidKinds := [.data, .data, .data, .data, .handle, .sentinel, .sentinel, .data, .data, .pinned], laidTests := true, laidLooks := .later }
def JsonBlanksUptoCardSaid : Prop := Claim7.holds Tryz.pinned (.plain (OpenSpec.upto jsonBlanksSpec)) jsonBlanksUptoCard

/-- THE SECOND FORM's CARD OF 'roundelaylaw04.JsonNames'. -/
def jsonNamesUptoCard : Claim7 := { stood := { row := jsonNamesUptoRow, standIns := [], harness := (true, "52bd929f5b46a9a6c97189d5b812c157137eaed8afd40c9586b6cd679108df1e"), looks := true }, kinds := [], alts := [], laidByText := true, laidKinds := [.data, .data, .data, .data, .handle, .sentinel, .sentinel, .data, .data, .pinned], laidTests := true, laidLooks := .later }
def JsonNamesUptoCardSaid : Prop := Claim7.holds Tryz.pinned (.plain (OpenSpec.upto jsonNamesSpec)) jsonNamesUptoCard

/-- THE SECOND FORM's CARD OF 'roundelaylaw04.JsonBack'. -/
def jsonBackUptoCard : Claim7 := { stood := { row := jsonBackUptoRow, standIns := [], harness := (true, "52bd929f5b46a9a6c97189d5b812c157137eaed8afd40c9586b6cd679108df1e"), looks := true }, kinds := [], alts := [], laidByText := true, laidKinds := [.data, .data, .data, .data, .handle, .sentinel, .sentinel, .data, .data, .pinned], laidTests := true, laidLooks := .later }
def JsonBackUptoCardSaid : Prop := Claim7.holds Tryz.pinned (.plain (OpenSpec.upto jsonBackSpec)) jsonBackUptoCard
end Rows
end Go.Proofs.YtccnfnoonpfdfaaGreatDoor
