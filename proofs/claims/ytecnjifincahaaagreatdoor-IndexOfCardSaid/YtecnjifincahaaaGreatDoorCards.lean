/-
  DERIVED. GIVEN WITH THE SEED: THE CARDS: each row of YtecnjifincahaaaGreatDoorRows.lean that lists a variable, with what it lists TIED to the program's text (the seventh form; the later family's looks); each row that meets fmt, with fmt's text TOLD by the authors' own Lean function (tested against real Go, not proved from fmt's source: count such statements apart). THE CARD IS WHAT COUNTS. Prove the row's statement (the work); the ties are given (YtecnjifincahaaaGreatDoorTie.lean); close each card by the builder's one call (the guide's Derived/Test/ToyasCard.lean, 'card_holds'). Laid BY PROGRAM, IN A SANDBOX (cutbox-door.mjs). By AI agents, Wed Nov 11 2026. No macro, syntax, notation, axiom, sorry.
-/
import Derived.Test.YtecnjifincahaaaGreatDoorRows
import GoSem.ClaimSeven
namespace Go.Proofs.YtecnjifincahaaaGreatDoor
namespace Rows

/-- THE TIED CARD OF 'roundelaylaw10.IndexChecks'. -/
def indexChecksCard : Claim7 := { stood := { row := indexChecksRow, standIns := [], harness := (true, "fb7e1417854bbd953f948607820c2b9b2ea2ef4c9007cde9ecaf0dff5499b7e2"), looks := true }, kinds := [], alts := [], laidByText := true, laidKinds := [.data, .data, .data, .data, .handle, .sentinel, .sentinel, .data, .data, .pinned], laidTests := true, laidLooks := .later }
def IndexChecksCardSaid : Prop := Claim7.holds Tryz.pinned (.plain (OpenSpec.ofChange indexChecksSpec)) indexChecksCard

/-- THE TIED CARD OF 'roundelaylaw10.IndexKeys'. -/
def indexKeysCard : Claim7 := { stood := { row := indexKeysRow, standIns := [], harness := (true, "fb7e1417854bbd953f948607820c2b9b2ea2ef4c9007cde9ecaf0dff5499b7e2"), looks := true }, kinds := [], alts := [], laidByText := true, laidKinds := [.data, .data, .data, .data, .handle, .sentinel, .sentinel, .data, .data, .pinned], laidTests := true, laidLooks := .later }
def IndexKeysCardSaid : Prop := Claim7.holds Tryz.pinned (.plain (OpenSpec.ofChange indexKeysSpec)) indexKeysCard

/-- THE TIED CARD OF 'roundelaylaw10.IndexClash'. -/
def indexClashCard : Claim7 := { stood := { row := indexClashRow, standIns := [], harness := (true, "fb7e1417854bbd953f948607820c2b9b2ea2ef4c9007cde9ecaf0dff5499b7e2"), looks := true }, kinds := [], alts := [], laidByText := true, laidKinds := [.data, .data, .data, .data, .handle, .sentinel, .sentinel, .data, .data, .pinned], laidTests := true, laidLooks := .later }
def IndexClashCardSaid : Prop := Claim7.holds Tryz.pinned (.plain (OpenSpec.ofChange indexClashSpec)) indexClashCard

/-- THE TIED CARD OF 'roundelaylaw10.IndexOne'. -/
def indexOneCard : Claim7 := { stood := { row := indexOneRow, standIns := [], harness := (true, "fb7e1417854bbd953f948607820c2b9b2ea2ef4c9007cde9ecaf0dff5499b7e2"), looks := true }, kinds := [], alts := [], laidByText := true, laidKinds := [.data, .data, .data, .data, .handle, .sentinel, .sentinel, .data, .data, .pinned], laidTests := true, laidLooks := .later }
def IndexOneCardSaid : Prop := Claim7.holds Tryz.pinned (.plain (OpenSpec.ofChange indexOneSpec)) indexOneCard

/-- THE TIED CARD OF 'roundelaylaw10.IndexMoves'. -/
def indexMovesCard : Claim7 := { stood := { row := indexMovesRow, standIns := [], harness := (true, "fb7e1417854bbd953f948607820c2b9b2ea2ef4c9007cde9ecaf0dff5499b7e2"), looks := true }, kinds := [], alts := [], laidByText := true, laidKinds := [.data, .data, .data, .data, .handle, .sentinel, .sentinel, .data, .data, .pinned], laidTests := true, laidLooks := .later }
def IndexMovesCardSaid : Prop := Claim7.holds Tryz.pinned (.plain (OpenSpec.ofChange indexMovesSpec)) indexMovesCard

/-- THE TIED CARD OF 'roundelaylaw10.IndexOf'. -/
def indexOfCard : Claim7 := { stood := { row := indexOfRow, standIns := [], harness := (true, "fb7e1417854bbd953f948607820c2b9b2ea2ef4c9007cde9ecaf0dff5499b7e2"), looks := true }, kinds := [], alts := [], laidByText := true, laidKinds := [.data, .data, .data, .data, .handle, .sentinel, .sentinel, .data, .data, .pinned], laidTests := true, laidLooks := .later }
def IndexOfCardSaid : Prop := Claim7.holds Tryz.pinned (.plain (OpenSpec.ofChange indexOfSpec)) indexOfCard

/-- THE SECOND FORM's CARD OF 'roundelaylaw10.IndexChecks'. -/
def indexChecksUptoCard : Claim7 := { stood := { row := indexChecksUptoRow, standIns := [], harness := (true, "fb7e1417854bbd953f948607820c2b9b2ea2ef4c9007cde9ecaf0dff5499b7e2"), looks := true }, kinds := [], alts := [], laidByText := true, laidKinds := [.data, .data, .data, .data, .handle, .sentinel, .sentinel, .data, .data, .pinned], laidTests := true, laidLooks := .later }
def IndexChecksUptoCardSaid : Prop := Claim7.holds Tryz.pinned (.plain (OpenSpec.upto indexChecksSpec)) indexChecksUptoCard

/-- THE SECOND FORM's CARD OF 'roundelaylaw10.IndexKeys'. -/
def indexKeysUptoCard : Claim7 := { stood := { row := indexKeysUptoRow, standIns := [], harness := (true, "fb7e1417854bbd953f948607820c2b9b2ea2ef4c9007cde9ecaf0dff5499b7e2"), looks := true }, kinds := [], alts := [], laidByText := true, laidKinds := [.data, .data, .data, .data, .handle, .sentinel, .sentinel, .data, .data, .pinned], laidTests := true, laidLooks := .later }
def IndexKeysUptoCardSaid : Prop := Claim7.holds Tryz.pinned (.plain (OpenSpec.upto indexKeysSpec)) indexKeysUptoCard

/-- THE SECOND FORM's CARD OF 'roundelaylaw10.IndexClash'. -/
def indexClashUptoCard : Claim7 := { stood := { row := indexClashUptoRow, standIns := [], harness := (true, "fb7e1417854bbd953f948607820c2b9b2ea2ef4c9007cde9ecaf0dff5499b7e2"), looks := true }, kinds := [], alts := [], laidByText := true, laidKinds := [.data, .data, .data, .data, .handle, .sentinel, .sentinel, .data, .data, .pinned], laidTests := true, laidLooks := .later }
def IndexClashUptoCardSaid : Prop := Claim7.holds Tryz.pinned (.plain (OpenSpec.upto indexClashSpec)) indexClashUptoCard

/-- THE SECOND FORM's CARD OF 'roundelaylaw10.IndexOne'. -/
def indexOneUptoCard : Claim7 := { stood := { row := indexOneUptoRow, standIns := [], harness := (true, "fb7e1417854bbd953f948607820c2b9b2ea2ef4c9007cde9ecaf0dff5499b7e2"), looks := true }, kinds := [], alts := [], laidByText := true, laidKinds := [.data, .data, .data, .data, .handle, .sentinel, .sentinel, .data, .data, .pinned], laidTests := true, laidLooks := .later }
def IndexOneUptoCardSaid : Prop := Claim7.holds Tryz.pinned (.plain (OpenSpec.upto indexOneSpec)) indexOneUptoCard

/-- THE SECOND FORM's CARD OF 'roundelaylaw10.IndexMoves'. -/
def indexMovesUptoCard : Claim7 := { stood := { row := indexMovesUptoRow, standIns := [], harness := (true, "fb7e1417854bbd953f948607820c2b9b2ea2ef4c9007cde9ecaf0dff5499b7e2"), looks := true }, kinds := [], alts := [], laidByText := true, laidKinds := [.data, .data, .data, .data, .handle, .sentinel, .sentinel, .data, .data, .pinned], laidTests := true, laidLooks := .later }
def IndexMovesUptoCardSaid : Prop := Claim7.holds Tryz.pinned (.plain (OpenSpec.upto indexMovesSpec)) indexMovesUptoCard

/-- THE SECOND FORM's CARD OF 'roundelaylaw10.IndexOf'. -/
def indexOfUptoCard : Claim7 := { stood := { row := indexOfUptoRow, standIns := [], harness := (true, "fb7e1417854bbd953f948607820c2b9b2ea2ef4c9007cde9ecaf0dff5499b7e2"), looks := true }, kinds := [], alts := [], laidByText := true, laidKinds := [.data, .data, .data, .data, .handle, .sentinel, .sentinel, .data, .data, .pinned], laidTests := true, laidLooks := .later }
def IndexOfUptoCardSaid : Prop := Claim7.holds Tryz.pinned (.plain (OpenSpec.upto indexOfSpec)) indexOfUptoCard
end Rows
end Go.Proofs.YtecnjifincahaaaGreatDoor
