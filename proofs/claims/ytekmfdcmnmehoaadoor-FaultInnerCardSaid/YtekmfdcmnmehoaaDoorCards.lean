/-
  DERIVED. GIVEN WITH THE SEED: THE CARDS: each row of YtekmfdcmnmehoaaDoorRows.lean that lists a variable, with what it lists TIED to the program's text (the seventh form; the later family's looks); each row that meets fmt, with fmt's text TOLD by the authors' own Lean function (tested against real Go, not proved from fmt's source: count such statements apart). THE CARD IS WHAT COUNTS. Prove the row's statement (the work); the ties are given (YtekmfdcmnmehoaaDoorTie.lean); close each card by the builder's one call (the guide's Derived/Test/ToyasCard.lean, 'card_holds'). Laid BY PROGRAM, IN A SANDBOX (cutbox-door.mjs). By AI agents, Wed Nov 11 2026. No macro, syntax, notation, axiom, sorry.
-/
import Derived.Test.YtekmfdcmnmehoaaDoorRows
import GoSem.ClaimSeven
namespace Go.Proofs.YtekmfdcmnmehoaaDoor
namespace Rows

/-- THE TIED CARD OF 'roundelaylaw01.FaultCode'. -/
def faultCodeCard : Claim7 := { stood := { row := faultCodeRow, standIns := [], harness := (true, "7964d2a06fdc1b2ef01e5edb6c83420f3be349f4fc3be0f4b5e84c2d825b13d4"), looks := true }, kinds := [], alts := [], laidByText := true, laidKinds := [.handle], laidTests := true, laidLooks := .later }
def FaultCodeCardSaid : Prop := Claim7.holds Tryd.pinned (.plain (OpenSpec.ofChange faultCodeSpec)) faultCodeCard

/-- THE TIED CARD OF 'roundelaylaw01.FaultText'. -/
def faultTextCard : Claim7 := { stood := { row := faultTextRow, standIns := [], harness := (true, "7964d2a06fdc1b2ef01e5edb6c83420f3be349f4fc3be0f4b5e84c2d825b13d4"), looks := true }, kinds := [], alts := [], laidByText := true, laidKinds := [.data, .data, .data, .handle], laidTests := true, laidLooks := .later }
def FaultTextCardSaid : Prop := Claim7.holds Tryd.pinned (.plain (OpenSpec.ofChange faultTextSpec)) faultTextCard

/-- THE TIED CARD OF 'roundelaylaw01.FaultInner'. -/
def faultInnerCard : Claim7 := { stood := { row := faultInnerRow, standIns := [], harness := (true, "7964d2a06fdc1b2ef01e5edb6c83420f3be349f4fc3be0f4b5e84c2d825b13d4"), looks := true }, kinds := [], alts := [], laidByText := true, laidKinds := [.handle], laidTests := true, laidLooks := .later }
def FaultInnerCardSaid : Prop := Claim7.holds Tryd.pinned (.plain (OpenSpec.ofChange faultInnerSpec)) faultInnerCard

/-- THE TIED CARD OF 'roundelaylaw01.FaultPlaces'. -/
def faultPlacesCard : Claim7 := { stood := { row := faultPlacesRow, standIns := [], harness := (true, "7964d2a06fdc1b2ef01e5edb6c83420f3be349f4fc3be0f4b5e84c2d825b13d4"), looks := true }, kinds := [], alts := [], laidByText := true, laidKinds := [.handle], laidTests := true, laidLooks := .later }
def FaultPlacesCardSaid : Prop := Claim7.holds Tryd.pinned (.plain (OpenSpec.ofChange faultPlacesSpec)) faultPlacesCard

/-- THE TIED CARD OF 'roundelaylaw01.FaultOther'. -/
def faultOtherCard : Claim7 := { stood := { row := faultOtherRow, standIns := [], harness := (true, "7964d2a06fdc1b2ef01e5edb6c83420f3be349f4fc3be0f4b5e84c2d825b13d4"), looks := true }, kinds := [], alts := [], laidByText := true, laidKinds := [.handle], laidTests := true, laidLooks := .later }
def FaultOtherCardSaid : Prop := Claim7.holds Tryd.pinned (.plain (OpenSpec.ofChange faultOtherSpec)) faultOtherCard

/-- THE TIED CARD OF 'roundelaylaw01.FaultNone'. -/
def faultNoneCard : Claim7 := { stood := { row := faultNoneRow, standIns := [], harness := (true, "7964d2a06fdc1b2ef01e5edb6c83420f3be349f4fc3be0f4b5e84c2d825b13d4"), looks := true }, kinds := [], alts := [], laidByText := true, laidKinds := [.handle], laidTests := true, laidLooks := .later }
def FaultNoneCardSaid : Prop := Claim7.holds Tryd.pinned (.plain (OpenSpec.ofChange faultNoneSpec)) faultNoneCard

/-- THE SECOND FORM's CARD OF 'roundelaylaw01.FaultCode'. -/
def faultCodeUptoCard : Claim7 := { stood := { row := faultCodeUptoRow, standIns := [], harness := (true, "7964d2a06fdc1b2ef01e5edb6c83420f3be349f4fc3be0f4b5e84c2d825b13d4"), looks := true }, kinds := [], alts := [], laidByText := true, laidKinds := [.handle], laidTests := true, laidLooks := .later }
def FaultCodeUptoCardSaid : Prop := Claim7.holds Tryd.pinned (.plain (OpenSpec.upto faultCodeSpec)) faultCodeUptoCard

/-- THE SECOND FORM's CARD OF 'roundelaylaw01.FaultText'. -/
def faultTextUptoCard : Claim7 := { stood := { row := faultTextUptoRow, standIns := [], harness := (true, "7964d2a06fdc1b2ef01e5edb6c83420f3be349f4fc3be0f4b5e84c2d825b13d4"), looks := true }, kinds := [], alts := [], laidByText := true, laidKinds := [.data, .data, .data, .handle], laidTests := true, laidLooks := .later }
def FaultTextUptoCardSaid : Prop := Claim7.holds Tryd.pinned (.plain (OpenSpec.upto faultTextSpec)) faultTextUptoCard

/-- THE SECOND FORM's CARD OF 'roundelaylaw01.FaultInner'. -/
def faultInnerUptoCard : Claim7 := { stood := { row := faultInnerUptoRow, standIns := [], harness := (true, "7964d2a06fdc1b2ef01e5edb6c83420f3be349f4fc3be0f4b5e84c2d825b13d4"), looks := true }, kinds := [], alts := [], laidByText := true, laidKinds := [.handle], laidTests := true, laidLooks := .later }
def FaultInnerUptoCardSaid : Prop := Claim7.holds Tryd.pinned (.plain (OpenSpec.upto faultInnerSpec)) faultInnerUptoCard

/-- THE SECOND FORM's CARD OF 'roundelaylaw01.FaultPlaces'. -/
def faultPlacesUptoCard : Claim7 := { stood := { row := faultPlacesUptoRow, standIns := [], harness := (true, "7964d2a06fdc1b2ef01e5edb6c83420f3be349f4fc3be0f4b5e84c2d825b13d4"), looks := true }, kinds := [], alts := [], laidByText := true, laidKinds := [.handle], laidTests := true, laidLooks := .later }
def FaultPlacesUptoCardSaid : Prop := Claim7.holds Tryd.pinned (.plain (OpenSpec.upto faultPlacesSpec)) faultPlacesUptoCard

/-- THE SECOND FORM's CARD OF 'roundelaylaw01.FaultOther'. -/
def faultOtherUptoCard : Claim7 := { stood := { row := faultOtherUptoRow, standIns := [], harness := (true, "7964d2a06fdc1b2ef01e5edb6c83420f3be349f4fc3be0f4b5e84c2d825b13d4"), looks := true }, kinds := [], alts := [], laidByText := true, laidKinds := [.handle], laidTests := true, laidLooks := .later }
def FaultOtherUptoCardSaid : Prop := Claim7.holds Tryd.pinned (.plain (OpenSpec.upto faultOtherSpec)) faultOtherUptoCard

/-- THE SECOND FORM's CARD OF 'roundelaylaw01.FaultNone'. -/
def faultNoneUptoCard : Claim7 := { stood := { row := faultNoneUptoRow, standIns := [], harness := (true, "7964d2a06fdc1b2ef01e5edb6c83420f3be349f4fc3be0f4b5e84c2d825b13d4"), looks := true }, kinds := [], alts := [], laidByText := true, laidKinds := [.handle], laidTests := true, laidLooks := .later }
def FaultNoneUptoCardSaid : Prop := Claim7.holds Tryd.pinned (.plain (OpenSpec.upto faultNoneSpec)) faultNoneUptoCard
end Rows
end Go.Proofs.YtekmfdcmnmehoaaDoor
