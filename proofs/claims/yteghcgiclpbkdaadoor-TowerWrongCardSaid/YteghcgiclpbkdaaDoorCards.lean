/-
  DERIVED. GIVEN WITH THE SEED: THE CARDS: each row of YteghcgiclpbkdaaDoorRows.lean that lists a variable, with what it lists TIED to the program's text (the seventh form; the later family's looks); each row that meets fmt, with fmt's text TOLD by the authors' own Lean function (tested against real Go, not proved from fmt's source: count such statements apart). THE CARD IS WHAT COUNTS. Prove the row's statement (the work); the ties are given (YteghcgiclpbkdaaDoorTie.lean); close each card by the builder's one call (the guide's Derived/Test/ToyasCard.lean, 'card_holds'). Laid BY PROGRAM, IN A SANDBOX (cutbox-door.mjs). By AI agents, Wed Nov 11 2026. No macro, syntax, notation, axiom, sorry.
-/
import Derived.Test.YteghcgiclpbkdaaDoorRows
import GoSem.ClaimSeven
namespace Go.Proofs.YteghcgiclpbkdaaDoor
namespace Rows

/-- THE TIED CARD OF 'roundelaylaw13.LockModes'. -/
def lockModesCard : Claim7 := { stood := { row := lockModesRow, standIns := [], harness := (true, "17ed3ed88a8173fa70ae0db1a204ad5d147f9ebf433db790233d226dc3d053a5"), looks := true }, kinds := [], alts := [], laidByText := true, laidKinds := [.handle], laidTests := true, laidLooks := .later }
def LockModesCardSaid : Prop := Claim7.holds Tryd.pinned (.plain (OpenSpec.ofChange lockModesSpec)) lockModesCard

/-- THE TIED CARD OF 'roundelaylaw13.LockSafe'. -/
def lockSafeCard : Claim7 := { stood := { row := lockSafeRow, standIns := [], harness := (true, "17ed3ed88a8173fa70ae0db1a204ad5d147f9ebf433db790233d226dc3d053a5"), looks := true }, kinds := [], alts := [], laidByText := true, laidKinds := [.handle], laidTests := true, laidLooks := .later }
def LockSafeCardSaid : Prop := Claim7.holds Tryd.pinned (.plain (OpenSpec.ofChange lockSafeSpec)) lockSafeCard

/-- THE TIED CARD OF 'roundelaylaw13.LockActs'. -/
def lockActsCard : Claim7 := { stood := { row := lockActsRow, standIns := [], harness := (true, "17ed3ed88a8173fa70ae0db1a204ad5d147f9ebf433db790233d226dc3d053a5"), looks := true }, kinds := [], alts := [], laidByText := true, laidKinds := [.handle], laidTests := true, laidLooks := .later }
def LockActsCardSaid : Prop := Claim7.holds Tryd.pinned (.plain (OpenSpec.ofChange lockActsSpec)) lockActsCard

/-- THE TIED CARD OF 'roundelaylaw13.LockNeeds'. -/
def lockNeedsCard : Claim7 := { stood := { row := lockNeedsRow, standIns := [], harness := (true, "17ed3ed88a8173fa70ae0db1a204ad5d147f9ebf433db790233d226dc3d053a5"), looks := true }, kinds := [], alts := [], laidByText := true, laidKinds := [.handle], laidTests := true, laidLooks := .later }
def LockNeedsCardSaid : Prop := Claim7.holds Tryd.pinned (.plain (OpenSpec.ofChange lockNeedsSpec)) lockNeedsCard

/-- THE TIED CARD OF 'roundelaylaw13.LockFair'. -/
def lockFairCard : Claim7 := { stood := { row := lockFairRow, standIns := [], harness := (true, "17ed3ed88a8173fa70ae0db1a204ad5d147f9ebf433db790233d226dc3d053a5"), looks := true }, kinds := [], alts := [], laidByText := true, laidKinds := [.handle], laidTests := true, laidLooks := .later }
def LockFairCardSaid : Prop := Claim7.holds Tryd.pinned (.plain (OpenSpec.ofChange lockFairSpec)) lockFairCard

/-- THE TIED CARD OF 'roundelaylaw13.LockGone'. -/
def lockGoneCard : Claim7 := { stood := { row := lockGoneRow, standIns := [], harness := (true, "17ed3ed88a8173fa70ae0db1a204ad5d147f9ebf433db790233d226dc3d053a5"), looks := true }, kinds := [], alts := [], laidByText := true, laidKinds := [.handle], laidTests := true, laidLooks := .later }
def LockGoneCardSaid : Prop := Claim7.holds Tryd.pinned (.plain (OpenSpec.ofChange lockGoneSpec)) lockGoneCard

/-- THE TIED CARD OF 'roundelaylaw14.TowerActs'. -/
def towerActsCard : Claim7 := { stood := { row := towerActsRow, standIns := [], harness := (true, "17ed3ed88a8173fa70ae0db1a204ad5d147f9ebf433db790233d226dc3d053a5"), looks := true }, kinds := [], alts := [], laidByText := true, laidKinds := [.handle], laidTests := true, laidLooks := .later }
def TowerActsCardSaid : Prop := Claim7.holds Tryd.pinned (.plain (OpenSpec.ofChange towerActsSpec)) towerActsCard

/-- THE TIED CARD OF 'roundelaylaw14.TowerWrong'. -/
def towerWrongCard : Claim7 := { stood := { row := towerWrongRow, standIns := [], harness := (true, "17ed3ed88a8173fa70ae0db1a204ad5d147f9ebf433db790233d226dc3d053a5"), looks := true }, kinds := [], alts := [], laidByText := true, laidKinds := [.handle], laidTests := true, laidLooks := .later }
def TowerWrongCardSaid : Prop := Claim7.holds Tryd.pinned (.plain (OpenSpec.ofChange towerWrongSpec)) towerWrongCard

/-- THE SECOND FORM's CARD OF 'roundelaylaw13.LockModes'. -/
def lockModesUptoCard : Claim7 := { stood := { row := lockModesUptoRow, standIns := [], harness := (true, "17ed3ed88a8173fa70ae0db1a204ad5d147f9ebf433db790233d226dc3d053a5"), looks := true }, kinds := [], alts := [], laidByText := true, laidKinds := [.handle], laidTests := true, laidLooks := .later }
def LockModesUptoCardSaid : Prop := Claim7.holds Tryd.pinned (.plain (OpenSpec.upto lockModesSpec)) lockModesUptoCard

/-- THE SECOND FORM's CARD OF 'roundelaylaw13.LockSafe'. -/
def lockSafeUptoCard : Claim7 := { stood := { row := lockSafeUptoRow, standIns := [], harness := (true, "17ed3ed88a8173fa70ae0db1a204ad5d147f9ebf433db790233d226dc3d053a5"), looks := true }, kinds := [], alts := [], laidByText := true, laidKinds := [.handle], laidTests := true, laidLooks := .later }
def LockSafeUptoCardSaid : Prop := Claim7.holds Tryd.pinned (.plain (OpenSpec.upto lockSafeSpec)) lockSafeUptoCard

/-- THE SECOND FORM's CARD OF 'roundelaylaw13.LockActs'. -/
def lockActsUptoCard : Claim7 := { stood := { row := lockActsUptoRow, standIns := [], harness := (true, "17ed3ed88a8173fa70ae0db1a204ad5d147f9ebf433db790233d226dc3d053a5"), looks := true }, kinds := [], alts := [], laidByText := true, laidKinds := [.handle], laidTests := true, laidLooks := .later }
def LockActsUptoCardSaid : Prop := Claim7.holds Tryd.pinned (.plain (OpenSpec.upto lockActsSpec)) lockActsUptoCard

/-- THE SECOND FORM's CARD OF 'roundelaylaw13.LockNeeds'. -/
def lockNeedsUptoCard : Claim7 := { stood := { row := lockNeedsUptoRow, standIns := [], harness := (true, "17ed3ed88a8173fa70ae0db1a204ad5d147f9ebf433db790233d226dc3d053a5"), looks := true }, kinds := [], alts := [], laidByText := true, laidKinds := [.handle], laidTests := true, laidLooks := .later }
def LockNeedsUptoCardSaid : Prop := Claim7.holds Tryd.pinned (.plain (OpenSpec.upto lockNeedsSpec)) lockNeedsUptoCard

/-- THE SECOND FORM's CARD OF 'roundelaylaw13.LockFair'. -/
def lockFairUptoCard : Claim7 := { stood := { row := lockFairUptoRow, standIns := [], harness := (true, "17ed3ed88a8173fa70ae0db1a204ad5d147f9ebf433db790233d226dc3d053a5"), looks := true }, kinds := [], alts := [], laidByText := true, laidKinds := [.handle], laidTests := true, laidLooks := .later }
def LockFairUptoCardSaid : Prop := Claim7.holds Tryd.pinned (.plain (OpenSpec.upto lockFairSpec)) lockFairUptoCard

/-- THE SECOND FORM's CARD OF 'roundelaylaw13.LockGone'. -/
def lockGoneUptoCard : Claim7 := { stood := { row := lockGoneUptoRow, standIns := [], harness := (true, "17ed3ed88a8173fa70ae0db1a204ad5d147f9ebf433db790233d226dc3d053a5"), looks := true }, kinds := [], alts := [], laidByText := true, laidKinds := [.handle], laidTests := true, laidLooks := .later }
def LockGoneUptoCardSaid : Prop := Claim7.holds Tryd.pinned (.plain (OpenSpec.upto lockGoneSpec)) lockGoneUptoCard

/-- THE SECOND FORM's CARD OF 'roundelaylaw14.TowerActs'. -/
def towerActsUptoCard : Claim7 := { stood := { row := towerActsUptoRow, standIns := [], harness := (true, "17ed3ed88a8173fa70ae0db1a204ad5d147f9ebf433db790233d226dc3d053a5"), looks := true }, kinds := [], alts := [], laidByText := true, laidKinds := [.handle], laidTests := true, laidLooks := .later }
def TowerActsUptoCardSaid : Prop := Claim7.holds Tryd.pinned (.plain (OpenSpec.upto towerActsSpec)) towerActsUptoCard

/-- THE SECOND FORM's CARD OF 'roundelaylaw14.TowerWrong'. -/
def towerWrongUptoCard : Claim7 := { stood := { row := towerWrongUptoRow, standIns := [], harness := (true, "17ed3ed88a8173fa70ae0db1a204ad5d147f9ebf433db790233d226dc3d053a5"), looks := true }, kinds := [], alts := [], laidByText := true, laidKinds := [.handle], laidTests := true, laidLooks := .later }
def TowerWrongUptoCardSaid : Prop := Claim7.holds Tryd.pinned (.plain (OpenSpec.upto towerWrongSpec)) towerWrongUptoCard
end Rows
end Go.Proofs.YteghcgiclpbkdaaDoor
