/-
  DERIVED. GIVEN WITH THE SEED: THE CARDS: each row of YthlioinmeimhoaaDoorRows.lean that lists a variable, with what it lists TIED to the program's text (the seventh form; the later family's looks); each row that meets fmt, with fmt's text TOLD by the authors' own Lean function (tested against real Go, not proved from fmt's source: count such statements apart). THE CARD IS WHAT COUNTS. Prove the row's statement (the work); the ties are given (YthlioinmeimhoaaDoorTie.lean); close each card by the builder's one call (the guide's Derived/Test/ToyasCard.lean, 'card_holds'). Laid BY PROGRAM, IN A SANDBOX (cutbox-door.mjs). By AI agents, Wed Nov 11 2026. No macro, syntax, notation, axiom, sorry.
-/
import Derived.Test.YthlioinmeimhoaaDoorRows
import GoSem.ClaimSeven
namespace Go.Proofs.YthlioinmeimhoaaDoor
namespace Rows

/-- THE TIED CARD OF 'roundelaylaw05.KeyPuts'. -/
def keyPutsCard : Claim7 := { stood := { row := keyPutsRow, standIns := [], harness := (true, "dbb8a4b31ee862fc8edf8c5ffef805f8dffb6725dda5a5126d7c25a6f49480eb"), looks := true }, kinds := [], alts := [], laidByText := true, laidKinds := [.data, .data, .data, .pinned], laidTests := true, laidLooks := .later }
def KeyPutsCardSaid : Prop := Claim7.holds Tryd.pinned (.plain (OpenSpec.ofChange keyPutsSpec)) keyPutsCard

/-- THE TIED CARD OF 'roundelaylaw05.KeyOrder'. -/
def keyOrderCard : Claim7 := { stood := { row := keyOrderRow, standIns := [], harness := (true, "dbb8a4b31ee862fc8edf8c5ffef805f8dffb6725dda5a5126d7c25a6f49480eb"), looks := true }, kinds := [], alts := [], laidByText := true, laidKinds := [.data, .data, .data, .pinned], laidTests := true, laidLooks := .later }
def KeyOrderCardSaid : Prop := Claim7.holds Tryd.pinned (.plain (OpenSpec.ofChange keyOrderSpec)) keyOrderCard

/-- THE TIED CARD OF 'roundelaylaw05.KeyBack'. -/
def keyBackCard : Claim7 := { stood := { row := keyBackRow, standIns := [], harness := (true, "dbb8a4b31ee862fc8edf8c5ffef805f8dffb6725dda5a5126d7c25a6f49480eb"), looks := true }, kinds := [], alts := [], laidByText := true, laidKinds := [.data, .data, .data, .pinned], laidTests := true, laidLooks := .later }
def KeyBackCardSaid : Prop := Claim7.holds Tryd.pinned (.plain (OpenSpec.ofChange keyBackSpec)) keyBackCard

/-- THE TIED CARD OF 'roundelaylaw05.KeyGets'. -/
def keyGetsCard : Claim7 := { stood := { row := keyGetsRow, standIns := [], harness := (true, "dbb8a4b31ee862fc8edf8c5ffef805f8dffb6725dda5a5126d7c25a6f49480eb"), looks := true }, kinds := [], alts := [], laidByText := true, laidKinds := [.data, .data, .data, .pinned], laidTests := true, laidLooks := .later }
def KeyGetsCardSaid : Prop := Claim7.holds Tryd.pinned (.plain (OpenSpec.ofChange keyGetsSpec)) keyGetsCard

/-- THE TIED CARD OF 'roundelaylaw05.KeyApart'. -/
def keyApartCard : Claim7 := { stood := { row := keyApartRow, standIns := [], harness := (true, "dbb8a4b31ee862fc8edf8c5ffef805f8dffb6725dda5a5126d7c25a6f49480eb"), looks := true }, kinds := [], alts := [], laidByText := true, laidKinds := [.data, .data, .data, .pinned], laidTests := true, laidLooks := .later }
def KeyApartCardSaid : Prop := Claim7.holds Tryd.pinned (.plain (OpenSpec.ofChange keyApartSpec)) keyApartCard

/-- THE TIED CARD OF 'roundelaylaw05.KeyBehind'. -/
def keyBehindCard : Claim7 := { stood := { row := keyBehindRow, standIns := [], harness := (true, "dbb8a4b31ee862fc8edf8c5ffef805f8dffb6725dda5a5126d7c25a6f49480eb"), looks := true }, kinds := [], alts := [], laidByText := true, laidKinds := [.data, .pinned], laidTests := true, laidLooks := .later }
def KeyBehindCardSaid : Prop := Claim7.holds Tryd.pinned (.plain (OpenSpec.ofChange keyBehindSpec)) keyBehindCard

/-- THE TIED CARD OF 'roundelaylaw02.TextQuote'. -/
def textQuoteCard : Claim7 := { stood := { row := textQuoteRow, standIns := [], harness := (true, "dbb8a4b31ee862fc8edf8c5ffef805f8dffb6725dda5a5126d7c25a6f49480eb"), looks := true }, kinds := [], alts := [], laidByText := true, laidKinds := [.data, .handle, .pinned], laidTests := true, laidLooks := .later }
def TextQuoteCardSaid : Prop := Claim7.holds Tryd.pinned (.plain (OpenSpec.ofChange textQuoteSpec)) textQuoteCard

/-- THE TIED CARD OF 'roundelaylaw02.TextReads'. -/
def textReadsCard : Claim7 := { stood := { row := textReadsRow, standIns := [], harness := (true, "dbb8a4b31ee862fc8edf8c5ffef805f8dffb6725dda5a5126d7c25a6f49480eb"), looks := true }, kinds := [], alts := [], laidByText := true, laidKinds := [.data, .handle, .pinned], laidTests := true, laidLooks := .later }
def TextReadsCardSaid : Prop := Claim7.holds Tryd.pinned (.plain (OpenSpec.ofChange textReadsSpec)) textReadsCard

/-- THE TIED CARD OF 'roundelaylaw02.TextBack'. -/
def textBackCard : Claim7 := { stood := { row := textBackRow, standIns := [], harness := (true, "dbb8a4b31ee862fc8edf8c5ffef805f8dffb6725dda5a5126d7c25a6f49480eb"), looks := true }, kinds := [], alts := [], laidByText := true, laidKinds := [.data, .handle, .pinned], laidTests := true, laidLooks := .later }
def TextBackCardSaid : Prop := Claim7.holds Tryd.pinned (.plain (OpenSpec.ofChange textBackSpec)) textBackCard

/-- THE TIED CARD OF 'roundelaylaw02.TextShort'. -/
def textShortCard : Claim7 := { stood := { row := textShortRow, standIns := [], harness := (true, "dbb8a4b31ee862fc8edf8c5ffef805f8dffb6725dda5a5126d7c25a6f49480eb"), looks := true }, kinds := [], alts := [], laidByText := true, laidKinds := [.data, .handle, .pinned], laidTests := true, laidLooks := .later }
def TextShortCardSaid : Prop := Claim7.holds Tryd.pinned (.plain (OpenSpec.ofChange textShortSpec)) textShortCard

/-- THE TIED CARD OF 'roundelaylaw02.TextUnits'. -/
def textUnitsCard : Claim7 := { stood := { row := textUnitsRow, standIns := [], harness := (true, "dbb8a4b31ee862fc8edf8c5ffef805f8dffb6725dda5a5126d7c25a6f49480eb"), looks := true }, kinds := [], alts := [], laidByText := true, laidKinds := [.data, .handle, .pinned], laidTests := true, laidLooks := .later }
def TextUnitsCardSaid : Prop := Claim7.holds Tryd.pinned (.plain (OpenSpec.ofChange textUnitsSpec)) textUnitsCard

/-- THE TIED CARD OF 'roundelaylaw02.TextValid'. -/
def textValidCard : Claim7 := { stood := { row := textValidRow, standIns := [], harness := (true, "dbb8a4b31ee862fc8edf8c5ffef805f8dffb6725dda5a5126d7c25a6f49480eb"), looks := true }, kinds := [], alts := [], laidByText := true, laidKinds := [.data, .handle, .pinned], laidTests := true, laidLooks := .later }
def TextValidCardSaid : Prop := Claim7.holds Tryd.pinned (.plain (OpenSpec.ofChange textValidSpec)) textValidCard

/-- THE SECOND FORM's CARD OF 'roundelaylaw05.KeyPuts'. -/
def keyPutsUptoCard : Claim7 := { stood := { row := keyPutsUptoRow, standIns := [], harness := (true, "dbb8a4b31ee862fc8edf8c5ffef805f8dffb6725dda5a5126d7c25a6f49480eb"), looks := true }, kinds := [], alts := [], laidByText := true, laidKinds := [.data, .data, .data, .pinned], laidTests := true, laidLooks := .later }
def KeyPutsUptoCardSaid : Prop := Claim7.holds Tryd.pinned (.plain (OpenSpec.upto keyPutsSpec)) keyPutsUptoCard

/-- THE SECOND FORM's CARD OF 'roundelaylaw05.KeyOrder'. -/
def keyOrderUptoCard : Claim7 := { stood := { row := keyOrderUptoRow, standIns := [], harness := (true, "dbb8a4b31ee862fc8edf8c5ffef805f8dffb6725dda5a5126d7c25a6f49480eb"), looks := true }, kinds := [], alts := [], laidByText := true, laidKinds := [.data, .data, .data, .pinned], laidTests := true, laidLooks := .later }
def KeyOrderUptoCardSaid : Prop := Claim7.holds Tryd.pinned (.plain (OpenSpec.upto keyOrderSpec)) keyOrderUptoCard

/-- THE SECOND FORM's CARD OF 'roundelaylaw05.KeyBack'. -/
def keyBackUptoCard : Claim7 := { stood := { row := keyBackUptoRow, standIns := [], harness := (true, "dbb8a4b31ee862fc8edf8c5ffef805f8dffb6725dda5a5126d7c25a6f49480eb"), looks := true }, kinds := [], alts := [], laidByText := true, laidKinds := [.data, .data, .data, .pinned], laidTests := true, laidLooks := .later }
def KeyBackUptoCardSaid : Prop := Claim7.holds Tryd.pinned (.plain (OpenSpec.upto keyBackSpec)) keyBackUptoCard

/-- THE SECOND FORM's CARD OF 'roundelaylaw05.KeyGets'. -/
def keyGetsUptoCard : Claim7 := { stood := { row := keyGetsUptoRow, standIns := [], harness := (true, "dbb8a4b31ee862fc8edf8c5ffef805f8dffb6725dda5a5126d7c25a6f49480eb"), looks := true }, kinds := [], alts := [], laidByText := true, laidKinds := [.data, .data, .data, .pinned], laidTests := true, laidLooks := .later }
def KeyGetsUptoCardSaid : Prop := Claim7.holds Tryd.pinned (.plain (OpenSpec.upto keyGetsSpec)) keyGetsUptoCard

/-- THE SECOND FORM's CARD OF 'roundelaylaw05.KeyApart'. -/
def keyApartUptoCard : Claim7 := { stood := { row := keyApartUptoRow, standIns := [], harness := (true, "dbb8a4b31ee862fc8edf8c5ffef805f8dffb6725dda5a5126d7c25a6f49480eb"), looks := true }, kinds := [], alts := [], laidByText := true, laidKinds := [.data, .data, .data, .pinned], laidTests := true, laidLooks := .later }
def KeyApartUptoCardSaid : Prop := Claim7.holds Tryd.pinned (.plain (OpenSpec.upto keyApartSpec)) keyApartUptoCard

/-- THE SECOND FORM's CARD OF 'roundelaylaw05.KeyBehind'. -/
def keyBehindUptoCard : Claim7 := { stood := { row := keyBehindUptoRow, standIns := [], harness := (true, "dbb8a4b31ee862fc8edf8c5ffef805f8dffb6725dda5a5126d7c25a6f49480eb"), looks := true }, kinds := [], alts := [], laidByText := true, laidKinds := [.data, .pinned], laidTests := true, laidLooks := .later }
def KeyBehindUptoCardSaid : Prop := Claim7.holds Tryd.pinned (.plain (OpenSpec.upto keyBehindSpec)) keyBehindUptoCard

/-- THE SECOND FORM's CARD OF 'roundelaylaw02.TextQuote'. -/
def textQuoteUptoCard : Claim7 := { stood := { row := textQuoteUptoRow, standIns := [], harness := (true, "dbb8a4b31ee862fc8edf8c5ffef805f8dffb6725dda5a5126d7c25a6f49480eb"), looks := true }, kinds := [], alts := [], laidByText := true, laidKinds := [.data, .handle, .pinned], laidTests := true, laidLooks := .later }
def TextQuoteUptoCardSaid : Prop := Claim7.holds Tryd.pinned (.plain (OpenSpec.upto textQuoteSpec)) textQuoteUptoCard

/-- THE SECOND FORM's CARD OF 'roundelaylaw02.TextReads'. -/
def textReadsUptoCard : Claim7 := { stood := { row := textReadsUptoRow, standIns := [], harness := (true, "dbb8a4b31ee862fc8edf8c5ffef805f8dffb6725dda5a5126d7c25a6f49480eb"), looks := true }, kinds := [], alts := [], laidByText := true, laidKinds := [.data, .handle, .pinned], laidTests := true, laidLooks := .later }
def TextReadsUptoCardSaid : Prop := Claim7.holds Tryd.pinned (.plain (OpenSpec.upto textReadsSpec)) textReadsUptoCard

/-- THE SECOND FORM's CARD OF 'roundelaylaw02.TextBack'. -/
def textBackUptoCard : Claim7 := { stood := { row := textBackUptoRow, standIns := [], harness := (true, "dbb8a4b31ee862fc8edf8c5ffef805f8dffb6725dda5a5126d7c25a6f49480eb"), looks := true }, kinds := [], alts := [], laidByText := true, laidKinds := [.data, .handle, .pinned], laidTests := true, laidLooks := .later }
def TextBackUptoCardSaid : Prop := Claim7.holds Tryd.pinned (.plain (OpenSpec.upto textBackSpec)) textBackUptoCard

/-- THE SECOND FORM's CARD OF 'roundelaylaw02.TextShort'. -/
def textShortUptoCard : Claim7 := { stood := { row := textShortUptoRow, standIns := [], harness := (true, "dbb8a4b31ee862fc8edf8c5ffef805f8dffb6725dda5a5126d7c25a6f49480eb"), looks := true }, kinds := [], alts := [], laidByText := true, laidKinds := [.data, .handle, .pinned], laidTests := true, laidLooks := .later }
def TextShortUptoCardSaid : Prop := Claim7.holds Tryd.pinned (.plain (OpenSpec.upto textShortSpec)) textShortUptoCard

/-- THE SECOND FORM's CARD OF 'roundelaylaw02.TextUnits'. -/
def textUnitsUptoCard : Claim7 := { stood := { row := textUnitsUptoRow, standIns := [], harness := (true, "dbb8a4b31ee862fc8edf8c5ffef805f8dffb6725dda5a5126d7c25a6f49480eb"), looks := true }, kinds := [], alts := [], laidByText := true, laidKinds := [.data, .handle, .pinned], laidTests := true, laidLooks := .later }
def TextUnitsUptoCardSaid : Prop := Claim7.holds Tryd.pinned (.plain (OpenSpec.upto textUnitsSpec)) textUnitsUptoCard

/-- THE SECOND FORM's CARD OF 'roundelaylaw02.TextValid'. -/
def textValidUptoCard : Claim7 := { stood := { row := textValidUptoRow, standIns := [], harness := (true, "dbb8a4b31ee862fc8edf8c5ffef805f8dffb6725dda5a5126d7c25a6f49480eb"), looks := true }, kinds := [], alts := [], laidByText := true, laidKinds := [.data, .handle, .pinned], laidTests := true, laidLooks := .later }
def TextValidUptoCardSaid : Prop := Claim7.holds Tryd.pinned (.plain (OpenSpec.upto textValidSpec)) textValidUptoCard
end Rows
end Go.Proofs.YthlioinmeimhoaaDoor
