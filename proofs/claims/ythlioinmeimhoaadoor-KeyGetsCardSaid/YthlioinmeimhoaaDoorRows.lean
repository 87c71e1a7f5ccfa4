/-
  NARROWER THAN 'FOR EVERY INPUT', by the rows' own cells (each row's printed sentence says how): KeyPuts: laid · KeyOrder: laid · KeyBack: laid · KeyGets: laid · KeyApart: laid · KeyBehind: laid · TextQuote: laid · TextReads: laid · TextBack: laid · TextShort: laid · TextUnits: laid · TextValid: laid.
  DERIVED. THE GIVEN ROWS OF THIS SEAT. 12 by the template 'for every input the law returns true; each argument reads behind the call as it read before'; 0 by the template 'total and deterministic' (their statements: YthlioinmeimhoaaDoorTotals.lean).
  GIVEN WITH THE SEED: the statements are not yours to turn. If you find one false, say at which input.
  Laid BY PROGRAM, IN A SANDBOX (cutbox-rows.mjs): the forced cells as the released guide's own fill.sh prints them over the translation 68d846e93554251d… (all of the seat's roots in one cut). By AI agents, Wed Nov 11 2026. No macro, syntax, notation, axiom, sorry.
-/
import Derived.Test.YthlioinmeimhoaaDoorChecked
import GoSem.PinnedTables
import GoSem.Claim
import GoSem.ClaimJoined
import GoSem.ClaimMapViews
import Derived.JoinedTies
import Derived.KernelRfl
namespace Go.Proofs.YthlioinmeimhoaaDoor
/- THE CELL 'sum', in the pinned program and in every row, IS THE sha256 OF THE DUMP (.gsa) THAT YthlioinmeimhoaaDoorProg.lean LOADS. Nothing in Lean hashes anything: it is a label: what it is worth is what the hold of that sum in a sandbox is worth. -/
noncomputable def Tryd.pinned : Pinned := { name := "ythlioinmeimhoaadoor", sum := "68d846e93554251d2d31644e042153774a67f3f86ba9c3d9eeb356026efff470", checked := Tryd.checked }
namespace Rows
def none {H : Type} : Left H := { results := [], args := [] }

/- WHAT THE LISTED PACKAGE-LEVEL VARIABLES READ AS WHEN THE CALL BEGINS. Each datum BY PROGRAM (the guide's laid-datum.mjs) off the statement by which the dump's own 'gosem.cut.vars' lays the variable. In a bare row this is a premise. The card (YthlioinmeimhoaaDoorCards.lean) ties it to the program's text. -/
def laid_unicode_utf8_acceptRanges {H : Type} : DataW H := .agg [.agg [.lit (.int .u8 128), .lit (.int .u8 191)], .agg [.lit (.int .u8 160), .lit (.int .u8 191)], .agg [.lit (.int .u8 128), .lit (.int .u8 159)], .agg [.lit (.int .u8 144), .lit (.int .u8 191)], .agg [.lit (.int .u8 128), .lit (.int .u8 143)], .agg [.lit (.int .u8 0), .lit (.int .u8 0)], .agg [.lit (.int .u8 0), .lit (.int .u8 0)], .agg [.lit (.int .u8 0), .lit (.int .u8 0)], .agg [.lit (.int .u8 0), .lit (.int .u8 0)], .agg [.lit (.int .u8 0), .lit (.int .u8 0)], .agg [.lit (.int .u8 0), .lit (.int .u8 0)], .agg [.lit (.int .u8 0), .lit (.int .u8 0)], .agg [.lit (.int .u8 0), .lit (.int .u8 0)], .agg [.lit (.int .u8 0), .lit (.int .u8 0)], .agg [.lit (.int .u8 0), .lit (.int .u8 0)], .agg [.lit (.int .u8 0), .lit (.int .u8 0)]]
def laid_roundelay_roundelaylaw03_words {H : Type} : DataW H := .agg [.lit (.string []), .lit (.string [97]), .lit (.string [98]), .lit (.string [97, 98]), .lit (.string [0]), .lit (.string [195, 169]), .lit (.string [122, 0]), .lit (.string [108, 111, 110, 103, 44, 32, 97, 110, 100, 32, 108, 111, 110, 103, 101, 114])]
def laid_roundelay_roundelaylaw03_names {H : Type} : DataW H := .agg [.lit (.string [97]), .lit (.string [98]), .lit (.string [99]), .lit (.string [110])]
/-- One of Go's own tables, pinned by name: the form's constant. -/
def laid_unicode_utf8_first : DataW Unit := Go.Pinned.utf8First
def laid_errors_errorType {H : Type} : DataW H := .iface "internal/reflectlite.rtype" (.agg [.ptr (.lit (.string [101, 114, 114, 111, 114]))])

/-- 'roundelaylaw05.KeyPuts': WHATEVER THE INPUT: true; the input reads as it did. -/
def keyPutsSpec : ChangeSpec := { name := "keyPuts", fn := fun _ => fun
  | [d] => { results := [.lit (.bool true)], args := [d] }
  | _ => none }
def keyPutsRow : OpenClaim := { program := "ythlioinmeimhoaadoor", sum := "68d846e93554251d2d31644e042153774a67f3f86ba9c3d9eeb356026efff470", func := "roundelay/roundelaylaw05.KeyPuts", spec := "keyPuts", inPlace := ["internal/abi.NoEscape", "internal/bytealg.CountString", "internal/bytealg.IndexByteString", "internal/bytealg.IndexString", "internal/bytealg.MakeNoZero", "internal/bytealg.abigen_runtime_cmpstring"], unfollowed := true, recurses := true, named := ["internal/bytealg.MaxLen", "unicode/utf8.first", "unicode/utf8.acceptRanges", "roundelay/roundelaylaw03.words", "roundelay/roundelaylaw03.names"], apart := false, laid := [("unicode/utf8.acceptRanges", laid_unicode_utf8_acceptRanges), ("roundelay/roundelaylaw03.words", laid_roundelay_roundelaylaw03_words), ("roundelay/roundelaylaw03.names", laid_roundelay_roundelaylaw03_names), ("unicode/utf8.first", laid_unicode_utf8_first)] }
def KeyPutsSaid : Prop := keyPutsRow.holds Tryd.pinned (OpenSpec.ofChange keyPutsSpec)

/-- ITS FALSE NEIGHBOUR: 'it returns false'. Refute it at one input. -/
def keyPutsWrong : ChangeSpec := { name := "keyPuts", fn := fun _ => fun
  | [d] => { results := [.lit (.bool false)], args := [d] }
  | _ => none }
def KeyPutsWrongFalsely : Prop := keyPutsRow.holds Tryd.pinned (OpenSpec.ofChange keyPutsWrong)

/-- 'roundelaylaw05.KeyOrder': WHATEVER THE INPUT: true; the input reads as it did. -/
def keyOrderSpec : ChangeSpec := { name := "keyOrder", fn := fun _ => fun
  | [d1, d2] => { results := [.lit (.bool true)], args := [d1, d2] }
  | _ => none }
def keyOrderRow : OpenClaim := { program := "ythlioinmeimhoaadoor", sum := "68d846e93554251d2d31644e042153774a67f3f86ba9c3d9eeb356026efff470", func := "roundelay/roundelaylaw05.KeyOrder", spec := "keyOrder", inPlace := ["internal/abi.NoEscape", "internal/bytealg.CountString", "internal/bytealg.IndexByteString", "internal/bytealg.IndexString", "internal/bytealg.MakeNoZero", "internal/bytealg.abigen_runtime_cmpstring"], unfollowed := true, recurses := true, named := ["internal/bytealg.MaxLen", "unicode/utf8.first", "unicode/utf8.acceptRanges", "roundelay/roundelaylaw03.words", "roundelay/roundelaylaw03.names"], apart := false, laid := [("unicode/utf8.acceptRanges", laid_unicode_utf8_acceptRanges), ("roundelay/roundelaylaw03.words", laid_roundelay_roundelaylaw03_words), ("roundelay/roundelaylaw03.names", laid_roundelay_roundelaylaw03_names), ("unicode/utf8.first", laid_unicode_utf8_first)] }
def KeyOrderSaid : Prop := keyOrderRow.holds Tryd.pinned (OpenSpec.ofChange keyOrderSpec)

/-- ITS FALSE NEIGHBOUR: 'it returns false'. Refute it at one input. -/
def keyOrderWrong : ChangeSpec := { name := "keyOrder", fn := fun _ => fun
  | [d1, d2] => { results := [.lit (.bool false)], args := [d1, d2] }
  | _ => none }
def KeyOrderWrongFalsely : Prop := keyOrderRow.holds Tryd.pinned (OpenSpec.ofChange keyOrderWrong)

/-- 'roundelaylaw05.KeyBack': WHATEVER THE INPUT: true; the input reads as it did. -/
def keyBackSpec : ChangeSpec := { name := "keyBack", fn := fun _ => fun
  | [d] => { results := [.lit (.bool true)], args := [d] }
  | _ => none }
def keyBackRow : OpenClaim := { program := "ythlioinmeimhoaadoor", sum := "68d846e93554251d2d31644e042153774a67f3f86ba9c3d9eeb356026efff470", func := "roundelay/roundelaylaw05.KeyBack", spec := "keyBack", inPlace := ["internal/abi.NoEscape", "internal/bytealg.CountString", "internal/bytealg.IndexByteString", "internal/bytealg.IndexString", "internal/bytealg.MakeNoZero", "internal/bytealg.abigen_runtime_cmpstring"], unfollowed := true, recurses := true, named := ["internal/bytealg.MaxLen", "unicode/utf8.first", "unicode/utf8.acceptRanges", "roundelay/roundelaylaw03.words", "roundelay/roundelaylaw03.names"], apart := false, laid := [("unicode/utf8.acceptRanges", laid_unicode_utf8_acceptRanges), ("roundelay/roundelaylaw03.words", laid_roundelay_roundelaylaw03_words), ("roundelay/roundelaylaw03.names", laid_roundelay_roundelaylaw03_names), ("unicode/utf8.first", laid_unicode_utf8_first)] }
def KeyBackSaid : Prop := keyBackRow.holds Tryd.pinned (OpenSpec.ofChange keyBackSpec)

/-- ITS FALSE NEIGHBOUR: 'it returns false'. Refute it at one input. -/
def keyBackWrong : ChangeSpec := { name := "keyBack", fn := fun _ => fun
  | [d] => { results := [.lit (.bool false)], args := [d] }
  | _ => none }
def KeyBackWrongFalsely : Prop := keyBackRow.holds Tryd.pinned (OpenSpec.ofChange keyBackWrong)

/-- 'roundelaylaw05.KeyGets': WHATEVER THE INPUT: true; the input reads as it did. -/
def keyGetsSpec : ChangeSpec := { name := "keyGets", fn := fun _ => fun
  | [d1, d2, d3, d4, d5] => { results := [.lit (.bool true)], args := [d1, d2, d3, d4, d5] }
  | _ => none }
def keyGetsRow : OpenClaim := { program := "ythlioinmeimhoaadoor", sum := "68d846e93554251d2d31644e042153774a67f3f86ba9c3d9eeb356026efff470", func := "roundelay/roundelaylaw05.KeyGets", spec := "keyGets", inPlace := ["internal/abi.NoEscape", "internal/bytealg.CountString", "internal/bytealg.IndexByteString", "internal/bytealg.IndexString", "internal/bytealg.MakeNoZero", "internal/bytealg.abigen_runtime_cmpstring"], unfollowed := true, recurses := true, named := ["internal/bytealg.MaxLen", "unicode/utf8.first", "unicode/utf8.acceptRanges", "roundelay/roundelaylaw03.words", "roundelay/roundelaylaw03.names"], apart := false, laid := [("unicode/utf8.acceptRanges", laid_unicode_utf8_acceptRanges), ("roundelay/roundelaylaw03.words", laid_roundelay_roundelaylaw03_words), ("roundelay/roundelaylaw03.names", laid_roundelay_roundelaylaw03_names), ("unicode/utf8.first", laid_unicode_utf8_first)] }
def KeyGetsSaid : Prop := keyGetsRow.holds Tryd.pinned (OpenSpec.ofChange keyGetsSpec)

/-- ITS FALSE NEIGHBOUR: 'it returns false'. Refute it at one input. -/
def keyGetsWrong : ChangeSpec := { name := "keyGets", fn := fun _ => fun
  | [d1, d2, d3, d4, d5] => { results := [.lit (.bool false)], args := [d1, d2, d3, d4, d5] }
  | _ => none }
def KeyGetsWrongFalsely : Prop := keyGetsRow.holds Tryd.pinned (OpenSpec.ofChange keyGetsWrong)

/-- 'roundelaylaw05.KeyApart': WHATEVER THE INPUT: true; the input reads as it did. -/
def keyApartSpec : ChangeSpec := { name := "keyApart", fn := fun _ => fun
  | [d1, d2, d3] => { results := [.lit (.bool true)], args := [d1, d2, d3] }
  | _ => none }
def keyApartRow : OpenClaim := { program := "ythlioinmeimhoaadoor", sum := "68d846e93554251d2d31644e042153774a67f3f86ba9c3d9eeb356026efff470", func := "roundelay/roundelaylaw05.KeyApart", spec := "keyApart", inPlace := ["internal/abi.NoEscape", "internal/bytealg.CountString", "internal/bytealg.IndexByteString", "internal/bytealg.IndexString", "internal/bytealg.MakeNoZero", "internal/bytealg.abigen_runtime_cmpstring"], unfollowed := true, recurses := true, named := ["internal/bytealg.MaxLen", "unicode/utf8.first", "unicode/utf8.acceptRanges", "roundelay/roundelaylaw03.words", "roundelay/roundelaylaw03.names"], apart := false, laid := [("unicode/utf8.acceptRanges", laid_unicode_utf8_acceptRanges), ("roundelay/roundelaylaw03.words", laid_roundelay_roundelaylaw03_words), ("roundelay/roundelaylaw03.names", laid_roundelay_roundelaylaw03_names), ("unicode/utf8.first", laid_unicode_utf8_first)] }
def KeyApartSaid : Prop := keyApartRow.holds Tryd.pinned (OpenSpec.ofChange keyApartSpec)

/-- ITS FALSE NEIGHBOUR: 'it returns false'. Refute it at one input. -/
def keyApartWrong : ChangeSpec := { name := "keyApart", fn := fun _ => fun
  | [d1, d2, d3] => { results := [.lit (.bool false)], args := [d1, d2, d3] }
  | _ => none }
def KeyApartWrongFalsely : Prop := keyApartRow.holds Tryd.pinned (OpenSpec.ofChange keyApartWrong)

/-- 'roundelaylaw05.KeyBehind': WHATEVER THE INPUT: true; the input reads as it did. -/
def keyBehindSpec : ChangeSpec := { name := "keyBehind", fn := fun _ => fun
  | [d1, d2] => { results := [.lit (.bool true)], args := [d1, d2] }
  | _ => none }
def keyBehindRow : OpenClaim := { program := "ythlioinmeimhoaadoor", sum := "68d846e93554251d2d31644e042153774a67f3f86ba9c3d9eeb356026efff470", func := "roundelay/roundelaylaw05.KeyBehind", spec := "keyBehind", inPlace := ["internal/abi.NoEscape", "internal/bytealg.CountString", "internal/bytealg.IndexByteString", "internal/bytealg.IndexString", "internal/bytealg.MakeNoZero", "internal/bytealg.abigen_runtime_cmpstring"], unfollowed := true, recurses := true, named := ["internal/bytealg.MaxLen", "unicode/utf8.first", "unicode/utf8.acceptRanges"], apart := false, laid := [("unicode/utf8.acceptRanges", laid_unicode_utf8_acceptRanges), ("unicode/utf8.first", laid_unicode_utf8_first)] }
def KeyBehindSaid : Prop := keyBehindRow.holds Tryd.pinned (OpenSpec.ofChange keyBehindSpec)

/-- ITS FALSE NEIGHBOUR: 'it returns false'. Refute it at one input. -/
def keyBehindWrong : ChangeSpec := { name := "keyBehind", fn := fun _ => fun
  | [d1, d2] => { results := [.lit (.bool false)], args := [d1, d2] }
  | _ => none }
def KeyBehindWrongFalsely : Prop := keyBehindRow.holds Tryd.pinned (OpenSpec.ofChange keyBehindWrong)

/-- 'roundelaylaw02.TextQuote': WHATEVER THE INPUT: true; the input reads as it did. -/
def textQuoteSpec : ChangeSpec := { name := "textQuote", fn := fun _ => fun
  | [d] => { results := [.lit (.bool true)], args := [d] }
  | _ => none }
def textQuoteRow : OpenClaim := { program := "ythlioinmeimhoaadoor", sum := "68d846e93554251d2d31644e042153774a67f3f86ba9c3d9eeb356026efff470", func := "roundelay/roundelaylaw02.TextQuote", spec := "textQuote", inPlace := ["internal/reflectlite.TypeOf", "internal/bytealg.IndexByteString", "internal/abi.NoEscape", "internal/reflectlite.ValueOf", "(internal/reflectlite.Value).Type", "(internal/reflectlite.Value).IsNil", "(internal/reflectlite.Value).Elem", "(internal/reflectlite.Value).Set", "internal/bytealg.IndexString"], unfollowed := true, recurses := true, named := ["unicode/utf8.first", "unicode/utf8.acceptRanges", "errors.errorType", "internal/bytealg.MaxLen"], apart := false, laid := [("unicode/utf8.acceptRanges", laid_unicode_utf8_acceptRanges), ("errors.errorType", laid_errors_errorType), ("unicode/utf8.first", laid_unicode_utf8_first)] }
def TextQuoteSaid : Prop := textQuoteRow.holds Tryd.pinned (OpenSpec.ofChange textQuoteSpec)

/-- ITS FALSE NEIGHBOUR: 'it returns false'. Refute it at one input. -/
def textQuoteWrong : ChangeSpec := { name := "textQuote", fn := fun _ => fun
  | [d] => { results := [.lit (.bool false)], args := [d] }
  | _ => none }
def TextQuoteWrongFalsely : Prop := textQuoteRow.holds Tryd.pinned (OpenSpec.ofChange textQuoteWrong)

/-- 'roundelaylaw02.TextReads': WHATEVER THE INPUT: true; the input reads as it did. -/
def textReadsSpec : ChangeSpec := { name := "textReads", fn := fun _ => fun
  | [d1, d2, d3, d4] => { results := [.lit (.bool true)], args := [d1, d2, d3, d4] }
  | _ => none }
def textReadsRow : OpenClaim := { program := "ythlioinmeimhoaadoor", sum := "68d846e93554251d2d31644e042153774a67f3f86ba9c3d9eeb356026efff470", func := "roundelay/roundelaylaw02.TextReads", spec := "textReads", inPlace := ["internal/reflectlite.TypeOf", "internal/bytealg.IndexByteString", "internal/abi.NoEscape", "internal/reflectlite.ValueOf", "(internal/reflectlite.Value).Type", "(internal/reflectlite.Value).IsNil", "(internal/reflectlite.Value).Elem", "(internal/reflectlite.Value).Set", "internal/bytealg.IndexString"], unfollowed := true, recurses := true, named := ["unicode/utf8.first", "unicode/utf8.acceptRanges", "errors.errorType", "internal/bytealg.MaxLen"], apart := false, laid := [("unicode/utf8.acceptRanges", laid_unicode_utf8_acceptRanges), ("errors.errorType", laid_errors_errorType), ("unicode/utf8.first", laid_unicode_utf8_first)] }
def TextReadsSaid : Prop := textReadsRow.holds Tryd.pinned (OpenSpec.ofChange textReadsSpec)

/-- ITS FALSE NEIGHBOUR: 'it returns false'. Refute it at one input. -/
def textReadsWrong : ChangeSpec := { name := "textReads", fn := fun _ => fun
  | [d1, d2, d3, d4] => { results := [.lit (.bool false)], args := [d1, d2, d3, d4] }
  | _ => none }
def TextReadsWrongFalsely : Prop := textReadsRow.holds Tryd.pinned (OpenSpec.ofChange textReadsWrong)

/-- 'roundelaylaw02.TextBack': WHATEVER THE INPUT: true; the input reads as it did. -/
def textBackSpec : ChangeSpec := { name := "textBack", fn := fun _ => fun
  | [d1, d2] => { results := [.lit (.bool true)], args := [d1, d2] }
  | _ => none }
def textBackRow : OpenClaim := { program := "ythlioinmeimhoaadoor", sum := "68d846e93554251d2d31644e042153774a67f3f86ba9c3d9eeb356026efff470", func := "roundelay/roundelaylaw02.TextBack", spec := "textBack", inPlace := ["internal/reflectlite.TypeOf", "internal/bytealg.IndexByteString", "internal/abi.NoEscape", "internal/reflectlite.ValueOf", "(internal/reflectlite.Value).Type", "(internal/reflectlite.Value).IsNil", "(internal/reflectlite.Value).Elem", "(internal/reflectlite.Value).Set", "internal/bytealg.IndexString"], unfollowed := true, recurses := true, named := ["unicode/utf8.first", "unicode/utf8.acceptRanges", "errors.errorType", "internal/bytealg.MaxLen"], apart := false, laid := [("unicode/utf8.acceptRanges", laid_unicode_utf8_acceptRanges), ("errors.errorType", laid_errors_errorType), ("unicode/utf8.first", laid_unicode_utf8_first)] }
def TextBackSaid : Prop := textBackRow.holds Tryd.pinned (OpenSpec.ofChange textBackSpec)

/-- ITS FALSE NEIGHBOUR: 'it returns false'. Refute it at one input. -/
def textBackWrong : ChangeSpec := { name := "textBack", fn := fun _ => fun
  | [d1, d2] => { results := [.lit (.bool false)], args := [d1, d2] }
  | _ => none }
def TextBackWrongFalsely : Prop := textBackRow.holds Tryd.pinned (OpenSpec.ofChange textBackWrong)

/-- 'roundelaylaw02.TextShort': WHATEVER THE INPUT: true; the input reads as it did. -/
def textShortSpec : ChangeSpec := { name := "textShort", fn := fun _ => fun
  | [d1, d2] => { results := [.lit (.bool true)], args := [d1, d2] }
  | _ => none }
def textShortRow : OpenClaim := { program := "ythlioinmeimhoaadoor", sum := "68d846e93554251d2d31644e042153774a67f3f86ba9c3d9eeb356026efff470", func := "roundelay/roundelaylaw02.TextShort", spec := "textShort", inPlace := ["internal/reflectlite.TypeOf", "internal/bytealg.IndexByteString", "internal/abi.NoEscape", "internal/reflectlite.ValueOf", "(internal/reflectlite.Value).Type", "(internal/reflectlite.Value).IsNil", "(internal/reflectlite.Value).Elem", "(internal/reflectlite.Value).Set", "internal/bytealg.IndexString"], unfollowed := true, recurses := true, named := ["unicode/utf8.first", "unicode/utf8.acceptRanges", "errors.errorType", "internal/bytealg.MaxLen"], apart := false, laid := [("unicode/utf8.acceptRanges", laid_unicode_utf8_acceptRanges), ("errors.errorType", laid_errors_errorType), ("unicode/utf8.first", laid_unicode_utf8_first)] }
def TextShortSaid : Prop := textShortRow.holds Tryd.pinned (OpenSpec.ofChange textShortSpec)

/-- ITS FALSE NEIGHBOUR: 'it returns false'. Refute it at one input. -/
def textShortWrong : ChangeSpec := { name := "textShort", fn := fun _ => fun
  | [d1, d2] => { results := [.lit (.bool false)], args := [d1, d2] }
  | _ => none }
def TextShortWrongFalsely : Prop := textShortRow.holds Tryd.pinned (OpenSpec.ofChange textShortWrong)

/-- 'roundelaylaw02.TextUnits': WHATEVER THE INPUT: true; the input reads as it did. -/
def textUnitsSpec : ChangeSpec := { name := "textUnits", fn := fun _ => fun
  | [d1, d2, d3] => { results := [.lit (.bool true)], args := [d1, d2, d3] }
  | _ => none }
def textUnitsRow : OpenClaim := { program := "ythlioinmeimhoaadoor", sum := "68d846e93554251d2d31644e042153774a67f3f86ba9c3d9eeb356026efff470", func := "roundelay/roundelaylaw02.TextUnits", spec := "textUnits", inPlace := ["internal/reflectlite.TypeOf", "internal/bytealg.IndexByteString", "internal/abi.NoEscape", "internal/reflectlite.ValueOf", "(internal/reflectlite.Value).Type", "(internal/reflectlite.Value).IsNil", "(internal/reflectlite.Value).Elem", "(internal/reflectlite.Value).Set", "internal/bytealg.IndexString"], unfollowed := true, recurses := true, named := ["unicode/utf8.first", "unicode/utf8.acceptRanges", "errors.errorType", "internal/bytealg.MaxLen"], apart := false, laid := [("unicode/utf8.acceptRanges", laid_unicode_utf8_acceptRanges), ("errors.errorType", laid_errors_errorType), ("unicode/utf8.first", laid_unicode_utf8_first)] }
def TextUnitsSaid : Prop := textUnitsRow.holds Tryd.pinned (OpenSpec.ofChange textUnitsSpec)

/-- ITS FALSE NEIGHBOUR: 'it returns false'. Refute it at one input. -/
def textUnitsWrong : ChangeSpec := { name := "textUnits", fn := fun _ => fun
  | [d1, d2, d3] => { results := [.lit (.bool false)], args := [d1, d2, d3] }
  | _ => none }
def TextUnitsWrongFalsely : Prop := textUnitsRow.holds Tryd.pinned (OpenSpec.ofChange textUnitsWrong)

/-- 'roundelaylaw02.TextValid': WHATEVER THE INPUT: true; the input reads as it did. -/
def textValidSpec : ChangeSpec := { name := "textValid", fn := fun _ => fun
  | [d] => { results := [.lit (.bool true)], args := [d] }
  | _ => none }
def textValidRow : OpenClaim := { program := "ythlioinmeimhoaadoor", sum := "68d846e93554251d2d31644e042153774a67f3f86ba9c3d9eeb356026efff470", func := "roundelay/roundelaylaw02.TextValid", spec := "textValid", inPlace := ["internal/reflectlite.TypeOf", "internal/bytealg.IndexByteString", "internal/abi.NoEscape", "internal/reflectlite.ValueOf", "(internal/reflectlite.Value).Type", "(internal/reflectlite.Value).IsNil", "(internal/reflectlite.Value).Elem", "(internal/reflectlite.Value).Set", "internal/bytealg.IndexString"], unfollowed := true, recurses := true, named := ["unicode/utf8.first", "unicode/utf8.acceptRanges", "errors.errorType", "internal/bytealg.MaxLen"], apart := false, laid := [("unicode/utf8.acceptRanges", laid_unicode_utf8_acceptRanges), ("errors.errorType", laid_errors_errorType), ("unicode/utf8.first", laid_unicode_utf8_first)] }
def TextValidSaid : Prop := textValidRow.holds Tryd.pinned (OpenSpec.ofChange textValidSpec)

/-- ITS FALSE NEIGHBOUR: 'it returns false'. Refute it at one input. -/
def textValidWrong : ChangeSpec := { name := "textValid", fn := fun _ => fun
  | [d] => { results := [.lit (.bool false)], args := [d] }
  | _ => none }
def TextValidWrongFalsely : Prop := textValidRow.holds Tryd.pinned (OpenSpec.ofChange textValidWrong)

/- THE SECOND FORM. 'bulk': how many values and letters a reading holds, each counted each time it is reached (what is shared counts as often as it is met; a slice's spare places count too). A statement '..UptoSaid' is the law's where the arguments, and the package variables that the reading takes, are together of bulk at most 1048576: NARROWER than '..Said'. Prove '..Said' where nothing that the law and all that it calls make is longer than what came in: it says more and counts as full. Else prove '..UptoSaid'. A law counts once. -/
mutual
def uptoBulk {H : Type} : DataW H → Nat
  | .lit (.string bytes) => bytes.length + 1
  | .lit _ => 1
  | .nil => 1
  | .ptr d => uptoBulk d + 1
  | .slice elems spare => uptoBulkAll elems + uptoBulkAll spare + 1
  | .agg parts => uptoBulkAll parts + 1
  | .iface _ d => uptoBulk d + 1
  | .map entries => uptoBulkEntries entries + 1
  | .held _ => 1
def uptoBulkAll {H : Type} : List (DataW H) → Nat
  | [] => 0
  | d :: r => uptoBulk d + uptoBulkAll r
def uptoBulkEntries {H : Type} : List (Lit × DataW H) → Nat
  | [] => 0
  | x :: r => uptoBulkEntry x + uptoBulkEntries r
def uptoBulkEntry {H : Type} : Lit × DataW H → Nat
  | (.string bytes, d) => bytes.length + uptoBulk d + 1
  | (_, d) => uptoBulk d + 1
 end
def uptoSmall : (H : Type) → List (DataW H) → Bool := fun _ ds => decide (uptoBulkAll ds ≤ 1048576)
def OpenSpec.upto (s : _root_.Go.ChangeSpec) : _root_.Go.OpenSpec := { _root_.Go.OpenSpec.ofChange s with cond := some uptoSmall }

/-- 'roundelaylaw05.KeyPuts', WHERE WHAT IT READS IS OF BULK AT MOST 1048576: true; the input reads as it did. -/
def keyPutsUptoRow : OpenClaim := { program := "ythlioinmeimhoaadoor", sum := "68d846e93554251d2d31644e042153774a67f3f86ba9c3d9eeb356026efff470", func := "roundelay/roundelaylaw05.KeyPuts", spec := "keyPuts", inPlace := ["internal/abi.NoEscape", "internal/bytealg.CountString", "internal/bytealg.IndexByteString", "internal/bytealg.IndexString", "internal/bytealg.MakeNoZero", "internal/bytealg.abigen_runtime_cmpstring"], unfollowed := true, recurses := true, named := ["internal/bytealg.MaxLen", "unicode/utf8.first", "unicode/utf8.acceptRanges", "roundelay/roundelaylaw03.words", "roundelay/roundelaylaw03.names"], apart := false, laid := [("unicode/utf8.acceptRanges", laid_unicode_utf8_acceptRanges), ("roundelay/roundelaylaw03.words", laid_roundelay_roundelaylaw03_words), ("roundelay/roundelaylaw03.names", laid_roundelay_roundelaylaw03_names), ("unicode/utf8.first", laid_unicode_utf8_first)], narrowed := true }
def KeyPutsUptoSaid : Prop := keyPutsUptoRow.holds Tryd.pinned (OpenSpec.upto keyPutsSpec)

/-- 'roundelaylaw05.KeyOrder', WHERE WHAT IT READS IS OF BULK AT MOST 1048576: true; the input reads as it did. -/
def keyOrderUptoRow : OpenClaim := { program := "ythlioinmeimhoaadoor", sum := "68d846e93554251d2d31644e042153774a67f3f86ba9c3d9eeb356026efff470", func := "roundelay/roundelaylaw05.KeyOrder", spec := "keyOrder", inPlace := ["internal/abi.NoEscape", "internal/bytealg.CountString", "internal/bytealg.IndexByteString", "internal/bytealg.IndexString", "internal/bytealg.MakeNoZero", "internal/bytealg.abigen_runtime_cmpstring"], unfollowed := true, recurses := true, named := ["internal/bytealg.MaxLen", "unicode/utf8.first", "unicode/utf8.acceptRanges", "roundelay/roundelaylaw03.words", "roundelay/roundelaylaw03.names"], apart := false, laid := [("unicode/utf8.acceptRanges", laid_unicode_utf8_acceptRanges), ("roundelay/roundelaylaw03.words", laid_roundelay_roundelaylaw03_words), ("roundelay/roundelaylaw03.names", laid_roundelay_roundelaylaw03_names), ("unicode/utf8.first", laid_unicode_utf8_first)], narrowed := true }
def KeyOrderUptoSaid : Prop := keyOrderUptoRow.holds Tryd.pinned (OpenSpec.upto keyOrderSpec)

/-- 'roundelaylaw05.KeyBack', WHERE WHAT IT READS IS OF BULK AT MOST 1048576: true; the input reads as it did. -/
def keyBackUptoRow : OpenClaim := { program := "ythlioinmeimhoaadoor", sum := "68d846e93554251d2d31644e042153774a67f3f86ba9c3d9eeb356026efff470", func := "roundelay/roundelaylaw05.KeyBack", spec := "keyBack", inPlace := ["internal/abi.NoEscape", "internal/bytealg.CountString", "internal/bytealg.IndexByteString", "internal/bytealg.IndexString", "internal/bytealg.MakeNoZero", "internal/bytealg.abigen_runtime_cmpstring"], unfollowed := true, recurses := true, named := ["internal/bytealg.MaxLen", "unicode/utf8.first", "unicode/utf8.acceptRanges", "roundelay/roundelaylaw03.words", "roundelay/roundelaylaw03.names"], apart := false, laid := [("unicode/utf8.acceptRanges", laid_unicode_utf8_acceptRanges), ("roundelay/roundelaylaw03.words", laid_roundelay_roundelaylaw03_words), ("roundelay/roundelaylaw03.names", laid_roundelay_roundelaylaw03_names), ("unicode/utf8.first", laid_unicode_utf8_first)], narrowed := true }
def KeyBackUptoSaid : Prop := keyBackUptoRow.holds Tryd.pinned (OpenSpec.upto keyBackSpec)

/-- 'roundelaylaw05.KeyGets', WHERE WHAT IT READS IS OF BULK AT MOST 1048576: true; the input reads as it did. -/
def keyGetsUptoRow : OpenClaim := { program := "ythlioinmeimhoaadoor", sum := "68d846e93554251d2d31644e042153774a67f3f86ba9c3d9eeb356026efff470", func := "roundelay/roundelaylaw05.KeyGets", spec := "keyGets", inPlace := ["internal/abi.NoEscape", "internal/bytealg.CountString", "internal/bytealg.IndexByteString", "internal/bytealg.IndexString", "internal/bytealg.MakeNoZero", "internal/bytealg.abigen_runtime_cmpstring"], unfollowed := true, recurses := true, named := ["internal/bytealg.MaxLen", "unicode/utf8.first", "unicode/utf8.acceptRanges", "roundelay/roundelaylaw03.words", "roundelay/roundelaylaw03.names"], apart := false, laid := [("unicode/utf8.acceptRanges", laid_unicode_utf8_acceptRanges), ("roundelay/roundelaylaw03.words", laid_roundelay_roundelaylaw03_words), ("roundelay/roundelaylaw03.names", laid_roundelay_roundelaylaw03_names), ("unicode/utf8.first", laid_unicode_utf8_first)], narrowed := true }
def KeyGetsUptoSaid : Prop := keyGetsUptoRow.holds Tryd.pinned (OpenSpec.upto keyGetsSpec)

/-- 'roundelaylaw05.KeyApart', WHERE WHAT IT READS IS OF BULK AT MOST 1048576: true; the input reads as it did. -/
def keyApartUptoRow : OpenClaim := { program := "ythlioinmeimhoaadoor", sum := "68d846e93554251d2d31644e042153774a67f3f86ba9c3d9eeb356026efff470", func := "roundelay/roundelaylaw05.KeyApart", spec := "keyApart", inPlace := ["internal/abi.NoEscape", "internal/bytealg.CountString", "internal/bytealg.IndexByteString", "internal/bytealg.IndexString", "internal/bytealg.MakeNoZero", "internal/bytealg.abigen_runtime_cmpstring"], unfollowed := true, recurses := true, named := ["internal/bytealg.MaxLen", "unicode/utf8.first", "unicode/utf8.acceptRanges", "roundelay/roundelaylaw03.words", "roundelay/roundelaylaw03.names"], apart := false, laid := [("unicode/utf8.acceptRanges", laid_unicode_utf8_acceptRanges), ("roundelay/roundelaylaw03.words", laid_roundelay_roundelaylaw03_words), ("roundelay/roundelaylaw03.names", laid_roundelay_roundelaylaw03_names), ("unicode/utf8.first", laid_unicode_utf8_first)], narrowed := true }
def KeyApartUptoSaid : Prop := keyApartUptoRow.holds Tryd.pinned (OpenSpec.upto keyApartSpec)

/-- 'roundelaylaw05.KeyBehind', WHERE WHAT IT READS IS OF BULK AT MOST 1048576: true; the input reads as it did. -/
def keyBehindUptoRow : OpenClaim := { program := "ythlioinmeimhoaadoor", sum := "68d846e93554251d2d31644e042153774a67f3f86ba9c3d9eeb356026efff470", func := "roundelay/roundelaylaw05.KeyBehind", spec := "keyBehind", inPlace := ["internal/abi.NoEscape", "internal/bytealg.CountString", "internal/bytealg.IndexByteString", "internal/bytealg.IndexString", "internal/bytealg.MakeNoZero", "internal/bytealg.abigen_runtime_cmpstring"], unfollowed := true, recurses := true, named := ["internal/bytealg.MaxLen", "unicode/utf8.first", "unicode/utf8.acceptRanges"], apart := false, laid := [("unicode/utf8.acceptRanges", laid_unicode_utf8_acceptRanges), ("unicode/utf8.first", laid_unicode_utf8_first)], narrowed := true }
def KeyBehindUptoSaid : Prop := keyBehindUptoRow.holds Tryd.pinned (OpenSpec.upto keyBehindSpec)

/-- 'roundelaylaw02.TextQuote', WHERE WHAT IT READS IS OF BULK AT MOST 1048576: true; the input reads as it did. -/
def textQuoteUptoRow : OpenClaim := { program := "ythlioinmeimhoaadoor", sum := "68d846e93554251d2d31644e042153774a67f3f86ba9c3d9eeb356026efff470", func := "roundelay/roundelaylaw02.TextQuote", spec := "textQuote", inPlace := ["internal/reflectlite.TypeOf", "internal/bytealg.IndexByteString", "internal/abi.NoEscape", "internal/reflectlite.ValueOf", "(internal/reflectlite.Value).Type", "(internal/reflectlite.Value).IsNil", "(internal/reflectlite.Value).Elem", "(internal/reflectlite.Value).Set", "internal/bytealg.IndexString"], unfollowed := true, recurses := true, named := ["unicode/utf8.first", "unicode/utf8.acceptRanges", "errors.errorType", "internal/bytealg.MaxLen"], apart := false, laid := [("unicode/utf8.acceptRanges", laid_unicode_utf8_acceptRanges), ("errors.errorType", laid_errors_errorType), ("unicode/utf8.first", laid_unicode_utf8_first)], narrowed := true }
def TextQuoteUptoSaid : Prop := textQuoteUptoRow.holds Tryd.pinned (OpenSpec.upto textQuoteSpec)

/-- 'roundelaylaw02.TextReads', WHERE WHAT IT READS IS OF BULK AT MOST 1048576: true; the input reads as it did. -/
def textReadsUptoRow : OpenClaim := { program := "ythlioinmeimhoaadoor", sum := "68d846e93554251d2d31644e042153774a67f3f86ba9c3d9eeb356026efff470", func := "roundelay/roundelaylaw02.TextReads", spec := "textReads", inPlace := ["internal/reflectlite.TypeOf", "internal/bytealg.IndexByteString", "internal/abi.NoEscape", "internal/reflectlite.ValueOf", "(internal/reflectlite.Value).Type", "(internal/reflectlite.Value).IsNil", "(internal/reflectlite.Value).Elem", "(internal/reflectlite.Value).Set", "internal/bytealg.IndexString"], unfollowed := true, recurses := true, named := ["unicode/utf8.first", "unicode/utf8.acceptRanges", "errors.errorType", "internal/bytealg.MaxLen"], apart := false, laid := [("unicode/utf8.acceptRanges", laid_unicode_utf8_acceptRanges), ("errors.errorType", laid_errors_errorType), ("unicode/utf8.first", laid_unicode_utf8_first)], narrowed := true }
def TextReadsUptoSaid : Prop := textReadsUptoRow.holds Tryd.pinned (OpenSpec.upto textReadsSpec)

/-- 'roundelaylaw02.TextBack', WHERE WHAT IT READS IS OF BULK AT MOST 1048576: true; the input reads as it did. -/
def textBackUptoRow : OpenClaim := { program := "ythlioinmeimhoaadoor", sum := "68d846e93554251d2d31644e042153774a67f3f86ba9c3d9eeb356026efff470", func := "roundelay/roundelaylaw02.TextBack", spec := "textBack", inPlace := ["internal/reflectlite.TypeOf", "internal/bytealg.IndexByteString", "internal/abi.NoEscape", "internal/reflectlite.ValueOf", "(internal/reflectlite.Value).Type", "(internal/reflectlite.Value).IsNil", "(internal/reflectlite.Value).Elem", "(internal/reflectlite.Value).Set", "internal/bytealg.IndexString"], unfollowed := true, recurses := true, named := ["unicode/utf8.first", "unicode/utf8.acceptRanges", "errors.errorType", "internal/bytealg.MaxLen"], apart := false, laid := [("unicode/utf8.acceptRanges", laid_unicode_utf8_acceptRanges), ("errors.errorType", laid_errors_errorType), ("unicode/utf8.first", laid_unicode_utf8_first)], narrowed := true }
def TextBackUptoSaid : Prop := textBackUptoRow.holds Tryd.pinned (OpenSpec.upto textBackSpec)

/-- 'roundelaylaw02.TextShort', WHERE WHAT IT READS IS OF BULK AT MOST 1048576: true; the input reads as it did. -/
def textShortUptoRow : OpenClaim := { program := "ythlioinmeimhoaadoor", sum := "68d846e93554251d2d31644e042153774a67f3f86ba9c3d9eeb356026efff470", func := "roundelay/roundelaylaw02.TextShort", spec := "textShort", inPlace := ["internal/reflectlite.TypeOf", "internal/bytealg.IndexByteString", "internal/abi.NoEscape", "internal/reflectlite.ValueOf", "(internal/reflectlite.Value).Type", "(internal/reflectlite.Value).IsNil", "(internal/reflectlite.Value).Elem", "(internal/reflectlite.Value).Set", "internal/bytealg.IndexString"], unfollowed := true, recurses := true, named := ["unicode/utf8.first", "unicode/utf8.acceptRanges", "errors.errorType", "internal/bytealg.MaxLen"], apart := false, laid := [("unicode/utf8.acceptRanges", laid_unicode_utf8_acceptRanges), ("errors.errorType", laid_errors_errorType), ("unicode/utf8.first", laid_unicode_utf8_first)], narrowed := true }
def TextShortUptoSaid : Prop := textShortUptoRow.holds Tryd.pinned (OpenSpec.upto textShortSpec)

/-- 'roundelaylaw02.TextUnits', WHERE WHAT IT READS IS OF BULK AT MOST 1048576: true; the input reads as it did. -/
def textUnitsUptoRow : OpenClaim := { program := "ythlioinmeimhoaadoor", sum := "68d846e93554251d2d31644e042153774a67f3f86ba9c3d9eeb356026efff470", func := "roundelay/roundelaylaw02.TextUnits", spec := "textUnits", inPlace := ["internal/reflectlite.TypeOf", "internal/bytealg.IndexByteString", "internal/abi.NoEscape", "internal/reflectlite.ValueOf", "(internal/reflectlite.Value).Type", "(internal/reflectlite.Value).IsNil", "(internal/reflectlite.Value).Elem", "(internal/reflectlite.Value).Set", "internal/bytealg.IndexString"], unfollowed := true, recurses := true, named := ["unicode/utf8.first", "unicode/utf8.acceptRanges", "errors.errorType", "internal/bytealg.MaxLen"], apart := false, laid := [("unicode/utf8.acceptRanges", laid_unicode_utf8_acceptRanges), ("errors.errorType", laid_errors_errorType), ("unicode/utf8.first", laid_unicode_utf8_first)], narrowed := true }
def TextUnitsUptoSaid : Prop := textUnitsUptoRow.holds Tryd.pinned (OpenSpec.upto textUnitsSpec)

/-- 'roundelaylaw02.TextValid', WHERE WHAT IT READS IS OF BULK AT MOST 1048576: true; the input reads as it did. -/
def textValidUptoRow : OpenClaim := { program := "ythlioinmeimhoaadoor", sum := "68d846e93554251d2d31644e042153774a67f3f86ba9c3d9eeb356026efff470", func := "roundelay/roundelaylaw02.TextValid", spec := "textValid", inPlace := ["internal/reflectlite.TypeOf", "internal/bytealg.IndexByteString", "internal/abi.NoEscape", "internal/reflectlite.ValueOf", "(internal/reflectlite.Value).Type", "(internal/reflectlite.Value).IsNil", "(internal/reflectlite.Value).Elem", "(internal/reflectlite.Value).Set", "internal/bytealg.IndexString"], unfollowed := true, recurses := true, named := ["unicode/utf8.first", "unicode/utf8.acceptRanges", "errors.errorType", "internal/bytealg.MaxLen"], apart := false, laid := [("unicode/utf8.acceptRanges", laid_unicode_utf8_acceptRanges), ("errors.errorType", laid_errors_errorType), ("unicode/utf8.first", laid_unicode_utf8_first)], narrowed := true }
def TextValidUptoSaid : Prop := textValidUptoRow.holds Tryd.pinned (OpenSpec.upto textValidSpec)

end Rows
end Go.Proofs.YthlioinmeimhoaaDoor
