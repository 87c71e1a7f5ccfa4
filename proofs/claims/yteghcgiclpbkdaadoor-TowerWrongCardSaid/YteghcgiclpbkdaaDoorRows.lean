/-
  NARROWER THAN 'FOR EVERY INPUT', by the rows' own cells (each row's printed sentence says how): LockModes: laid · LockSafe: laid · LockActs: laid · LockNeeds: laid · LockFair: laid · LockGone: laid · TowerActs: laid · TowerWrong: laid.
  DERIVED. THE GIVEN ROWS OF THIS SEAT. 8 by the template 'for every input the law returns true; each argument reads behind the call as it read before'; 0 by the template 'total and deterministic' (their statements: YteghcgiclpbkdaaDoorTotals.lean).
  GIVEN WITH THE SEED: the statements are not yours to turn. If you find one false, say at which input.
  Laid BY PROGRAM, IN A SANDBOX (cutbox-rows.mjs): the forced cells as the released guide's own fill.sh prints them over the translation bc2e9f6464e74b5d… (all of the seat's roots in one cut). By AI agents, Wed Nov 11 2026. No macro, syntax, notation, axiom, sorry.
-/
import Derived.Test.YteghcgiclpbkdaaDoorChecked
import GoSem.Claim
import GoSem.ClaimJoined
import GoSem.ClaimMapViews
import Derived.JoinedTies
import Derived.KernelRfl
namespace Go.Proofs.YteghcgiclpbkdaaDoor
/- THE CELL 'sum', in the pinned program and in every row, IS THE sha256 OF THE DUMP (.gsa) THAT YteghcgiclpbkdaaDoorProg.lean LOADS. Nothing in Lean hashes anything: it is a label: what it is worth is what the hold of that sum in a sandbox is worth. -/
noncomputable def Tryd.pinned : Pinned := { name := "yteghcgiclpbkdaadoor", sum := "bc2e9f6464e74b5d296aa2bc133b72f0dc39f7987373db75c4e6adbb1e6cecb6", checked := Tryd.checked }
namespace Rows
def none {H : Type} : Left H := { results := [], args := [] }

/- WHAT THE LISTED PACKAGE-LEVEL VARIABLES READ AS WHEN THE CALL BEGINS. Each datum BY PROGRAM (the guide's laid-datum.mjs) off the statement by which the dump's own 'gosem.cut.vars' lays the variable. In a bare row this is a premise. The card (YteghcgiclpbkdaaDoorCards.lean) ties it to the program's text. -/
def laid_errors_errorType {H : Type} : DataW H := .iface "internal/reflectlite.rtype" (.agg [.ptr (.lit (.string [101, 114, 114, 111, 114]))])

/-- 'roundelaylaw13.LockModes': WHATEVER THE INPUT: true; the input reads as it did. -/
def lockModesSpec : ChangeSpec := { name := "lockModes", fn := fun _ => fun
  | [d1, d2] => { results := [.lit (.bool true)], args := [d1, d2] }
  | _ => none }
def lockModesRow : OpenClaim := { program := "yteghcgiclpbkdaadoor", sum := "bc2e9f6464e74b5d296aa2bc133b72f0dc39f7987373db75c4e6adbb1e6cecb6", func := "roundelay/roundelaylaw13.LockModes", spec := "lockModes", inPlace := ["internal/reflectlite.TypeOf", "internal/reflectlite.ValueOf", "(internal/reflectlite.Value).Type", "(internal/reflectlite.Value).IsNil", "(internal/reflectlite.Value).Elem", "(internal/reflectlite.Value).Set"], unfollowed := true, recurses := true, named := ["errors.errorType"], plainKeys := false, apart := false, laid := [("errors.errorType", laid_errors_errorType)] }
def LockModesSaid : Prop := lockModesRow.holds Tryd.pinned (OpenSpec.ofChange lockModesSpec)

/-- ITS FALSE NEIGHBOUR: 'it returns false'. Refute it at one input. -/
def lockModesWrong : ChangeSpec := { name := "lockModes", fn := fun _ => fun
  | [d1, d2] => { results := [.lit (.bool false)], args := [d1, d2] }
  | _ => none }
def LockModesWrongFalsely : Prop := lockModesRow.holds Tryd.pinned (OpenSpec.ofChange lockModesWrong)

/-- 'roundelaylaw13.LockSafe': WHATEVER THE INPUT: true; the input reads as it did. -/
def lockSafeSpec : ChangeSpec := { name := "lockSafe", fn := fun _ => fun
  | [d] => { results := [.lit (.bool true)], args := [d] }
  | _ => none }
def lockSafeRow : OpenClaim := { program := "yteghcgiclpbkdaadoor", sum := "bc2e9f6464e74b5d296aa2bc133b72f0dc39f7987373db75c4e6adbb1e6cecb6", func := "roundelay/roundelaylaw13.LockSafe", spec := "lockSafe", inPlace := ["internal/reflectlite.TypeOf", "internal/reflectlite.ValueOf", "(internal/reflectlite.Value).Type", "(internal/reflectlite.Value).IsNil", "(internal/reflectlite.Value).Elem", "(internal/reflectlite.Value).Set"], unfollowed := true, recurses := true, named := ["errors.errorType"], plainKeys := false, apart := false, laid := [("errors.errorType", laid_errors_errorType)] }
def LockSafeSaid : Prop := lockSafeRow.holds Tryd.pinned (OpenSpec.ofChange lockSafeSpec)

/-- ITS FALSE NEIGHBOUR: 'it returns false'. Refute it at one input. -/
def lockSafeWrong : ChangeSpec := { name := "lockSafe", fn := fun _ => fun
  | [d] => { results := [.lit (.bool false)], args := [d] }
  | _ => none }
def LockSafeWrongFalsely : Prop := lockSafeRow.holds Tryd.pinned (OpenSpec.ofChange lockSafeWrong)

/-- 'roundelaylaw13.LockActs': WHATEVER THE INPUT: true; the input reads as it did. -/
def lockActsSpec : ChangeSpec := { name := "lockActs", fn := fun _ => fun
  | [d1, d2, d3] => { results := [.lit (.bool true)], args := [d1, d2, d3] }
  | _ => none }
def lockActsRow : OpenClaim := { program := "yteghcgiclpbkdaadoor", sum := "bc2e9f6464e74b5d296aa2bc133b72f0dc39f7987373db75c4e6adbb1e6cecb6", func := "roundelay/roundelaylaw13.LockActs", spec := "lockActs", inPlace := ["internal/reflectlite.TypeOf", "internal/reflectlite.ValueOf", "(internal/reflectlite.Value).Type", "(internal/reflectlite.Value).IsNil", "(internal/reflectlite.Value).Elem", "(internal/reflectlite.Value).Set"], unfollowed := true, recurses := true, named := ["errors.errorType"], plainKeys := false, apart := false, laid := [("errors.errorType", laid_errors_errorType)] }
def LockActsSaid : Prop := lockActsRow.holds Tryd.pinned (OpenSpec.ofChange lockActsSpec)

/-- ITS FALSE NEIGHBOUR: 'it returns false'. Refute it at one input. -/
def lockActsWrong : ChangeSpec := { name := "lockActs", fn := fun _ => fun
  | [d1, d2, d3] => { results := [.lit (.bool false)], args := [d1, d2, d3] }
  | _ => none }
def LockActsWrongFalsely : Prop := lockActsRow.holds Tryd.pinned (OpenSpec.ofChange lockActsWrong)

/-- 'roundelaylaw13.LockNeeds': WHATEVER THE INPUT: true; the input reads as it did. -/
def lockNeedsSpec : ChangeSpec := { name := "lockNeeds", fn := fun _ => fun
  | [d] => { results := [.lit (.bool true)], args := [d] }
  | _ => none }
def lockNeedsRow : OpenClaim := { program := "yteghcgiclpbkdaadoor", sum := "bc2e9f6464e74b5d296aa2bc133b72f0dc39f7987373db75c4e6adbb1e6cecb6", func := "roundelay/roundelaylaw13.LockNeeds", spec := "lockNeeds", inPlace := ["internal/reflectlite.TypeOf", "internal/reflectlite.ValueOf", "(internal/reflectlite.Value).Type", "(internal/reflectlite.Value).IsNil", "(internal/reflectlite.Value).Elem", "(internal/reflectlite.Value).Set"], unfollowed := true, recurses := true, named := ["errors.errorType"], plainKeys := false, apart := false, laid := [("errors.errorType", laid_errors_errorType)] }
def LockNeedsSaid : Prop := lockNeedsRow.holds Tryd.pinned (OpenSpec.ofChange lockNeedsSpec)

/-- ITS FALSE NEIGHBOUR: 'it returns false'. Refute it at one input. -/
def lockNeedsWrong : ChangeSpec := { name := "lockNeeds", fn := fun _ => fun
  | [d] => { results := [.lit (.bool false)], args := [d] }
  | _ => none }
def LockNeedsWrongFalsely : Prop := lockNeedsRow.holds Tryd.pinned (OpenSpec.ofChange lockNeedsWrong)

/-- 'roundelaylaw13.LockFair': WHATEVER THE INPUT: true; the input reads as it did. -/
def lockFairSpec : ChangeSpec := { name := "lockFair", fn := fun _ => fun
  | [d] => { results := [.lit (.bool true)], args := [d] }
  | _ => none }
def lockFairRow : OpenClaim := { program := "yteghcgiclpbkdaadoor", sum := "bc2e9f6464e74b5d296aa2bc133b72f0dc39f7987373db75c4e6adbb1e6cecb6", func := "roundelay/roundelaylaw13.LockFair", spec := "lockFair", inPlace := ["internal/reflectlite.TypeOf", "internal/reflectlite.ValueOf", "(internal/reflectlite.Value).Type", "(internal/reflectlite.Value).IsNil", "(internal/reflectlite.Value).Elem", "(internal/reflectlite.Value).Set"], unfollowed := true, recurses := true, named := ["errors.errorType"], plainKeys := false, apart := false, laid := [("errors.errorType", laid_errors_errorType)] }
def LockFairSaid : Prop := lockFairRow.holds Tryd.pinned (OpenSpec.ofChange lockFairSpec)

/-- ITS FALSE NEIGHBOUR: 'it returns false'. Refute it at one input. -/
def lockFairWrong : ChangeSpec := { name := "lockFair", fn := fun _ => fun
  | [d] => { results := [.lit (.bool false)], args := [d] }
  | _ => none }
def LockFairWrongFalsely : Prop := lockFairRow.holds Tryd.pinned (OpenSpec.ofChange lockFairWrong)

/-- 'roundelaylaw13.LockGone': WHATEVER THE INPUT: true; the input reads as it did. -/
def lockGoneSpec : ChangeSpec := { name := "lockGone", fn := fun _ => fun
  | [d1, d2] => { results := [.lit (.bool true)], args := [d1, d2] }
  | _ => none }
def lockGoneRow : OpenClaim := { program := "yteghcgiclpbkdaadoor", sum := "bc2e9f6464e74b5d296aa2bc133b72f0dc39f7987373db75c4e6adbb1e6cecb6", func := "roundelay/roundelaylaw13.LockGone", spec := "lockGone", inPlace := ["internal/reflectlite.TypeOf", "internal/reflectlite.ValueOf", "(internal/reflectlite.Value).Type", "(internal/reflectlite.Value).IsNil", "(internal/reflectlite.Value).Elem", "(internal/reflectlite.Value).Set"], unfollowed := true, recurses := true, named := ["errors.errorType"], plainKeys := false, apart := false, laid := [("errors.errorType", laid_errors_errorType)] }
def LockGoneSaid : Prop := lockGoneRow.holds Tryd.pinned (OpenSpec.ofChange lockGoneSpec)

/-- ITS FALSE NEIGHBOUR: 'it returns false'. Refute it at one input. -/
def lockGoneWrong : ChangeSpec := { name := "lockGone", fn := fun _ => fun
  | [d1, d2] => { results := [.lit (.bool false)], args := [d1, d2] }
  | _ => none }
def LockGoneWrongFalsely : Prop := lockGoneRow.holds Tryd.pinned (OpenSpec.ofChange lockGoneWrong)

/-- 'roundelaylaw14.TowerActs': WHATEVER THE INPUT: true; the input reads as it did. -/
def towerActsSpec : ChangeSpec := { name := "towerActs", fn := fun _ => fun
  | [d] => { results := [.lit (.bool true)], args := [d] }
  | _ => none }
def towerActsRow : OpenClaim := { program := "yteghcgiclpbkdaadoor", sum := "bc2e9f6464e74b5d296aa2bc133b72f0dc39f7987373db75c4e6adbb1e6cecb6", func := "roundelay/roundelaylaw14.TowerActs", spec := "towerActs", inPlace := ["internal/reflectlite.TypeOf", "internal/reflectlite.ValueOf", "(internal/reflectlite.Value).Type", "(internal/reflectlite.Value).IsNil", "(internal/reflectlite.Value).Elem", "(internal/reflectlite.Value).Set"], unfollowed := true, recurses := true, named := ["errors.errorType"], plainKeys := false, apart := false, laid := [("errors.errorType", laid_errors_errorType)] }
def TowerActsSaid : Prop := towerActsRow.holds Tryd.pinned (OpenSpec.ofChange towerActsSpec)

/-- ITS FALSE NEIGHBOUR: 'it returns false'. Refute it at one input. -/
def towerActsWrong : ChangeSpec := { name := "towerActs", fn := fun _ => fun
  | [d] => { results := [.lit (.bool false)], args := [d] }
  | _ => none }
def TowerActsWrongFalsely : Prop := towerActsRow.holds Tryd.pinned (OpenSpec.ofChange towerActsWrong)

/-- 'roundelaylaw14.TowerWrong': WHATEVER THE INPUT: true; the input reads as it did. -/
def towerWrongSpec : ChangeSpec := { name := "towerWrong", fn := fun _ => fun
  | [d1, d2, d3, d4] => { results := [.lit (.bool true)], args := [d1, d2, d3, d4] }
  | _ => none }
def towerWrongRow : OpenClaim := { program := "yteghcgiclpbkdaadoor", sum := "bc2e9f6464e74b5d296aa2bc133b72f0dc39f7987373db75c4e6adbb1e6cecb6", func := "roundelay/roundelaylaw14.TowerWrong", spec := "towerWrong", inPlace := ["internal/reflectlite.TypeOf", "internal/reflectlite.ValueOf", "(internal/reflectlite.Value).Type", "(internal/reflectlite.Value).IsNil", "(internal/reflectlite.Value).Elem", "(internal/reflectlite.Value).Set"], unfollowed := true, recurses := true, named := ["errors.errorType"], plainKeys := false, apart := false, laid := [("errors.errorType", laid_errors_errorType)] }
def TowerWrongSaid : Prop := towerWrongRow.holds Tryd.pinned (OpenSpec.ofChange towerWrongSpec)

/-- ITS FALSE NEIGHBOUR: 'it returns false'. Refute it at one input. -/
def towerWrongWrong : ChangeSpec := { name := "towerWrong", fn := fun _ => fun
  | [d1, d2, d3, d4] => { results := [.lit (.bool false)], args := [d1, d2, d3, d4] }
  | _ => none }
def TowerWrongWrongFalsely : Prop := towerWrongRow.holds Tryd.pinned (OpenSpec.ofChange towerWrongWrong)

/- THE SECOND FORM. 'bulk': how many values and letters a reading holds, each counted each time it is reached (what is shared counts as often as it is met; a slice's spare places count too). A statement '..UptoSaid' is the law's where the arguments, and the package variables that the reading takes, are together of bulk at most 1048576: NARROWER than '..Said'. Prove '..Said' where nothing that the law and all that it calls make is longer than what came in: it says more and counts as full. Else prove '..UptoSaid'. A law counts once. -/
mutual
def uptoBulk {H : Type} : DataW H → Nat
  | .lit (.string bytes) => bytes.length + 1
  | .lit _ => 1
  | .nil => 1
  | .ptr d => uptoBulk d + 1
  | .slice elems spare => uptoBulkAll elems + uptoBulkAll spare + 1
  | .agg parts => uptoBulkAll parts + 1
  | .iface _ d => uptoBulk d + 1
  | .map entries => uptoBulkEntries entries + 1
  | .held _ => 1
def uptoBulkAll {H : Type} : List (DataW H) → Nat
  | [] => 0
  | d :: r => uptoBulk d + uptoBulkAll r
def uptoBulkEntries {H : Type} : List (Lit × DataW H) → Nat
  | [] => 0
  | x :: r => uptoBulkEntry x + uptoBulkEntries r
def uptoBulkEntry {H : Type} : Lit × DataW H → Nat
  | (.string bytes, d) => bytes.length + uptoBulk d + 1
  | (_, d) => uptoBulk d + 1
 end
def uptoSmall : (H : Type) → List (DataW H) → Bool := fun _ ds => decide (uptoBulkAll ds ≤ 1048576)
def OpenSpec.upto (s : _root_.Go.ChangeSpec) : _root_.Go.OpenSpec := { _root_.Go.OpenSpec.ofChange s with cond := some uptoSmall }

/-- 'roundelaylaw13.LockModes', WHERE WHAT IT READS IS OF BULK AT MOST 1048576: true; the input reads as it did. -/
def lockModesUptoRow : OpenClaim := { program := "yteghcgiclpbkdaadoor", sum := "bc2e9f6464e74b5d296aa2bc133b72f0dc39f7987373db75c4e6adbb1e6cecb6", func := "roundelay/roundelaylaw13.LockModes", spec := "lockModes", inPlace := ["internal/reflectlite.TypeOf", "internal/reflectlite.ValueOf", "(internal/reflectlite.Value).Type", "(internal/reflectlite.Value).IsNil", "(internal/reflectlite.Value).Elem", "(internal/reflectlite.Value).Set"], unfollowed := true, recurses := true, named := ["errors.errorType"], plainKeys := false, apart := false, laid := [("errors.errorType", laid_errors_errorType)], narrowed := true }
def LockModesUptoSaid : Prop := lockModesUptoRow.holds Tryd.pinned (OpenSpec.upto lockModesSpec)

/-- 'roundelaylaw13.LockSafe', WHERE WHAT IT READS IS OF BULK AT MOST 1048576: true; the input reads as it did. -/
def lockSafeUptoRow : OpenClaim := { program := "yteghcgiclpbkdaadoor", sum := "bc2e9f6464e74b5d296aa2bc133b72f0dc39f7987373db75c4e6adbb1e6cecb6", func := "roundelay/roundelaylaw13.LockSafe", spec := "lockSafe", inPlace := ["internal/reflectlite.TypeOf", "internal/reflectlite.ValueOf", "(internal/reflectlite.Value).Type", "(internal/reflectlite.Value).IsNil", "(internal/reflectlite.Value).Elem", "(internal/reflectlite.Value).Set"], unfollowed := true, recurses := true, named := ["errors.errorType"], plainKeys := false, apart := false, laid := [("errors.errorType", laid_errors_errorType)], narrowed := true }
def LockSafeUptoSaid : Prop := lockSafeUptoRow.holds Tryd.pinned (OpenSpec.upto lockSafeSpec)

/-- 'roundelaylaw13.LockActs', WHERE WHAT IT READS IS OF BULK AT MOST 1048576: true; the input reads as it did. -/
def lockActsUptoRow : OpenClaim := { program := "yteghcgiclpbkdaadoor", sum := "bc2e9f6464e74b5d296aa2bc133b72f0dc39f7987373db75c4e6adbb1e6cecb6", func := "roundelay/roundelaylaw13.LockActs", spec := "lockActs", inPlace := ["internal/reflectlite.TypeOf", "internal/reflectlite.ValueOf", "(internal/reflectlite.Value).Type", "(internal/reflectlite.Value).IsNil", "(internal/reflectlite.Value).Elem", "(internal/reflectlite.Value).Set"], unfollowed := true, recurses := true, named := ["errors.errorType"], plainKeys := false, apart := false, laid := [("errors.errorType", laid_errors_errorType)], narrowed := true }
def LockActsUptoSaid : Prop := lockActsUptoRow.holds Tryd.pinned (OpenSpec.upto lockActsSpec)

/-- 'roundelaylaw13.LockNeeds', WHERE WHAT IT READS IS OF BULK AT MOST 1048576: true; the input reads as it did. -/
def lockNeedsUptoRow : OpenClaim := { program := "yteghcgiclpbkdaadoor", sum := "bc2e9f6464e74b5d296aa2bc133b72f0dc39f7987373db75c4e6adbb1e6cecb6", func := "roundelay/roundelaylaw13.LockNeeds", spec := "lockNeeds", inPlace := ["internal/reflectlite.TypeOf", "internal/reflectlite.ValueOf", "(internal/reflectlite.Value).Type", "(internal/reflectlite.Value).IsNil", "(internal/reflectlite.Value).Elem", "(internal/reflectlite.Value).Set"], unfollowed := true, recurses := true, named := ["errors.errorType"], plainKeys := false, apart := false, laid := [("errors.errorType", laid_errors_errorType)], narrowed := true }
def LockNeedsUptoSaid : Prop := lockNeedsUptoRow.holds Tryd.pinned (OpenSpec.upto lockNeedsSpec)

/-- 'roundelaylaw13.LockFair', WHERE WHAT IT READS IS OF BULK AT MOST 1048576: true; the input reads as it did. -/
def lockFairUptoRow : OpenClaim := { program := "yteghcgiclpbkdaadoor", sum := "bc2e9f6464e74b5d296aa2bc133b72f0dc39f7987373db75c4e6adbb1e6cecb6", func := "roundelay/roundelaylaw13.LockFair", spec := "lockFair", inPlace := ["internal/reflectlite.TypeOf", "internal/reflectlite.ValueOf", "(internal/reflectlite.Value).Type", "(internal/reflectlite.Value).IsNil", "(internal/reflectlite.Value).Elem", "(internal/reflectlite.Value).Set"], unfollowed := true, recurses := true, named := ["errors.errorType"], plainKeys := false, apart := false, laid := [("errors.errorType", laid_errors_errorType)], narrowed := true }
def LockFairUptoSaid : Prop := lockFairUptoRow.holds Tryd.pinned (OpenSpec.upto lockFairSpec)

/-- 'roundelaylaw13.LockGone', WHERE WHAT IT READS IS OF BULK AT MOST 1048576: true; the input reads as it did. -/
def lockGoneUptoRow : OpenClaim := { program := "yteghcgiclpbkdaadoor", sum := "bc2e9f6464e74b5d296aa2bc133b72f0dc39f7987373db75c4e6adbb1e6cecb6", func := "roundelay/roundelaylaw13.LockGone", spec := "lockGone", inPlace := ["internal/reflectlite.TypeOf", "internal/reflectlite.ValueOf", "(internal/reflectlite.Value).Type", "(internal/reflectlite.Value).IsNil", "(internal/reflectlite.Value).Elem", "(internal/reflectlite.Value).Set"], unfollowed := true, recurses := true, named := ["errors.errorType"], plainKeys := false, apart := false, laid := [("errors.errorType", laid_errors_errorType)], narrowed := true }
def LockGoneUptoSaid : Prop := lockGoneUptoRow.holds Tryd.pinned (OpenSpec.upto lockGoneSpec)

/-- 'roundelaylaw14.TowerActs', WHERE WHAT IT READS IS OF BULK AT MOST 1048576: true; the input reads as it did. -/
def towerActsUptoRow : OpenClaim := { program := "yteghcgiclpbkdaadoor", sum := "bc2e9f6464e74b5d296aa2bc133b72f0dc39f7987373db75c4e6adbb1e6cecb6", func := "roundelay/roundelaylaw14.TowerActs", spec := "towerActs", inPlace := ["internal/reflectlite.TypeOf", "internal/reflectlite.ValueOf", "(internal/reflectlite.Value).Type", "(internal/reflectlite.Value).IsNil", "(internal/reflectlite.Value).Elem", "(internal/reflectlite.Value).Set"], unfollowed := true, recurses := true, named := ["errors.errorType"], plainKeys := false, apart := false, laid := [("errors.errorType", laid_errors_errorType)], narrowed := true }
def TowerActsUptoSaid : Prop := towerActsUptoRow.holds Tryd.pinned (OpenSpec.upto towerActsSpec)

/-- 'roundelaylaw14.TowerWrong', WHERE WHAT IT READS IS OF BULK AT MOST 1048576: true; the input reads as it did. -/
def towerWrongUptoRow : OpenClaim := { program := "yteghcgiclpbkdaadoor", sum := "bc2e9f6464e74b5d296aa2bc133b72f0dc39f7987373db75c4e6adbb1e6cecb6", func := "roundelay/roundelaylaw14.TowerWrong", spec := "towerWrong", inPlace := ["internal/reflectlite.TypeOf", "internal/reflectlite.ValueOf", "(internal/reflectlite.Value).Type", "(internal/reflectlite.Value).IsNil", "(internal/reflectlite.Value).Elem", "(internal/reflectlite.Value).Set"], unfollowed := true, recurses := true, named := ["errors.errorType"], plainKeys := false, apart := false, laid := [("errors.errorType", laid_errors_errorType)], narrowed := true }
def TowerWrongUptoSaid : Prop := towerWrongUptoRow.holds Tryd.pinned (OpenSpec.upto towerWrongSpec)

end Rows
end Go.Proofs.YteghcgiclpbkdaaDoor
