/-
  No cell of these rows narrows 'for every input' (looked for: loops, veiled, ifaces, maps, wideKeys, modest, calm, conditions, laid).
  DERIVED. THE GIVEN ROWS OF THIS SEAT. 4 by the template 'for every input the law returns true; each argument reads behind the call as it read before'; 0 by the template 'total and deterministic' (their statements: YteghcgiclpbkdaaTotals.lean).
  GIVEN WITH THE SEED: the statements are not yours to turn. If you find one false, say at which input.
  Laid BY PROGRAM, IN A SANDBOX (cutbox-rows.mjs): the forced cells as the released guide's own fill.sh prints them over the translation 4e928ade28bdc138… (all of the seat's roots in one cut). By AI agents, Wed Nov 11 2026. No macro, syntax, notation, axiom, sorry.
-/
import Derived.Test.YteghcgiclpbkdaaChecked
import GoSem.Claim
import GoSem.ClaimJoined
import GoSem.ClaimMapViews
import Derived.JoinedTies
import Derived.KernelRfl
namespace Go.Proofs.Yteghcgiclpbkdaa
/- THE CELL 'sum', in the pinned program and in every row, IS THE sha256 OF THE DUMP (.gsa) THAT YteghcgiclpbkdaaProg.lean LOADS. Nothing in Lean hashes anything: it is a label: what it is worth is what the hold of that sum in a sandbox is worth. -/
noncomputable def Try.pinned : Pinned := { name := "yteghcgiclpbkdaa", sum := "4e928ade28bdc138439a8677963e11c6859025b156a3d489cd09053077ba9dc0", checked := Try.checked }
namespace Rows
def none {H : Type} : Left H := { results := [], args := [] }

/-- 'roundelaylaw14.TowerSafe': WHATEVER THE INPUT: true; the input reads as it did. -/
def towerSafeSpec : ChangeSpec := { name := "towerSafe", fn := fun _ => fun
  | [d] => { results := [.lit (.bool true)], args := [d] }
  | _ => none }
def towerSafeRow : OpenClaim := { program := "yteghcgiclpbkdaa", sum := "4e928ade28bdc138439a8677963e11c6859025b156a3d489cd09053077ba9dc0", func := "roundelay/roundelaylaw14.TowerSafe", spec := "towerSafe", inPlace := ["internal/reflectlite.TypeOf"], unfollowed := true, recurses := true, plainKeys := false, apart := false }
def TowerSafeSaid : Prop := towerSafeRow.holds Try.pinned (OpenSpec.ofChange towerSafeSpec)

/-- ITS FALSE NEIGHBOUR: 'it returns false'. Refute it at one input. -/
def towerSafeWrong : ChangeSpec := { name := "towerSafe", fn := fun _ => fun
  | [d] => { results := [.lit (.bool false)], args := [d] }
  | _ => none }
def TowerSafeWrongFalsely : Prop := towerSafeRow.holds Try.pinned (OpenSpec.ofChange towerSafeWrong)

/-- 'roundelaylaw14.TowerWhole': WHATEVER THE INPUT: true; the input reads as it did. -/
def towerWholeSpec : ChangeSpec := { name := "towerWhole", fn := fun _ => fun
  | [d] => { results := [.lit (.bool true)], args := [d] }
  | _ => none }
def towerWholeRow : OpenClaim := { program := "yteghcgiclpbkdaa", sum := "4e928ade28bdc138439a8677963e11c6859025b156a3d489cd09053077ba9dc0", func := "roundelay/roundelaylaw14.TowerWhole", spec := "towerWhole", inPlace := ["internal/reflectlite.TypeOf"], unfollowed := true, recurses := true, plainKeys := false, apart := false }
def TowerWholeSaid : Prop := towerWholeRow.holds Try.pinned (OpenSpec.ofChange towerWholeSpec)

/-- ITS FALSE NEIGHBOUR: 'it returns false'. Refute it at one input. -/
def towerWholeWrong : ChangeSpec := { name := "towerWhole", fn := fun _ => fun
  | [d] => { results := [.lit (.bool false)], args := [d] }
  | _ => none }
def TowerWholeWrongFalsely : Prop := towerWholeRow.holds Try.pinned (OpenSpec.ofChange towerWholeWrong)

/-- 'roundelaylaw14.TowerDrains': WHATEVER THE INPUT: true; the input reads as it did. -/
def towerDrainsSpec : ChangeSpec := { name := "towerDrains", fn := fun _ => fun
  | [d] => { results := [.lit (.bool true)], args := [d] }
  | _ => none }
def towerDrainsRow : OpenClaim := { program := "yteghcgiclpbkdaa", sum := "4e928ade28bdc138439a8677963e11c6859025b156a3d489cd09053077ba9dc0", func := "roundelay/roundelaylaw14.TowerDrains", spec := "towerDrains", inPlace := ["internal/reflectlite.TypeOf"], unfollowed := true, recurses := true, plainKeys := false, apart := false }
def TowerDrainsSaid : Prop := towerDrainsRow.holds Try.pinned (OpenSpec.ofChange towerDrainsSpec)

/-- ITS FALSE NEIGHBOUR: 'it returns false'. Refute it at one input. -/
def towerDrainsWrong : ChangeSpec := { name := "towerDrains", fn := fun _ => fun
  | [d] => { results := [.lit (.bool false)], args := [d] }
  | _ => none }
def TowerDrainsWrongFalsely : Prop := towerDrainsRow.holds Try.pinned (OpenSpec.ofChange towerDrainsWrong)

/-- 'roundelaylaw14.TowerFrees': WHATEVER THE INPUT: true; the input reads as it did. -/
def towerFreesSpec : ChangeSpec := { name := "towerFrees", fn := fun _ => fun
  | [d1, d2] => { results := [.lit (.bool true)], args := [d1, d2] }
  | _ => none }
def towerFreesRow : OpenClaim := { program := "yteghcgiclpbkdaa", sum := "4e928ade28bdc138439a8677963e11c6859025b156a3d489cd09053077ba9dc0", func := "roundelay/roundelaylaw14.TowerFrees", spec := "towerFrees", inPlace := ["internal/reflectlite.TypeOf"], unfollowed := true, recurses := true, plainKeys := false, apart := false }
def TowerFreesSaid : Prop := towerFreesRow.holds Try.pinned (OpenSpec.ofChange towerFreesSpec)

/-- ITS FALSE NEIGHBOUR: 'it returns false'. Refute it at one input. -/
def towerFreesWrong : ChangeSpec := { name := "towerFrees", fn := fun _ => fun
  | [d1, d2] => { results := [.lit (.bool false)], args := [d1, d2] }
  | _ => none }
def TowerFreesWrongFalsely : Prop := towerFreesRow.holds Try.pinned (OpenSpec.ofChange towerFreesWrong)

/- THE SECOND FORM. 'bulk': how many values and letters a reading holds, each counted each time it is reached (what is shared counts as often as it is met; a slice's spare places count too). A statement '..UptoSaid' is the law's where the arguments, and the package variables that the reading takes, are together of bulk at most 1048576: NARROWER than '..Said'. Prove '..Said' where nothing that the law and all that it calls make is longer than what came in: it says more and counts as full. Else prove '..UptoSaid'. A law counts once. -/
mutual
def uptoBulk {H : Type} : DataW H → Nat
  | .lit (.string bytes) => bytes.length + 1
  | .lit _ => 1
  | .nil => 1
  | .ptr d => uptoBulk d + 1
  | .slice elems spare => uptoBulkAll elems + uptoBulkAll spare + 1
  | .agg parts => uptoBulkAll parts + 1
  | .iface _ d => uptoBulk d + 1
  | .map entries => uptoBulkEntries entries + 1
  | .held _ => 1
def uptoBulkAll {H : Type} : List (DataW H) → Nat
  | [] => 0
  | d :: r => uptoBulk d + uptoBulkAll r
def uptoBulkEntries {H : Type} : List (Lit × DataW H) → Nat
  | [] => 0
  | x :: r => uptoBulkEntry x + uptoBulkEntries r
def uptoBulkEntry {H : Type} : Lit × DataW H → Nat
  | (.string bytes, d) => bytes.length + uptoBulk d + 1
  | (_, d) => uptoBulk d + 1
 end
def uptoSmall : (H : Type) → List (DataW H) → Bool := fun _ ds => decide (uptoBulkAll ds ≤ 1048576)
def OpenSpec.upto (s : _root_.Go.ChangeSpec) : _root_.Go.OpenSpec := { _root_.Go.OpenSpec.ofChange s with cond := some uptoSmall }

/-- 'roundelaylaw14.TowerSafe', WHERE WHAT IT READS IS OF BULK AT MOST 1048576: true; the input reads as it did. -/
def towerSafeUptoRow : OpenClaim := { program := "yteghcgiclpbkdaa", sum := "4e928ade28bdc138439a8677963e11c6859025b156a3d489cd09053077ba9dc0", func := "roundelay/roundelaylaw14.TowerSafe", spec := "towerSafe", inPlace := ["internal/reflectlite.TypeOf"], unfollowed := true, recurses := true, plainKeys := false, apart := false, narrowed := true }
def TowerSafeUptoSaid : Prop := towerSafeUptoRow.holds Try.pinned (OpenSpec.upto towerSafeSpec)

/-- 'roundelaylaw14.TowerWhole', WHERE WHAT IT READS IS OF BULK AT MOST 1048576: true; the input reads as it did. -/
def towerWholeUptoRow : OpenClaim := { program := "yteghcgiclpbkdaa", sum := "4e928ade28bdc138439a8677963e11c6859025b156a3d489cd09053077ba9dc0", func := "roundelay/roundelaylaw14.TowerWhole", spec := "towerWhole", inPlace := ["internal/reflectlite.TypeOf"], unfollowed := true, recurses := true, plainKeys := false, apart := false, narrowed := true }
def TowerWholeUptoSaid : Prop := towerWholeUptoRow.holds Try.pinned (OpenSpec.upto towerWholeSpec)

/-- 'roundelaylaw14.TowerDrains', WHERE WHAT IT READS IS OF BULK AT MOST 1048576: true; the input reads as it did. -/
def towerDrainsUptoRow : OpenClaim := { program := "yteghcgiclpbkdaa", sum := "4e928ade28bdc138439a8677963e11c6859025b156a3d489cd09053077ba9dc0", func := "roundelay/roundelaylaw14.TowerDrains", spec := "towerDrains", inPlace := ["internal/reflectlite.TypeOf"], unfollowed := true, recurses := true, plainKeys := false, apart := false, narrowed := true }
def TowerDrainsUptoSaid : Prop := towerDrainsUptoRow.holds Try.pinned (OpenSpec.upto towerDrainsSpec)

/-- 'roundelaylaw14.TowerFrees', WHERE WHAT IT READS IS OF BULK AT MOST 1048576: true; the input reads as it did. -/
def towerFreesUptoRow : OpenClaim := { program := "yteghcgiclpbkdaa", sum := "4e928ade28bdc138439a8677963e11c6859025b156a3d489cd09053077ba9dc0", func := "roundelay/roundelaylaw14.TowerFrees", spec := "towerFrees", inPlace := ["internal/reflectlite.TypeOf"], unfollowed := true, recurses := true, plainKeys := false, apart := false, narrowed := true }
def TowerFreesUptoSaid : Prop := towerFreesUptoRow.holds Try.pinned (OpenSpec.upto towerFreesSpec)

end Rows
end Go.Proofs.Yteghcgiclpbkdaa
