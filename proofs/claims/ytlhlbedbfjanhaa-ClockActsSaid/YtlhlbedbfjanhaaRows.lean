/-
  No cell of these rows narrows 'for every input' (looked for: loops, veiled, ifaces, maps, wideKeys, modest, calm, conditions, laid).
  DERIVED. THE GIVEN ROWS OF THIS SEAT. 6 by the template 'for every input the law returns true; each argument reads behind the call as it read before'; 0 by the template 'total and deterministic' (their statements: YtlhlbedbfjanhaaTotals.lean).
  GIVEN WITH THE SEED: the statements are not yours to turn. If you find one false, say at which input.
  Laid BY PROGRAM, IN A SANDBOX (cutbox-rows.mjs): the forced cells as the released guide's own fill.sh prints them over the translation 23588e216766d49b… (all of the seat's roots in one cut). By AI agents, Wed Nov 11 2026. No macro, syntax, notation, axiom, sorry.
-/
import Derived.Test.YtlhlbedbfjanhaaChecked
import GoSem.Claim
import GoSem.ClaimJoined
import GoSem.ClaimMapViews
import Derived.JoinedTies
import Derived.KernelRfl
namespace Go.Proofs.Ytlhlbedbfjanhaa
/- THE CELL 'sum', in the pinned program and in every row, IS THE sha256 OF THE DUMP (.gsa) THAT YtlhlbedbfjanhaaProg.lean LOADS. Nothing in Lean hashes anything: it is a label: what it is worth is what the hold of that sum in a sandbox is worth. -/
noncomputable def Try.pinned : Pinned := { name := "ytlhlbedbfjanhaa", sum := "23588e216766d49b648b5b4cf9ac18665cf85db82bf5eb97c8260dd4f8c994fb", checked := Try.checked }
namespace Rows
def none {H : Type} : Left H := { results := [], args := [] }

/-- 'roundelaylaw11.ClockParts': WHATEVER THE INPUT: true; the input reads as it did. -/
def clockPartsSpec : ChangeSpec := { name := "clockParts", fn := fun _ => fun
  | [d1, d2, d3] => { results := [.lit (.bool true)], args := [d1, d2, d3] }
  | _ => none }
def clockPartsRow : OpenClaim := { program := "ytlhlbedbfjanhaa", sum := "23588e216766d49b648b5b4cf9ac18665cf85db82bf5eb97c8260dd4f8c994fb", func := "roundelay/roundelaylaw11.ClockParts", spec := "clockParts", unfollowed := true, recurses := true, apart := false }
def ClockPartsSaid : Prop := clockPartsRow.holds Try.pinned (OpenSpec.ofChange clockPartsSpec)

/-- ITS FALSE NEIGHBOUR: 'it returns false'. Refute it at one input. -/
def clockPartsWrong : ChangeSpec := { name := "clockParts", fn := fun _ => fun
  | [d1, d2, d3] => { results := [.lit (.bool false)], args := [d1, d2, d3] }
  | _ => none }
def ClockPartsWrongFalsely : Prop := clockPartsRow.holds Try.pinned (OpenSpec.ofChange clockPartsWrong)

/-- 'roundelaylaw11.ClockOnce': WHATEVER THE INPUT: true; the input reads as it did. -/
def clockOnceSpec : ChangeSpec := { name := "clockOnce", fn := fun _ => fun
  | [d1, d2] => { results := [.lit (.bool true)], args := [d1, d2] }
  | _ => none }
def clockOnceRow : OpenClaim := { program := "ytlhlbedbfjanhaa", sum := "23588e216766d49b648b5b4cf9ac18665cf85db82bf5eb97c8260dd4f8c994fb", func := "roundelay/roundelaylaw11.ClockOnce", spec := "clockOnce", unfollowed := true, recurses := true, apart := false }
def ClockOnceSaid : Prop := clockOnceRow.holds Try.pinned (OpenSpec.ofChange clockOnceSpec)

/-- ITS FALSE NEIGHBOUR: 'it returns false'. Refute it at one input. -/
def clockOnceWrong : ChangeSpec := { name := "clockOnce", fn := fun _ => fun
  | [d1, d2] => { results := [.lit (.bool false)], args := [d1, d2] }
  | _ => none }
def ClockOnceWrongFalsely : Prop := clockOnceRow.holds Try.pinned (OpenSpec.ofChange clockOnceWrong)

/-- 'roundelaylaw11.ClockActs': WHATEVER THE INPUT: true; the input reads as it did. -/
def clockActsSpec : ChangeSpec := { name := "clockActs", fn := fun _ => fun
  | [d] => { results := [.lit (.bool true)], args := [d] }
  | _ => none }
def clockActsRow : OpenClaim := { program := "ytlhlbedbfjanhaa", sum := "23588e216766d49b648b5b4cf9ac18665cf85db82bf5eb97c8260dd4f8c994fb", func := "roundelay/roundelaylaw11.ClockActs", spec := "clockActs", unfollowed := true, recurses := true, apart := false }
def ClockActsSaid : Prop := clockActsRow.holds Try.pinned (OpenSpec.ofChange clockActsSpec)

/-- ITS FALSE NEIGHBOUR: 'it returns false'. Refute it at one input. -/
def clockActsWrong : ChangeSpec := { name := "clockActs", fn := fun _ => fun
  | [d] => { results := [.lit (.bool false)], args := [d] }
  | _ => none }
def ClockActsWrongFalsely : Prop := clockActsRow.holds Try.pinned (OpenSpec.ofChange clockActsWrong)

/-- 'roundelaylaw11.ClockMoved': WHATEVER THE INPUT: true; the input reads as it did. -/
def clockMovedSpec : ChangeSpec := { name := "clockMoved", fn := fun _ => fun
  | [d1, d2, d3] => { results := [.lit (.bool true)], args := [d1, d2, d3] }
  | _ => none }
def clockMovedRow : OpenClaim := { program := "ytlhlbedbfjanhaa", sum := "23588e216766d49b648b5b4cf9ac18665cf85db82bf5eb97c8260dd4f8c994fb", func := "roundelay/roundelaylaw11.ClockMoved", spec := "clockMoved", unfollowed := true, recurses := true, apart := false }
def ClockMovedSaid : Prop := clockMovedRow.holds Try.pinned (OpenSpec.ofChange clockMovedSpec)

/-- ITS FALSE NEIGHBOUR: 'it returns false'. Refute it at one input. -/
def clockMovedWrong : ChangeSpec := { name := "clockMoved", fn := fun _ => fun
  | [d1, d2, d3] => { results := [.lit (.bool false)], args := [d1, d2, d3] }
  | _ => none }
def ClockMovedWrongFalsely : Prop := clockMovedRow.holds Try.pinned (OpenSpec.ofChange clockMovedWrong)

/-- 'roundelaylaw11.ClockEnds': WHATEVER THE INPUT: true; the input reads as it did. -/
def clockEndsSpec : ChangeSpec := { name := "clockEnds", fn := fun _ => fun
  | [d1, d2, d3] => { results := [.lit (.bool true)], args := [d1, d2, d3] }
  | _ => none }
def clockEndsRow : OpenClaim := { program := "ytlhlbedbfjanhaa", sum := "23588e216766d49b648b5b4cf9ac18665cf85db82bf5eb97c8260dd4f8c994fb", func := "roundelay/roundelaylaw11.ClockEnds", spec := "clockEnds", unfollowed := true, recurses := true, apart := false }
def ClockEndsSaid : Prop := clockEndsRow.holds Try.pinned (OpenSpec.ofChange clockEndsSpec)

/-- ITS FALSE NEIGHBOUR: 'it returns false'. Refute it at one input. -/
def clockEndsWrong : ChangeSpec := { name := "clockEnds", fn := fun _ => fun
  | [d1, d2, d3] => { results := [.lit (.bool false)], args := [d1, d2, d3] }
  | _ => none }
def ClockEndsWrongFalsely : Prop := clockEndsRow.holds Try.pinned (OpenSpec.ofChange clockEndsWrong)

/-- 'roundelaylaw11.ClockNow': WHATEVER THE INPUT: true; the input reads as it did. -/
def clockNowSpec : ChangeSpec := { name := "clockNow", fn := fun _ => fun
  | [d1, d2] => { results := [.lit (.bool true)], args := [d1, d2] }
  | _ => none }
def clockNowRow : OpenClaim := { program := "ytlhlbedbfjanhaa", sum := "23588e216766d49b648b5b4cf9ac18665cf85db82bf5eb97c8260dd4f8c994fb", func := "roundelay/roundelaylaw11.ClockNow", spec := "clockNow", unfollowed := true, recurses := true, apart := false }
def ClockNowSaid : Prop := clockNowRow.holds Try.pinned (OpenSpec.ofChange clockNowSpec)

/-- ITS FALSE NEIGHBOUR: 'it returns false'. Refute it at one input. -/
def clockNowWrong : ChangeSpec := { name := "clockNow", fn := fun _ => fun
  | [d1, d2] => { results := [.lit (.bool false)], args := [d1, d2] }
  | _ => none }
def ClockNowWrongFalsely : Prop := clockNowRow.holds Try.pinned (OpenSpec.ofChange clockNowWrong)

/- THE SECOND FORM. 'bulk': how many values and letters a reading holds, each counted each time it is reached (what is shared counts as often as it is met; a slice's spare places count too). A statement '..UptoSaid' is the law's where the arguments, and the package variables that the reading takes, are together of bulk at most 1048576: NARROWER than '..Said'. Prove '..Said' where nothing that the law and all that it calls make is longer than what came in: it says more and counts as full. Else prove '..UptoSaid'. A law counts once. -/
mutual
def uptoBulk {H : Type} : DataW H → Nat
  | .lit (.string bytes) => bytes.length + 1
  | .lit _ => 1
  | .nil => 1
  | .ptr d => uptoBulk d + 1
  | .slice elems spare => uptoBulkAll elems + uptoBulkAll spare + 1
  | .agg parts => uptoBulkAll parts + 1
  | .iface _ d => uptoBulk d + 1
  | .map entries => uptoBulkEntries entries + 1
  | .held _ => 1
def uptoBulkAll {H : Type} : List (DataW H) → Nat
  | [] => 0
  | d :: r => uptoBulk d + uptoBulkAll r
def uptoBulkEntries {H : Type} : List (Lit × DataW H) → Nat
  | [] => 0
  | x :: r => uptoBulkEntry x + uptoBulkEntries r
def uptoBulkEntry {H : Type} : Lit × DataW H → Nat
  | (.string bytes, d) => bytes.length + uptoBulk d + 1
  | (_, d) => uptoBulk d + 1
 end
def uptoSmall : (H : Type) → List (DataW H) → Bool := fun _ ds => decide (uptoBulkAll ds ≤ 1048576)
def OpenSpec.upto (s : _root_.Go.ChangeSpec) : _root_.Go.OpenSpec := { _root_.Go.OpenSpec.ofChange s with cond := some uptoSmall }

/-- 'roundelaylaw11.ClockParts', WHERE WHAT IT READS IS OF BULK AT MOST 1048576: true; the input reads as it did. -/
def clockPartsUptoRow : OpenClaim := { program := "ytlhlbedbfjanhaa", sum := "23588e216766d49b648b5b4cf9ac18665cf85db82bf5eb97c8260dd4f8c994fb", func := "roundelay/roundelaylaw11.ClockParts", spec := "clockParts", unfollowed := true, recurses := true, apart := false, narrowed := true }
def ClockPartsUptoSaid : Prop := clockPartsUptoRow.holds Try.pinned (OpenSpec.upto clockPartsSpec)

/-- 'roundelaylaw11.ClockOnce', WHERE WHAT IT READS IS OF BULK AT MOST 1048576: true; the input reads as it did. -/
def clockOnceUptoRow : OpenClaim := { program := "ytlhlbedbfjanhaa", sum := "23588e216766d49b648b5b4cf9ac18665cf85db82bf5eb97c8260dd4f8c994fb", func := "roundelay/roundelaylaw11.ClockOnce", spec := "clockOnce", unfollowed := true, recurses := true, apart := false, narrowed := true }
def ClockOnceUptoSaid : Prop := clockOnceUptoRow.holds Try.pinned (OpenSpec.upto clockOnceSpec)

/-- 'roundelaylaw11.ClockActs', WHERE WHAT IT READS IS OF BULK AT MOST 1048576: true; the input reads as it did. -/
def clockActsUptoRow : OpenClaim := { program := "ytlhlbedbfjanhaa", sum := "23588e216766d49b648b5b4cf9ac18665cf85db82bf5eb97c8260dd4f8c994fb", func := "roundelay/roundelaylaw11.ClockActs", spec := "clockActs", unfollowed := true, recurses := true, apart := false, narrowed := true }
def ClockActsUptoSaid : Prop := clockActsUptoRow.holds Try.pinned (OpenSpec.upto clockActsSpec)

/-- 'roundelaylaw11.ClockMoved', WHERE WHAT IT READS IS OF BULK AT MOST 1048576: true; the input reads as it did. -/
def clockMovedUptoRow : OpenClaim := { program := "ytlhlbedbfjanhaa", sum := "23588e216766d49b648b5b4cf9ac18665cf85db82bf5eb97c8260dd4f8c994fb", func := "roundelay/roundelaylaw11.ClockMoved", spec := "clockMoved", unfollowed := true, recurses := true, apart := false, narrowed := true }
def ClockMovedUptoSaid : Prop := clockMovedUptoRow.holds Try.pinned (OpenSpec.upto clockMovedSpec)

/-- 'roundelaylaw11.ClockEnds', WHERE WHAT IT READS IS OF BULK AT MOST 1048576: true; the input reads as it did. -/
def clockEndsUptoRow : OpenClaim := { program := "ytlhlbedbfjanhaa", sum := "23588e216766d49b648b5b4cf9ac18665cf85db82bf5eb97c8260dd4f8c994fb", func := "roundelay/roundelaylaw11.ClockEnds", spec := "clockEnds", unfollowed := true, recurses := true, apart := false, narrowed := true }
def ClockEndsUptoSaid : Prop := clockEndsUptoRow.holds Try.pinned (OpenSpec.upto clockEndsSpec)

/-- 'roundelaylaw11.ClockNow', WHERE WHAT IT READS IS OF BULK AT MOST 1048576: true; the input reads as it did. -/
def clockNowUptoRow : OpenClaim := { program := "ytlhlbedbfjanhaa", sum := "23588e216766d49b648b5b4cf9ac18665cf85db82bf5eb97c8260dd4f8c994fb", func := "roundelay/roundelaylaw11.ClockNow", spec := "clockNow", unfollowed := true, recurses := true, apart := false, narrowed := true }
def ClockNowUptoSaid : Prop := clockNowUptoRow.holds Try.pinned (OpenSpec.upto clockNowSpec)

end Rows
end Go.Proofs.Ytlhlbedbfjanhaa
