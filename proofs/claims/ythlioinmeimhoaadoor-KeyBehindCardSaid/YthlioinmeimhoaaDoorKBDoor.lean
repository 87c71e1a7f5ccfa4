/- What KeyBehind's tied card's condition gives a walk: the decoder's two tables are laid; a world that meets it. -/
import Derived.Test.YthlioinmeimhoaaDoorKyG
import Derived.Test.YthlioinmeimhoaaDoorTDoor
namespace Go.Proofs.YthlioinmeimhoaaDoor
open Go.ChangeShapes Go.WideShapes Go.ChangeAt Go.RowKit Go.Deep Go.Lib

def laidB : List (String × DataW Unit) := [("unicode/utf8.acceptRanges", Rows.laid_unicode_utf8_acceptRanges), ("unicode/utf8.first", Rows.laid_unicode_utf8_first)]
theorem keep_plainB : (laidB.filter fun x => x.2.handleName?.isNone) = [("unicode/utf8.acceptRanges", Lib.acceptData), ("unicode/utf8.first", Lib.firstData)] := by kernel_rfl
theorem tabs_of_laidB {W : World} (h : laidMetH Tryd.prog laidB W) : Tabs W := by
  have h1 := (laidMetH_iff.1 h).1
  rw [keep_plainB] at h1
  exact utf8Tabs_of_reads Tryd.lays260 u8x (Go.Lib.laidMet.reads h1 (List.mem_cons_of_mem _ (List.mem_singleton.2 rfl))) (Go.Lib.laidMet.reads h1 (List.mem_cons_self ..))

/-- A world that meets the condition. -/
noncomputable def laidWorldB (os : Os) : World := World.laidAll Tryd.prog os (laidB.filter fun x => x.2.handleName?.isNone)
theorem laidWorldB_met (os : Os) (args : Array Value) : laidMetH Tryd.prog laidB ((laidWorldB os).forCall (fun _ _ => 0) ⟨#[], args, []⟩).memory :=
  laidMetH_of_parts ((LaidIn.of_run [4, 3] 8 (by kernel_rfl) (by kernel_rfl) (by kernel_rfl) (by kernel_rfl)).met) (by kernel_rfl)
end Go.Proofs.YthlioinmeimhoaaDoor
