/- What a tied card's condition gives a walk: errors.errorType and the decoder's two tables are laid; a world that meets it. -/
import Derived.Test.YthlioinmeimhoaaDoorTxL
import Derived.Test.YthlioinmeimhoaaDoorFDoor
import Derived.LaidSub
import Derived.Lay
import Derived.Lib.LaidTab
import Derived.Lib.LaidIn
import Derived.Lib.LaidU8
namespace Go.Proofs.YthlioinmeimhoaaDoor
open Go.ChangeShapes Go.WideShapes Go.ChangeAt Go.RowKit Go.Deep Go.Lib

def laidT : List (String × DataW Unit) := [("unicode/utf8.acceptRanges", Rows.laid_unicode_utf8_acceptRanges), ("errors.errorType", Rows.laid_errors_errorType), ("unicode/utf8.first", Rows.laid_unicode_utf8_first)]
theorem keep_errT : (laidT.filter fun x => x.1 == "errors.errorType") = laidL := by kernel_rfl
theorem errT_of_laidT {W : World} (h : laidMetH Tryd.prog laidT W) : ErrT W := by
  have := h.filter (fun x => x.1 == "errors.errorType")
  rw [keep_errT] at this
  exact errT_of_laid this
theorem keep_plain : (laidT.filter fun x => x.2.handleName?.isNone) = [("unicode/utf8.acceptRanges", Lib.acceptData), ("unicode/utf8.first", Lib.firstData)] := by kernel_rfl
theorem u8x : U8Extra Tryd.prog Tryd.lays260_ren := { n3 := by kernel_rfl, n4 := by kernel_rfl, y3 := by kernel_rfl, y4 := by kernel_rfl, c5 := by kernel_rfl, c119 := by kernel_rfl, c138 := by kernel_rfl }
theorem tabs_of_laidT {W : World} (h : laidMetH Tryd.prog laidT W) : Tabs W := by
  have h1 := (laidMetH_iff.1 h).1
  rw [keep_plain] at h1
  exact utf8Tabs_of_reads Tryd.lays260 u8x (Go.Lib.laidMet.reads h1 (List.mem_cons_of_mem _ (List.mem_singleton.2 rfl))) (Go.Lib.laidMet.reads h1 (List.mem_cons_self ..))

/-- A world that meets the condition. -/
noncomputable def laidWorldT (os : Os) : World :=
  let w0 := World.laidAll Tryd.prog os (laidT.filter fun x => x.2.handleName?.isNone)
  { w0 with heap := w0.heap.modify 2 fun
      | .cells _ t frozen => .cells #[.iface 137 (.agg #[.pointer (some ⟨6, 47, none⟩)])] t frozen
      | o => o }
theorem laidWorldT_met (os : Os) (args : Array Value) : laidMetH Tryd.prog laidT ((laidWorldT os).forCall (fun _ _ => 0) ⟨#[], args, []⟩).memory :=
  laidMetH_of_parts ((LaidIn.of_run [4, 3] 8 (by kernel_rfl) (by kernel_rfl) (by kernel_rfl) (by kernel_rfl)).met) (by kernel_rfl)
end Go.Proofs.YthlioinmeimhoaaDoor
