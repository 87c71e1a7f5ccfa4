/- A description that is an argument. -/
import Derived.Test.YtecnjifincahaaaGreatDoorIxV
import Derived.Test.YtecnjifincahaaaGreatDoorIxDoor
import Derived.Deep.Strs
import Derived.ChangeMaps5
namespace Go.Proofs.YtecnjifincahaaaGreatDoor
open Go.ChangeShapes Go.WideShapes Go.RowKit

set_option maxRecDepth 100000 in
theorem spec_open {H : Type} {enc : TypeId × Value → H} {w W : World} {r : Reach} {b0 base : Nat} {spare : Nat → Bool} {held : Bool} {v : Value} {d : DataW H} {ps : List MemPlace}
    (hval : Value.okWide Tryz.prog W r b0 23 v) (h : DataW.Trod enc Tryz.prog w base spare held 23 v d ps) : ∃ N X u, v = .agg #[.string N, .string X, .bool u] := by
  obtain ⟨cs, rfl, _⟩ := okWide_struct Tryz.underlying23 hval
  obtain ⟨fuel, h⟩ := h
  obtain ⟨y0, y1, y2, n, _, hl, h0, h1, h2⟩ := Go.Deep.trod_struct3 Tryz.underlying23 h
  have hc : Tryz.prog.cellsOf 23 = 3 := by kernel_rfl
  have hc1 : Tryz.prog.cellsOf 9 = 1 := by kernel_rfl
  have hc2 : Tryz.prog.cellsOf 4 = 1 := by kernel_rfl
  rw [hc] at hl
  simp only [hc1, hc2] at h0 h1 h2
  rcases cs with ⟨l⟩
  match l, hl with
  | [c0, c1, c2], _ =>
    obtain ⟨a, ha, _⟩ := DataW.trod_string Tryz.underlying9 h0
    obtain ⟨b, hb, _⟩ := DataW.trod_string Tryz.underlying9 h1
    obtain ⟨c, hcc, _⟩ := DataW.trod_bool Tryz.underlying4 h2
    simp [Value.cells] at ha hb hcc
    subst ha hb hcc
    exact ⟨a, b, c, rfl⟩
end Go.Proofs.YtecnjifincahaaaGreatDoor
