/- Slices of texts opened. -/
import Derived.Test.YtekmfdcmnmehoaaDoorFaB
import Derived.Test.YtekmfdcmnmehoaaDoorFDoor
import Derived.Deep.Strs
namespace Go.Proofs.YtekmfdcmnmehoaaDoor
open Go.ChangeShapes Go.WideShapes Go.ChangeAt Go.RowKit Go.Deep

theorem spot_none {w : World} {a : Addr} {v : Value} (h : w.cell? a = some v) : a.spot = none := by
  cases hs : a.spot with
  | none => rfl
  | some s =>
    unfold World.cell? at h
    split at h
    · rw [hs] at h; simp at h
    · simp at h
theorem wf_u8 {n : Int} (h : (Lit.int .u8 n).wf = true) : 0 ≤ n ∧ n ≤ 255 := by simpa [Lit.wf, IntKind.min, IntKind.max, IntKind.signed, IntKind.bits] using h

theorem strs_open {H : Type} {enc : TypeId × Value → H} {w : World} {base : Nat} {spare : Nat → Bool} {held : Bool} {v : Value} {d : DataW H} {ps : List MemPlace}
    (h : DataW.Trod enc Tryd.prog w base spare held 22 v d ps) (hv : v.cells.toList = [v]) : ∃ ss, SRead w v ss := by
  obtain ⟨fuel, h⟩ := h
  rw [hv] at h
  have hc : Tryd.prog.cellsOf 9 = 1 := by kernel_rfl
  rcases Go.Deep.open_strs Tryd.underlying22 Tryd.underlying9 hc h with ⟨hcs, _⟩ | ⟨a, len, cap, m, Sx, hcs, hb, hl, hm, hmm, _, hx⟩
  · simp only [List.cons.injEq, and_true] at hcs
    subst hcs
    exact ⟨[], by simp, none, 0, rfl, by simp, by simp, by simp, fun h => by simp at h⟩
  · simp only [List.cons.injEq, and_true] at hcs
    subst hcs
    have hlm : len ≤ m := by rw [hmm]; split <;> omega
    have hmax : cap ≤ 9223372036854775807 := by unfold maxLen at hm; omega
    have hll : ((List.range len).map Sx).length = len := by simp
    refine ⟨(List.range len).map Sx, by rw [hll]; omega, some a, cap, by rw [hll], by rw [hll]; exact hl, hmax, fun s hs => ?_, fun hpos => ?_⟩
    · obtain ⟨i, hi, rfl⟩ := List.mem_map.1 hs
      have h2 := (hx i (by have := List.mem_range.1 hi; omega)).2
      unfold maxLen at h2; omega
    · rw [hll] at hpos
      have hsp : a.spot = none := by
        have := (hx 0 (by omega)).1
        simp only [Addr.add, if_true] at this
        exact spot_none this
      obtain ⟨b, o, sp⟩ := a
      simp only at hsp
      subst hsp
      refine ⟨b, o, rfl, fun i hi => ?_⟩
      have hi' : i < len := by simpa using hi
      have h1 := (hx i (by omega)).1
      have e : (⟨b, o, none⟩ : Addr).add i = ⟨b, o + i, none⟩ := by
        unfold Addr.add; split <;> simp_all
      rw [e] at h1
      simpa using h1
end Go.Proofs.YtekmfdcmnmehoaaDoor
