/- Slices of texts opened with their sizes; the four variables of FaultText's row. -/
import Derived.Test.YtekmfdcmnmehoaaDoorRowS
import Derived.Test.YtekmfdcmnmehoaaDoorFaX
import Derived.LaidSub
import Derived.Lay
import Derived.Lib.LaidTab
import Derived.Lib.LaidIn
namespace Go.Proofs.YtekmfdcmnmehoaaDoor
open Go.ChangeShapes Go.WideShapes Go.ChangeAt Go.RowKit Go.Deep

theorem wts_strs {H : Type} {P : Program} {e : TypeId} (Sx : Nat → ByteArray) : ∀ (l : List Nat), (DataW.weightsAll P e (l.map fun i => (DataW.lit (.string (Sx i).data.toList) : DataW H))).all (· ≤ reachBytes) = true → ∀ i ∈ l, (Sx i).size ≤ reachBytes
  | [], _, i, hi => by cases hi
  | j :: l, h, i, hi => by
    simp only [List.map_cons, DataW.weightsAll, DataW.weights, List.all_append, List.all_cons, List.all_nil, Bool.and_true, Bool.and_eq_true, decide_eq_true_eq] at h
    rcases List.mem_cons.1 hi with rfl | hi
    · have := h.1
      simpa using this
    · exact wts_strs Sx l h.2 i hi

theorem strs_open2 {H : Type} {enc : TypeId × Value → H} {w : World} {base : Nat} {spare : Nat → Bool} {held : Bool} {v : Value} {d : DataW H} {ps : List MemPlace}
    (h : DataW.Trod enc Tryd.prog w base spare held 22 v d ps) (hv : v.cells.toList = [v]) (hw : (d.weights Tryd.prog 22).all (· ≤ reachBytes) = true) : ∃ ss, SRead w v ss ∧ ∀ s ∈ ss, s.size ≤ 281474976710656 := by
  obtain ⟨fuel, h⟩ := h
  rw [hv] at h
  have hc : Tryd.prog.cellsOf 9 = 1 := by kernel_rfl
  rcases Go.Deep.open_strs Tryd.underlying22 Tryd.underlying9 hc h with ⟨hcs, _⟩ | ⟨a, len, cap, m, Sx, hcs, hb, hl, hm, hmm, hd, hx⟩
  · simp only [List.cons.injEq, and_true] at hcs
    subst hcs
    exact ⟨[], ⟨by simp, none, 0, rfl, by simp, by simp, by simp, fun h => by simp at h⟩, by simp⟩
  · simp only [List.cons.injEq, and_true] at hcs
    subst hcs
    have hlm : len ≤ m := by rw [hmm]; split <;> omega
    have hmax : cap ≤ 9223372036854775807 := by unfold maxLen at hm; omega
    have hll : ((List.range len).map Sx).length = len := by simp
    simp only [Prod.mk.injEq] at hd
    obtain ⟨rfl, _⟩ := hd
    have hw2 : (DataW.weightsAll Tryd.prog 9 ((List.range len).map fun i => (DataW.lit (.string (Sx i).data.toList) : DataW H))).all (· ≤ reachBytes) = true := by
      simp only [DataW.weights, Tryd.underlying22, List.all_cons, List.all_append, Bool.and_eq_true] at hw
      exact hw.2.1
    refine ⟨(List.range len).map Sx, ⟨by rw [hll]; omega, some a, cap, by rw [hll], by rw [hll]; exact hl, hmax, fun s hs => ?_, fun hpos => ?_⟩, fun s hs => ?_⟩
    · obtain ⟨i, hi, rfl⟩ := List.mem_map.1 hs
      have h2 := (hx i (by have := List.mem_range.1 hi; omega)).2
      unfold maxLen at h2; omega
    · rw [hll] at hpos
      have hsp : a.spot = none := by
        have := (hx 0 (by omega)).1
        simp only [Addr.add, if_true] at this
        exact spot_none this
      obtain ⟨b, o, sp⟩ := a
      simp only at hsp
      subst hsp
      refine ⟨b, o, rfl, fun i hi => ?_⟩
      have hi' : i < len := by simpa using hi
      have h1 := (hx i (by omega)).1
      have e : (⟨b, o, none⟩ : Addr).add i = ⟨b, o + i, none⟩ := by
        unfold Addr.add; split <;> simp_all
      rw [e] at h1
      simpa using h1
    · obtain ⟨i, hi, rfl⟩ := List.mem_map.1 hs
      have h2 := wts_strs Sx _ hw2 i hi
      unfold reachBytes at h2; omega

def laidL4 : List (String × DataW Unit) := [("math/bits.deBruijn32tab", Rows.laid_math_bits_deBruijn32tab), ("math/bits.deBruijn64tab", Rows.laid_math_bits_deBruijn64tab), ("internal/strconv.uint64pow10", Rows.laid_internal_strconv_uint64pow10), ("errors.errorType", Rows.laid_errors_errorType)]
theorem keep_err : (laidL4.filter fun x => x.1 == "errors.errorType") = laidL := by kernel_rfl
theorem errT_of_laid4 {W : World} (h : laidMetH Tryd.prog laidL4 W) : ErrT W := by
  have := h.filter (fun x => x.1 == "errors.errorType")
  rw [keep_err] at this
  exact errT_of_laid this
theorem keep_pow : ((laidL4.filter fun x => x.1 == "internal/strconv.uint64pow10").filter fun x => x.2.handleName?.isNone) = [("internal/strconv.uint64pow10", Lib.tabData .u64 Lib.pow10Tab)] := by rfl
theorem gPow : (Tryd.prog.globals[1]?).map (·.type) = some 88 := by kernel_rfl
theorem PT_of_laid4 {W : World} (h : laidMetH Tryd.prog laidL4 W) : PT W := by
  have h1 := (laidMetH_iff.1 (h.filter (fun x => x.1 == "internal/strconv.uint64pow10"))).1
  rw [keep_pow] at h1
  exact Lib.tabIs_of_head pt_name gPow Tryd.underlying88 Tryd.underlying80 (by kernel_rfl) (by kernel_rfl) h1

/-- A world that meets the condition. -/
noncomputable def laidWorld4 (os : Os) : World :=
  let w0 := World.laidAll Tryd.prog os (laidL4.filter fun x => x.2.handleName?.isNone)
  { w0 with heap := w0.heap.modify 0 fun
      | .cells _ t frozen => .cells #[.iface 64 (.agg #[.pointer (some ⟨4, 25, none⟩)])] t frozen
      | o => o }
theorem laidWorld4_met (os : Os) (args : Array Value) : laidMetH Tryd.prog laidL4 ((laidWorld4 os).forCall (fun _ _ => 0) ⟨#[], args, []⟩).memory :=
  laidMetH_of_parts ((LaidIn.of_run [2, 3, 1] 8 (by kernel_rfl) (by kernel_rfl) (by kernel_rfl) (by kernel_rfl)).met) (by kernel_rfl)
end Go.Proofs.YtekmfdcmnmehoaaDoor
