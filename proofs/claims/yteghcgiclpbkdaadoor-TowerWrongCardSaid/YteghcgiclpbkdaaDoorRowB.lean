/- Deeds opened: what a slice of deeds that came in reads as. -/
import Derived.Test.YteghcgiclpbkdaaDoorLawC
import Derived.Test.YteghcgiclpbkdaaDoorDoor
import Derived.Deep.Strs
import Derived.WalkKit
import Derived.ProofKit
import Derived.OpenShut
import Derived.Deep.Slices
import Derived.Lib.SmallJoins
namespace Go.Proofs.YteghcgiclpbkdaaDoor
open Go.ChangeShapes Go.WideShapes Go.ChangeAt Go.RowKit Go.Deep

theorem spot_none {w : World} {a : Addr} {v : Value} (h : w.cell? a = some v) : a.spot = none := by
  cases hs : a.spot with
  | none => rfl
  | some s =>
    unfold World.cell? at h
    split at h
    · rw [hs] at h; simp at h
    · simp at h
theorem wf_u8 {n : Int} (h : (Lit.int .u8 n).wf = true) : 0 ≤ n ∧ n ≤ 255 := by simpa [Lit.wf, IntKind.min, IntKind.max, IntKind.signed, IntKind.bits] using h

theorem act_open {H : Type} {enc : TypeId × Value → H} {w : World} {base : Nat} {spare : Nat → Bool} {held : Bool} {fuel : Nat} {cs : List Value} {x : DataW H × List MemPlace}
    (h : DataW.trod enc Tryd.prog w base spare held fuel 69 cs = some x) : ∃ d : Deed, d.OK ∧ cs = [.int .u8 d.k, .int .u8 d.i, .int .u8 d.n, .int .u8 d.m] := by
  obtain ⟨y0, y1, y2, y3, n, _, hl, h0, h1, h2, h3⟩ := Go.Joins.trod_struct4 Tryd.underlying69 h
  have hc : Tryd.prog.cellsOf 69 = 4 := by kernel_rfl
  have hc1 : Tryd.prog.cellsOf 5 = 1 := by kernel_rfl
  rw [hc] at hl
  simp only [hc1] at h0 h1 h2 h3
  match cs, hl with
  | [c0, c1, c2, c3], _ =>
    obtain ⟨a, ha, _, wa⟩ := DataW.trod_int Tryd.underlying5 h0
    obtain ⟨b, hb, _, wb⟩ := DataW.trod_int Tryd.underlying5 h1
    obtain ⟨c, hcc, _, wc⟩ := DataW.trod_int Tryd.underlying5 h2
    obtain ⟨d, hd, _, wd⟩ := DataW.trod_int Tryd.underlying5 h3
    simp at ha hb hcc hd
    subst ha hb hcc hd
    exact ⟨⟨a, b, c, d⟩, ⟨wf_u8 wa, wf_u8 wb, wf_u8 wc, wf_u8 wd⟩, rfl⟩

theorem acts_open {H : Type} {enc : TypeId × Value → H} {w : World} {base : Nat} {spare : Nat → Bool} {held : Bool} {v : Value} {d : DataW H} {ps : List MemPlace}
    (h : DataW.Trod enc Tryd.prog w base spare held 61 v d ps) (hv : v.cells.toList = [v]) : ∃ l, ARead w v l := by
  obtain ⟨fuel, h⟩ := h
  rw [hv] at h
  have hc : Tryd.prog.cellsOf 69 = 4 := by kernel_rfl
  rcases open_slice Tryd.underlying61 h with ⟨hcs, _⟩ | ⟨a, len, cap, m, n, D, Pl, hcs, hb, hl, hm, hmm, _, hx⟩
  · simp only [List.cons.injEq, and_true] at hcs
    subst hcs
    exact ⟨[], by simp, by simp, none, 0, rfl, by simp, by simp, fun h => by simp at h⟩
  · simp only [List.cons.injEq, and_true] at hcs
    subst hcs
    rw [hc] at hx
    have hlm : len ≤ m := by rw [hmm]; split <;> omega
    have each : ∀ i, ∃ e : Deed, i < len → e.OK ∧ w.cells? base (a.add (i * 4)) 4 = some [.int .u8 e.k, .int .u8 e.i, .int .u8 e.n, .int .u8 e.m] := fun i => by
      by_cases hi : i < len
      · obtain ⟨cs', h1, h2⟩ := hx i (by omega)
        obtain ⟨e, he, rfl⟩ := act_open h2
        exact ⟨e, fun _ => ⟨he, h1⟩⟩
      · exact ⟨⟨0, 0, 0, 0⟩, fun h => absurd h hi⟩
    obtain ⟨f, hf⟩ := Classical.axiomOfChoice each
    have hmax : cap ≤ 9223372036854775807 := by unfold maxLen at hm; omega
    refine ⟨(List.range len).map f, by simp; omega, fun e he => ?_, some a, cap, by simp, by simpa using hl, hmax, fun hpos => ?_⟩
    · obtain ⟨i, hi, rfl⟩ := List.mem_map.1 he
      exact (hf i (List.mem_range.1 hi)).1
    · have hpos' : 0 < len := by simpa using hpos
      have hsp : a.spot = none := by
        have := (World.cells?_some (hf 0 hpos').2).2.2 0 (by omega)
        simp only [Nat.zero_mul, Addr.add, if_true] at this
        exact spot_none this
      obtain ⟨b, o, sp⟩ := a
      simp only at hsp
      subst hsp
      refine ⟨b, o, rfl, fun i hi => ?_⟩
      have hi' : i < len := by simpa using hi
      have hcell := (World.cells?_some (hf i hi').2).2.2
      have e : ∀ j, ((⟨b, o, none⟩ : Addr).add (i * 4)).add j = ⟨b, o + i * 4 + j, none⟩ := fun j => by
        unfold Addr.add
        by_cases h1 : i * 4 = 0
        · by_cases h2 : j = 0 <;> simp [h1, h2]
        · by_cases h2 : j = 0 <;> simp [h1, h2]
      have c0 := hcell 0 (by omega)
      have c1 := hcell 1 (by omega)
      have c2 := hcell 2 (by omega)
      have c3 := hcell 3 (by omega)
      rw [e] at c0 c1 c2 c3
      simp only [List.getElem_map, List.getElem_range]
      exact ⟨c0, c1, c2, c3⟩

theorem strs_open {H : Type} {enc : TypeId × Value → H} {w : World} {base : Nat} {spare : Nat → Bool} {held : Bool} {v : Value} {d : DataW H} {ps : List MemPlace}
    (h : DataW.Trod enc Tryd.prog w base spare held 70 v d ps) (hv : v.cells.toList = [v]) : ∃ ss, SRead w v ss := by
  obtain ⟨fuel, h⟩ := h
  rw [hv] at h
  have hc : Tryd.prog.cellsOf 9 = 1 := by kernel_rfl
  rcases Go.Deep.open_strs Tryd.underlying70 Tryd.underlying9 hc h with ⟨hcs, _⟩ | ⟨a, len, cap, m, Sx, hcs, hb, hl, hm, hmm, _, hx⟩
  · simp only [List.cons.injEq, and_true] at hcs
    subst hcs
    exact ⟨[], by simp, none, 0, rfl, by simp, by simp, by simp, fun h => by simp at h⟩
  · simp only [List.cons.injEq, and_true] at hcs
    subst hcs
    have hlm : len ≤ m := by rw [hmm]; split <;> omega
    have hmax : cap ≤ 9223372036854775807 := by unfold maxLen at hm; omega
    have hll : ((List.range len).map Sx).length = len := by simp
    refine ⟨(List.range len).map Sx, by rw [hll]; omega, some a, cap, by rw [hll], by rw [hll]; exact hl, hmax, fun s hs => ?_, fun hpos => ?_⟩
    · obtain ⟨i, hi, rfl⟩ := List.mem_map.1 hs
      have h2 := (hx i (by have := List.mem_range.1 hi; omega)).2
      unfold maxLen at h2; omega
    · rw [hll] at hpos
      have hsp : a.spot = none := by
        have := (hx 0 (by omega)).1
        simp only [Addr.add, if_true] at this
        exact spot_none this
      obtain ⟨b, o, sp⟩ := a
      simp only at hsp
      subst hsp
      refine ⟨b, o, rfl, fun i hi => ?_⟩
      have hi' : i < len := by simpa using hi
      have h1 := (hx i (by omega)).1
      have e : (⟨b, o, none⟩ : Addr).add i = ⟨b, o + i, none⟩ := by
        unfold Addr.add; split <;> simp_all
      rw [e] at h1
      simpa using h1
end Go.Proofs.YteghcgiclpbkdaaDoor
