/- The clock's deeds opened: what a slice of deeds that came in reads as. -/
import Derived.Test.YtlhlbedbfjanhaaBase
import Derived.Test.YtlhlbedbfjanhaaRows
import Derived.WalkKit
import Derived.ProofKit
import Derived.OpenShut
import Derived.Deep.Slices
import Derived.Lib.SmallJoins
import Derived.Deep.Strs
namespace Go.Proofs.Ytlhlbedbfjanhaa
open Go.ChangeShapes Go.WideShapes Go.ChangeAt Go.RowKit Go.Deep

theorem spot_none {w : World} {a : Addr} {v : Value} (h : w.cell? a = some v) : a.spot = none := by
  cases hs : a.spot with
  | none => rfl
  | some s =>
    unfold World.cell? at h
    split at h
    · rw [hs] at h; simp at h
    · simp at h
theorem wf_u8 {n : Int} (h : (Lit.int .u8 n).wf = true) : 0 ≤ n ∧ n ≤ 255 := by simpa [Lit.wf, IntKind.min, IntKind.max, IntKind.signed, IntKind.bits] using h

structure CDeed where
  k : Int
  i : Int
  n : Int
structure CDeed.OK (a : CDeed) : Prop where
  k : 0 ≤ a.k ∧ a.k ≤ 255
  i : 0 ≤ a.i ∧ a.i ≤ 255
  n : -9223372036854775808 ≤ a.n ∧ a.n ≤ 9223372036854775807
/-- v is a slice that reads as the deeds l. -/
def CRead (w : World) (v : Value) (l : List CDeed) : Prop :=
  l.length ≤ 9223372036854775807 ∧ (∀ a ∈ l, a.OK) ∧ ∃ a cap, v = .slice a l.length cap ∧ l.length ≤ cap ∧ cap ≤ 9223372036854775807 ∧ (0 < l.length → ∃ b off, a = some ⟨b, off, none⟩ ∧
    ∀ i (h : i < l.length), w.cell? ⟨b, off + i * 3, none⟩ = some (.int .u8 l[i].k) ∧ w.cell? ⟨b, off + i * 3 + 1, none⟩ = some (.int .u8 l[i].i) ∧ w.cell? ⟨b, off + i * 3 + 2, none⟩ = some (.int .i64 l[i].n))
theorem CRead.below {w w2 : World} {v : Value} {l : List CDeed} (h : CRead w v l) (hb : Below w.heap.size w w2) : CRead w2 v l := by
  obtain ⟨hm, ho, a, cap, rfl, h1, h2, h⟩ := h
  refine ⟨hm, ho, a, cap, rfl, h1, h2, fun hl => ?_⟩
  obtain ⟨b, off, rfl, hc⟩ := h hl
  exact ⟨b, off, rfl, fun i hi => ⟨bcell hb (hc i hi).1, bcell hb (hc i hi).2.1, bcell hb (hc i hi).2.2⟩⟩
theorem wf_i64 {n : Int} (h : (Lit.int .i64 n).wf = true) : -9223372036854775808 ≤ n ∧ n ≤ 9223372036854775807 := by simpa [Lit.wf, IntKind.min, IntKind.max, IntKind.signed, IntKind.bits] using h

theorem cact_open {H : Type} {enc : TypeId × Value → H} {w : World} {base : Nat} {spare : Nat → Bool} {held : Bool} {fuel : Nat} {cs : List Value} {x : DataW H × List MemPlace}
    (h : DataW.trod enc Try.prog w base spare held fuel 28 cs = some x) : ∃ d : CDeed, d.OK ∧ cs = [.int .u8 d.k, .int .u8 d.i, .int .i64 d.n] := by
  obtain ⟨y0, y1, y2, n, _, hl, h0, h1, h2⟩ := trod_struct3 Try.underlying28 h
  have hc : Try.prog.cellsOf 28 = 3 := by kernel_rfl
  have hc1 : Try.prog.cellsOf 5 = 1 := by kernel_rfl
  have hc2 : Try.prog.cellsOf 3 = 1 := by kernel_rfl
  rw [hc] at hl
  simp only [hc1, hc2] at h0 h1 h2
  match cs, hl with
  | [c0, c1, c2], _ =>
    obtain ⟨a, ha, _, wa⟩ := DataW.trod_int Try.underlying5 h0
    obtain ⟨b, hb, _, wb⟩ := DataW.trod_int Try.underlying5 h1
    obtain ⟨c, hcc, _, wc⟩ := DataW.trod_int Try.underlying3 h2
    simp at ha hb hcc
    subst ha hb hcc
    exact ⟨⟨a, b, c⟩, ⟨wf_u8 wa, wf_u8 wb, wf_i64 wc⟩, rfl⟩

theorem cacts_open {H : Type} {enc : TypeId × Value → H} {w : World} {base : Nat} {spare : Nat → Bool} {held : Bool} {v : Value} {d : DataW H} {ps : List MemPlace}
    (h : DataW.Trod enc Try.prog w base spare held 22 v d ps) (hv : v.cells.toList = [v]) : ∃ l, CRead w v l := by
  obtain ⟨fuel, h⟩ := h
  rw [hv] at h
  have hc : Try.prog.cellsOf 28 = 3 := by kernel_rfl
  rcases open_slice Try.underlying22 h with ⟨hcs, _⟩ | ⟨a, len, cap, m, n, D, Pl, hcs, hb, hl, hm, hmm, _, hx⟩
  · simp only [List.cons.injEq, and_true] at hcs
    subst hcs
    exact ⟨[], by simp, by simp, none, 0, rfl, by simp, by simp, fun h => by simp at h⟩
  · simp only [List.cons.injEq, and_true] at hcs
    subst hcs
    rw [hc] at hx
    have hlm : len ≤ m := by rw [hmm]; split <;> omega
    have each : ∀ i, ∃ e : CDeed, i < len → e.OK ∧ w.cells? base (a.add (i * 3)) 3 = some [.int .u8 e.k, .int .u8 e.i, .int .i64 e.n] := fun i => by
      by_cases hi : i < len
      · obtain ⟨cs', h1, h2⟩ := hx i (by omega)
        obtain ⟨e, he, rfl⟩ := cact_open h2
        exact ⟨e, fun _ => ⟨he, h1⟩⟩
      · exact ⟨⟨0, 0, 0⟩, fun h => absurd h hi⟩
    obtain ⟨f, hf⟩ := Classical.axiomOfChoice each
    have hmax : cap ≤ 9223372036854775807 := by unfold maxLen at hm; omega
    refine ⟨(List.range len).map f, by simp; omega, fun e he => ?_, some a, cap, by simp, by simpa using hl, hmax, fun hpos => ?_⟩
    · obtain ⟨i, hi, rfl⟩ := List.mem_map.1 he
      exact (hf i (List.mem_range.1 hi)).1
    · have hpos' : 0 < len := by simpa using hpos
      have hsp : a.spot = none := by
        have := (World.cells?_some (hf 0 hpos').2).2.2 0 (by omega)
        simp only [Nat.zero_mul, Addr.add, if_true] at this
        exact spot_none this
      obtain ⟨b, o, sp⟩ := a
      simp only at hsp
      subst hsp
      refine ⟨b, o, rfl, fun i hi => ?_⟩
      have hi' : i < len := by simpa using hi
      have hcell := (World.cells?_some (hf i hi').2).2.2
      have e : ∀ j, ((⟨b, o, none⟩ : Addr).add (i * 3)).add j = ⟨b, o + i * 3 + j, none⟩ := fun j => by
        unfold Addr.add
        by_cases h1 : i * 3 = 0
        · by_cases h2 : j = 0 <;> simp [h1, h2]
        · by_cases h2 : j = 0 <;> simp [h1, h2]
      have c0 := hcell 0 (by omega)
      have c1 := hcell 1 (by omega)
      have c2 := hcell 2 (by omega)
      rw [e] at c0 c1 c2
      simp only [List.getElem_map, List.getElem_range]
      exact ⟨c0, c1, c2⟩
end Go.Proofs.Ytlhlbedbfjanhaa
