/- Arguments that are lists: of bytes, of entries. -/
import Derived.Test.YtecnjifincahaaaGreatDoorIyH
import Derived.Test.YtecnjifincahaaaGreatDoorIxDoor
import Derived.Deep.Strs
namespace Go.Proofs.YtecnjifincahaaaGreatDoor
open Go.ChangeShapes Go.WideShapes Go.ChangeAt Go.RowKit

set_option maxRecDepth 100000 in
theorem lists_open {H : Type} {enc : TypeId × Value → H} {w : World} {base : Nat} {spare : Nat → Bool} {held : Bool} {v : Value} {d : DataW H} {ps : List MemPlace}
    (h : DataW.Trod enc Tryz.prog w base spare held 45 v d ps) (hv : v.cells.toList = [v]) : ∃ L, LRead w.heap.size w v L := by
  obtain ⟨fuel, h⟩ := h
  rw [hv] at h
  have hce : Tryz.prog.cellsOf 24 = 1 := by kernel_rfl
  rcases Go.Deep.open_slice1 Tryz.underlying45 hce h with ⟨hcs, _⟩ | ⟨a, len, cap, m, n, V, D, Pl, hcs, hb, hl, hm, hmm, _, hx⟩
  · simp only [List.cons.injEq, and_true] at hcs
    subst hcs
    exact ⟨[], none, 0, rfl, by simp, fun h => by simp at h⟩
  · simp only [List.cons.injEq, and_true] at hcs
    subst hcs
    have hlm : len ≤ m := by rw [hmm]; split <;> omega
    have each : ∀ i, ∃ l : BL, i < len → BRead w.heap.size w (V i) l := fun i => by
      by_cases hi : i < len
      · have h2 := (hx i (by omega)).2
        have hvi : (V i).cells.toList = [V i] := by
          have hce2 : Tryz.prog.cellsOf 5 = 1 := by kernel_rfl
          rcases Go.Deep.open_slice1 Tryz.underlying24 hce2 h2 with ⟨hcs, _⟩ | ⟨_, _, _, _, _, _, _, _, hcs, _⟩ <;> (simp only [List.cons.injEq, and_true] at hcs; rw [hcs]; rfl)
        obtain ⟨l, hl⟩ := bytes_open (v := V i) (d := D i) (ps := Pl i) ⟨n, by rw [hvi]; exact h2⟩ hvi
        exact ⟨l, fun _ => hl⟩
      · exact ⟨[], fun h => absurd h hi⟩
    obtain ⟨f, hf⟩ := Classical.axiomOfChoice each
    refine ⟨(List.range len).map f, some a, cap, by simp, by simpa using hl, fun hpos => ?_⟩
    have hpos' : 0 < len := by simpa using hpos
    have hsp : a.spot = none := by
      have := (hx 0 (by omega)).1
      simp only [Addr.add, if_true] at this
      exact spot_none this
    obtain ⟨b, o, sp⟩ := a
    simp only at hsp
    subst hsp
    have hcell : ∀ i, i < len → w.cell? ⟨b, o + i, none⟩ = some (V i) := fun i hi => by
      have h1 := (hx i (by omega)).1
      have e : (⟨b, o, none⟩ : Addr).add i = ⟨b, o + i, none⟩ := by unfold Addr.add; split <;> simp_all
      rwa [e] at h1
    refine ⟨b, o, rfl, World.block_lt_of_cell? w _ (hcell 0 hpos'), fun i hi => ?_⟩
    have hi' : i < len := by simpa using hi
    exact ⟨V i, hcell i hi', by simpa using hf i hi'⟩

set_option maxRecDepth 100000 in
theorem ent_open {H : Type} {enc : TypeId × Value → H} {w : World} {base : Nat} {spare : Nat → Bool} {held : Bool} {fuel : Nat} {cs : List Value} {x : DataW H × List MemPlace}
    (h : DataW.trod enc Tryz.prog w base spare held fuel 53 cs = some x) : ∃ e : Ent, cs = [.string (BA e.1), .int .i64 e.2] := by
  obtain ⟨y0, y1, n, _, hl, h0, h1⟩ := trod_struct2 Tryz.underlying53 h
  have hc : Tryz.prog.cellsOf 53 = 2 := by kernel_rfl
  have hc1 : Tryz.prog.cellsOf 9 = 1 := by kernel_rfl
  have hc2 : Tryz.prog.cellsOf 2 = 1 := by kernel_rfl
  rw [hc] at hl
  simp only [hc1, hc2] at h0 h1
  match cs, hl with
  | [c0, c1], _ =>
    obtain ⟨a, ha, _⟩ := DataW.trod_string Tryz.underlying9 h0
    obtain ⟨b, hb, _⟩ := DataW.trod_int Tryz.underlying2 h1
    simp at ha hb
    subst ha hb
    exact ⟨(a.data.toList, b), by rw [show BA a.data.toList = a by simp [BA]]⟩

set_option maxRecDepth 100000 in
theorem ents_open {H : Type} {enc : TypeId × Value → H} {w : World} {base : Nat} {spare : Nat → Bool} {held : Bool} {v : Value} {d : DataW H} {ps : List MemPlace}
    (h : DataW.Trod enc Tryz.prog w base spare held 46 v d ps) (hv : v.cells.toList = [v]) : ∃ l, ERead w.heap.size w v l := by
  obtain ⟨fuel, h⟩ := h
  rw [hv] at h
  have hc : Tryz.prog.cellsOf 53 = 2 := by kernel_rfl
  rcases Go.Deep.open_slice Tryz.underlying46 h with ⟨hcs, _⟩ | ⟨a, len, cap, m, n, D, Pl, hcs, hb, hl, hm, hmm, _, hx⟩
  · simp only [List.cons.injEq, and_true] at hcs
    subst hcs
    exact ⟨[], ERead.nil _ _⟩
  · simp only [List.cons.injEq, and_true] at hcs
    subst hcs
    rw [hc] at hx
    have hlm : len ≤ m := by rw [hmm]; split <;> omega
    have each : ∀ i, ∃ e : Ent, i < len → w.cells? base (a.add (i * 2)) 2 = some [.string (BA e.1), .int .i64 e.2] := fun i => by
      by_cases hi : i < len
      · obtain ⟨cs', h1, h2⟩ := hx i (by omega)
        obtain ⟨e, rfl⟩ := ent_open h2
        exact ⟨e, fun _ => h1⟩
      · exact ⟨([], 0), fun h => absurd h hi⟩
    obtain ⟨f, hf⟩ := Classical.axiomOfChoice each
    refine ⟨(List.range len).map f, some a, cap, by simp, by simpa using hl, fun hpos => ?_⟩
    have hpos' : 0 < len := by simpa using hpos
    have hsp : a.spot = none := by
      have := (World.cells?_some (hf 0 hpos')).2.2 0 (by omega)
      simp only [Nat.zero_mul, Addr.add, if_true] at this
      exact spot_none this
    obtain ⟨b, o, sp⟩ := a
    simp only at hsp
    subst hsp
    have e : ∀ i j, ((⟨b, o, none⟩ : Addr).add (i * 2)).add j = ⟨b, o + i * 2 + j, none⟩ := fun i j => by
      unfold Addr.add
      by_cases h1 : i * 2 = 0
      · by_cases h2 : j = 0 <;> simp [h1, h2]
      · by_cases h2 : j = 0 <;> simp [h1, h2]
    have hcell : ∀ i, i < len → w.cell? ⟨b, o + i * 2, none⟩ = some (.string (BA (f i).1)) ∧ w.cell? ⟨b, o + i * 2 + 1, none⟩ = some (.int .i64 (f i).2) := fun i hi => by
      have hcc := (World.cells?_some (hf i hi)).2.2
      have c0 := hcc 0 (by omega)
      have c1 := hcc 1 (by omega)
      rw [e] at c0 c1
      exact ⟨by simpa using c0, by simpa using c1⟩
    refine ⟨b, o, rfl, World.block_lt_of_cell? w _ (hcell 0 hpos').1, fun i hi => ?_⟩
    have hi' : i < len := by simpa using hi
    simpa using hcell i hi'
end Go.Proofs.YtecnjifincahaaaGreatDoor
