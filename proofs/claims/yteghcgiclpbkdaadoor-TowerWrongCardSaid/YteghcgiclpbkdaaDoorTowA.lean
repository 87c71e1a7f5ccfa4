/- Names of things: named; IndexFunc, ContainsFunc over texts; Ask's own look at a name. -/
import Derived.Test.YteghcgiclpbkdaaDoorKeys
import Derived.Test.YteghcgiclpbkdaaDoorRow
import Derived.Lib.Strings
namespace Go.Proofs.YteghcgiclpbkdaaDoor
open Go.RowKit

/-- v is a slice that reads as the texts ss. -/
def SRead (w : World) (v : Value) (ss : List ByteArray) : Prop :=
  ss.length ≤ 9223372036854775807 ∧ ∃ a cap, v = .slice a ss.length cap ∧ ss.length ≤ cap ∧ cap ≤ 9223372036854775807 ∧ (∀ s ∈ ss, s.size ≤ 9223372036854775807) ∧ (0 < ss.length → ∃ b off, a = some ⟨b, off, none⟩ ∧ ∀ i (h : i < ss.length), w.cell? ⟨b, off + i, none⟩ = some (.string ss[i]))
theorem SRead.below {w w2 : World} {v : Value} {ss : List ByteArray} (h : SRead w v ss) (hb : Below w.heap.size w w2) : SRead w2 v ss := by
  obtain ⟨hm, a, cap, rfl, h1, h2, h3, h⟩ := h
  refine ⟨hm, a, cap, rfl, h1, h2, h3, fun hl => ?_⟩
  obtain ⟨b, off, rfl, hc⟩ := h hl
  exact ⟨b, off, rfl, fun i hi => bcell hb (hc i hi)⟩

theorem below_two (w : World) (o o2 : Obj) : Below w.heap.size w ((w.alloc o).alloc o2) := ((Below.refl _ _).alloc (Nat.le_refl _) o).alloc (by simp) o2

set_option maxHeartbeats 400000 in
theorem named_any (v : Value) (ss : List ByteArray) (w : World) (hv : SRead w v ss) :
    Calls Tryd.prog 63 #[v] w fun e w' => e = .returned (thingV (thingOf ss)) ∧ Below w.heap.size w w' := by
  obtain ⟨hm, a, cap, rfl, _, _, _, hv⟩ := hv
  cases ss with
  | nil =>
    go_enter Tryd.func63, Tryd.ntmps63
    go_wp2
    exact bodyPost_ret (v := thingV (thingOf [])) (by simp [results, Tryd.results63, go_sem, thingV, thingOf]) rfl ⟨rfl, below_two _ _ _⟩
  | cons s ss =>
    obtain ⟨b, off, rfl, hc⟩ := hv (by simp)
    have c0 : w.cell? ⟨b, off, none⟩ = some (.string s) := hc 0 (by simp)
    have hlt := World.block_lt_of_cell? w _ c0
    have hne : b ≠ w.heap.size := Nat.ne_of_lt hlt
    cases ss with
    | nil =>
      clear hc hv
      have d0 : ∀ o o2, ((w.alloc o).alloc o2).cell? ⟨b, off, none⟩ = some (.string s) := fun o o2 => bcell (below_two w o o2) c0
      clear c0
      go_enter Tryd.func63, Tryd.ntmps63
      go_wp2
      exact bodyPost_ret (v := thingV (thingOf [s])) (by simp [results, Tryd.results63, go_sem, thingV, thingOf]) rfl ⟨rfl, (below_two _ _ _)⟩
    | cons s2 ss =>
      have c1 : w.cell? ⟨b, off + 1, none⟩ = some (.string s2) := hc 1 (by simp)
      have d0 : ∀ o o2, ((w.alloc o).alloc o2).cell? ⟨b, off, none⟩ = some (.string s) := fun o o2 => bcell (below_two w o o2) c0
      have d1 : ∀ o o2, ((w.alloc o).alloc o2).cell? ⟨b, off + 1, none⟩ = some (.string s2) := fun o o2 => bcell (below_two w o o2) c1
      have hp0 : (0 : Int) < (ss.length : Int) + 1 + 1 := by omega
      have hp1 : (1 : Int) < (ss.length : Int) + 1 + 1 := by omega
      clear c0 c1 hc hv
      go_enter Tryd.func63, Tryd.ntmps63
      go_wp2
      exact bodyPost_ret (v := thingV (thingOf (s :: s2 :: ss))) (by simp [results, Tryd.results63, go_sem, thingV, thingOf]) rfl ⟨rfl, (below_two _ _ _)⟩
end Go.Proofs.YteghcgiclpbkdaaDoor
