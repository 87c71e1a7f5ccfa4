/- clock.New. -/
import Derived.Test.YtlhlbedbfjanhaaClB
namespace Go.Proofs.Ytlhlbedbfjanhaa
open Go.RowKit

theorem zeroWheel (w : World) : (zeroValue 49).run Try.prog w = .ok (.agg (.int .i64 0 :: .map none :: List.replicate 64 (.map none)).toArray) w := by kernel_rfl
theorem wcells_zero (mb : Nat) : wcells 0 mb (fun _ => none) = .int .i64 0 :: .map (some mb) :: List.replicate 64 (.map none) := by
  unfold wcells
  congr 2
/-- the first i slots are made. -/
structure NewAt (w wr : World) (i : Nat) : Prop where
  blk : Blk wr (w.heap.size + 1) 49 (wcells 0 w.heap.size (fun k => if k < i then some (w.heap.size + 2 + k) else none))
  map : MapS i64V wr w.heap.size (fun _ => none)
  slot : ∀ k, k < i → MapS i64V wr (w.heap.size + 2 + k) (fun _ => none)
  bel : Below w.heap.size w wr
  size : wr.heap.size = w.heap.size + 2 + i
theorem NewAt.start (w : World) : NewAt w ((w.alloc (.map #[] 0)).alloc (.cells (.int .i64 0 :: .map (some w.heap.size) :: List.replicate 64 (.map none)).toArray 49)) 0 := by
  refine ⟨?_, (MapS.made w).only (Only.alloc NoneS _ _) (fun h => h), fun k hk => absurd hk (Nat.not_lt_zero k), ((Below.refl _ w).alloc (Nat.le_refl _) _).alloc (by simp) _, by simp⟩
  have h := heap_alloc_new (w.alloc (.map #[] 0)) (.cells (.int .i64 0 :: .map (some w.heap.size) :: List.replicate 64 (.map none)).toArray 49)
  rw [show (w.alloc (.map #[] 0)).heap.size = w.heap.size + 1 by simp] at h
  rw [show (fun k => if k < 0 then some (w.heap.size + 2 + k) else none) = fun _ => none from funext fun k => if_neg (Nat.not_lt_zero k), wcells_zero]
  exact h
theorem NewAt.step {w wr : World} {i : Nat} (h : NewAt w wr i) (hi : i < 64) : NewAt w ((wr.alloc (.map #[] 0)).setCell ⟨w.heap.size + 1, 2 + i, none⟩ (.map (some wr.heap.size))) (i + 1) := by
  have hs := h.size
  have ho : Only (fun x => x = w.heap.size + 1) (wr.alloc (.map #[] 0)) ((wr.alloc (.map #[] 0)).setCell ⟨w.heap.size + 1, 2 + i, none⟩ (.map (some wr.heap.size))) := Only.set1 _ _ _ _
  have hm := (MapS.made (inj := i64V) wr).only ho (by omega)
  refine ⟨?_, (h.map.only (Only.alloc NoneS wr _) (fun h => h)).only ho (by omega), fun k hk => ?_, ?_, by simp; omega⟩
  · have h2 := (h.blk.alloc (.map #[] 0)).set (2 + i) (.map (some wr.heap.size))
    rw [wcells_put _ _ _ i hi] at h2
    have e : (fun j => if j = i then some wr.heap.size else if j < i then some (w.heap.size + 2 + j) else none) = fun j => if j < i + 1 then some (w.heap.size + 2 + j) else none := by
      funext j
      by_cases h1 : j = i
      · subst h1; simp [hs]
      · by_cases h3 : j < i
        · simp [h1, h3, show j < i + 1 by omega]
        · simp [h1, h3, show ¬ j < i + 1 by omega]
    rw [e] at h2
    exact h2
  · by_cases e : k = i
    · subst e
      rw [← hs]
      exact hm
    · exact ((h.slot k (by omega)).only (Only.alloc NoneS wr _) (fun h => h)).only ho (by omega)
  · exact (h.bel.alloc h.bel.size _).trans (ho.below (by have := h.bel.size; simp; omega) (fun k hk e => by omega))
theorem NewAt.done {w wr : World} (h : NewAt w wr 64) : WRep wr w.heap.size (w.heap.size + 1) w.heap.size Clk.new := by
  refine ⟨.inr rfl, .inl rfl, by omega, ?_, h.map.congr (fun _ => rfl), fun k hk => (h.slot k hk).congr (fun _ => rfl), Clk.new_ok.weak⟩
  have h1 := h.blk
  have e : wcells 0 w.heap.size (fun k => if k < 64 then some (w.heap.size + 2 + k) else none) = wcells Clk.new.now w.heap.size (fun k => some (w.heap.size + 2 + k)) := by
    unfold wcells
    congr 2
  rw [e] at h1
  exact h1

set_option maxHeartbeats 1000000 in
set_option maxRecDepth 100000 in
theorem new_any (w : World) : Calls Try.prog 10 #[] w fun e w' => e = .returned (.pointer (some ⟨w.heap.size + 1, 0, none⟩)) ∧ WRep w' w.heap.size (w.heap.size + 1) w.heap.size Clk.new ∧ Below w.heap.size w w' ∧ w'.heap.size = w.heap.size + 66 := by
  have hmm := @run_makeMap Try.prog
  have hz := zeroWheel
  obtain ⟨W0, hW0⟩ : ∃ W, (w.alloc (.map #[] 0)).alloc (.cells (.int .i64 0 :: .map (some w.heap.size) :: List.replicate 64 (.map none)).toArray 49) = W := ⟨_, rfl⟩
  have hS := NewAt.start w
  rw [hW0] at hS
  have H0 := Lib.hid (And.intro hW0 hS)
  obtain ⟨Z, hZ⟩ : ∃ Z : List Value, List.replicate 64 (.map none) = Z := ⟨_, rfl⟩
  rw [hZ] at hz hW0
  have HZ := Lib.hid hZ
  clear hS hZ
  go_enter Try.func10, Try.ntmps10
  go_wp2_with fail
  (try rw [hW0])
  clear hW0 hz
  go_loopg [6] 64 (fun gk iv wr => ∃ (i : Nat), gk + i = 64 ∧ iv = .int .i64 i ∧ Hid (NewAt w wr i))
  case atStart => exact ⟨0, rfl, rfl, Lib.hid H0.out.2⟩
  case round =>
    obtain ⟨i, hg, rfl, HN⟩ := hrel
    by_cases hi : i < 64
    · have hiz : (i : Int) < 64 := by omega
      have hiy : (0 : Int) ≤ (i : Int) := by omega
      have hwK : IntKind.i64.wrap ((i : Int) + 1) = ((i + 1 : Nat) : Int) := by rw [IntWalk.i64_in _ (by omega)]; omega
      have hst := Lib.hid (HN.out.step hi)
      have hcl := ((HN.out.blk.alloc (.map #[] 0)).cell (2 + i)).trans (wcells_slot _ _ _ i hi)
      have hfz := (HN.out.blk.alloc (.map #[] 0)).frozen (2 + i)
      go_wp2
      go_roundg (gk - 1)
      case rel => exact ⟨i + 1, by omega, rfl, hst⟩
      case measure => omega
    · have hiz : ¬ (i : Int) < 64 := by omega
      obtain rfl : i = 64 := by omega
      go_wp2
      go_ret
      exact ⟨rfl, HN.out.done, HN.out.bel, HN.out.size⟩
end Go.Proofs.Ytlhlbedbfjanhaa
