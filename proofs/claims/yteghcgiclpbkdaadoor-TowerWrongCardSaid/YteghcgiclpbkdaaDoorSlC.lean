/- slices.Delete (the first grant), Clone over grants. -/
import Derived.Test.YteghcgiclpbkdaaDoorSlB
import Derived.ChangeAlike
namespace Go.Proofs.YteghcgiclpbkdaaDoor
open Go.RowKit

theorem gcells_one {l : List (Int × Int)} : ∀ u ∈ gcells l, u.oneCell' = true := by
  intro u hu
  simp only [gcells, List.mem_flatMap] at hu
  obtain ⟨g, _, hg⟩ := hu
  rcases (by simpa using hg : u = _ ∨ u = _) with rfl | rfl <;> rfl
theorem infoGrant : (Tryd.prog.info? 34).map (fun i => (i.zero, i.size, i.bytes)) = some (some (.agg #[.int .i64 0, .int .i64 0]), 2, 16) := by kernel_rfl

set_option maxHeartbeats 1000000 in
theorem delete_first (v : Value) (x : Int × Int) (l : List (Int × Int)) (w : World) (hv : w.ownsRow 0 34 2 v (x :: l).length (gcells (x :: l))) :
    Calls Tryd.prog 55 #[v, .int .i64 0, .int .i64 1] w fun e w' => ∃ v', e = .returned v' ∧ w'.ownsRow 0 34 2 v' l.length (gcells l) ∧ v'.ownBlock = v.ownBlock ∧ Only (fun b => v.ownBlock = some b) w w' := by
  obtain ⟨g, cap, rfl⟩ : ∃ g cap, v = .slice (some ⟨g, 0, none⟩) (x :: l).length cap := by
    rcases ownsRow_cases hv with ⟨_, h0, _⟩ | h
    · simp at h0
    · exact h
  obtain ⟨rest, hB, _, hcl, hcap, hmax⟩ := blk_of_ownsRow hv
  have hmax' : cap ≤ 9223372036854775807 := by unfold maxLen at hmax; omega
  obtain ⟨i0, hi, hz0, hz1, hz2⟩ := info_parts infoGrant
  have hlen : (x :: l).length = l.length + 1 := rfl
  rw [hlen] at hcap ⊢
  have hcl2 : (gcells l).length = l.length * 2 := by simp; omega
  have hap : ∀ (a : Addr) (c : Nat), (∀ j u, (gcells l)[j]? = some u → w.drew.cell? (a.add j) = some u) → ∀ ty, (Builtin.append_ #[31, 31] ty #[.slice (some ⟨g, 0, none⟩) 0 cap, .slice (some a) l.length c]).run Tryd.prog w.drew =
      .ok (.slice (some ⟨g, 0, none⟩) l.length cap) (w.drew.setRow g (gcells l ++ (gcells (x :: l) ++ rest).drop (l.length * 2)).toArray) := by
    intro a c hc ty
    have := run_append_room (P := Tryd.prog) w.drew 31 ty 34 i0 Tryd.underlying31 hi g 0 cap _ hB a l.length c (gcells l) (by rw [hz1]; exact hcl2) hc gcells_one (by omega) (by rw [hz1, hcl2]; simp [gcells]; simp [gcells] at hcl2; omega)
    rw [this, hz1, hcl2]
    simp
  have hBd : Blk (w.drew.setRow g (gcells l ++ (gcells (x :: l) ++ rest).drop (l.length * 2)).toArray) g 34 (gcells l ++ (gcells (x :: l) ++ rest).drop (l.length * 2)) := setRow_heap w.drew g _ _ _ _ hB
  generalize hW : w.drew.setRow g (gcells l ++ (gcells (x :: l) ++ rest).drop (l.length * 2)).toArray = W at hap hBd
  have HW := Lib.hid hW
  clear hW
  obtain ⟨w4, ys, hrun, hB4, hl4, ho4⟩ := run_clear_row (P := Tryd.prog) (t := 31) (e := 34) (ty := 0) (z := .agg #[.int .i64 0, .int .i64 0]) Tryd.underlying31 zeroGrant (by simp [Value.cells]; decide) (by decide) (n := 1) (c := cap - l.length) hBd (o := l.length * 2) (by simp [Value.cells, gcells]; simp [gcells] at hcl2; omega)
  have hfin : w4.ownsRow 0 34 2 (.slice (some ⟨g, 0, none⟩) l.length cap) l.length (gcells l) := by
    rw [List.take_left' hcl2] at hB4 hl4
    exact ownsRow_of_blk hB4 hcl2 (by rw [hl4]; simp [gcells] at hcl hcl2 ⊢; omega) (by omega) hmax
  have hoo : Only (fun b => (Value.slice (some ⟨g, 0, none⟩) (l.length + 1) cap).ownBlock = some b) w w4 := by
    have h1 : Only (fun b => b = g) w W := by
      rw [← HW.out]
      exact ⟨rfl, rfl, rfl, by simp [World.setRow], fun k hk hne => by simp only [World.setRow, Array.getElem?_modify]; rw [if_neg (fun e => hne e.symm)]; rfl⟩
    exact (h1.trans ho4).mono (fun b _ h => by simp [Value.ownBlock, h])
  clear hBd hB4 hl4 hv hcl hcl2 hi hz0 hz1 hz2 hlen
  by_cases hc1 : cap = 1
  · obtain rfl : l = [] := by cases l with | nil => rfl | cons y l => simp at hcap; omega
    subst hc1
    have hap' := hap ⟨g, 0, none⟩ 0 (by intro j u h; simp [gcells] at h)
    clear hap
    simp only [List.length_nil, Nat.zero_mul, Nat.sub_zero, Nat.zero_add] at hrun hap' hfin hoo ⊢
    clear hcap hmax hmax' HW hB ho4
    go_enter Tryd.func55, Tryd.ntmps55
    go_wp2
    go_region_law (refine step_append_run rfl (.tmp 22) (.tmp 25) 31 rfl (.slice (some ⟨g, 0, none⟩) 0 1) (.slice (some ⟨g, 0, none⟩) 0 0) (by simp [Act.eval, Act.put]) (by simp [Act.eval, Act.put]) (.slice (some ⟨g, 0, none⟩) 0 1) W hap' ?_)
    go_wp2
    go_ret
    exact ⟨_, rfl, hfin, rfl, hoo⟩
  · have hap' := hap ⟨g, 2, none⟩ (cap - 1) (by
      intro j u h
      show w.cell? _ = _
      rw [Addr.add_lit, hB.cell, show (2 + j) = j + 1 + 1 by omega]
      show (gcells l ++ rest)[j]? = some u
      rw [List.getElem?_append_left (List.getElem?_eq_some_iff.1 h).1]; exact h)
    clear hap
    have h1l : (1 : Int) ≤ (l.length : Int) + 1 := by omega
    go_enter Tryd.func55, Tryd.ntmps55
    go_wp2
    go_region_law (refine step_append_run rfl (.tmp 22) (.tmp 25) 31 rfl (.slice (some ⟨g, 0, none⟩) 0 cap) (.slice (some ⟨g, 2, none⟩) l.length (cap - 1)) (by simp [Act.eval, Act.put]) (by simp [Act.eval, Act.put]) (.slice (some ⟨g, 0, none⟩) l.length cap) W hap' ?_)
    go_wp2
    go_ret
    exact ⟨_, rfl, hfin, rfl, hoo⟩
end Go.Proofs.YteghcgiclpbkdaaDoor
