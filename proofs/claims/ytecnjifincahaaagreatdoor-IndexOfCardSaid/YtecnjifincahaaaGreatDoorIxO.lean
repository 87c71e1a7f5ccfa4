/- index.Check at a name that may be. -/
import Derived.Test.YtecnjifincahaaaGreatDoorIxN
namespace Go.Proofs.YtecnjifincahaaaGreatDoor
open Go.Shelf Go.RowKit Go.Lib

set_option maxHeartbeats 4000000 in
set_option maxRecDepth 100000 in
theorem check_nil (l : BL) (X : ByteArray) (u : Bool) (w : World) (hl : l.length ≤ 1000000) (hgood : ¬ badName l)
    (hparse : ∀ W, Below w.heap.size w W → Calls Tryz.prog 10 #[.string X] W fun e w' => ∃ sl, e = .returned (.tuple #[sl, .nilIface]) ∧ Below W.heap.size W w') :
    Calls Tryz.prog 11 #[.agg #[.string (BA l), .string X, .bool u]] w fun e w' => e = .returned .nilIface ∧ Below w.heap.size w w' := by
  obtain ⟨W0, hW0⟩ : ∃ W, w.alloc (.cells #[.string (BA l), .string X, .bool u] 23) = W := ⟨_, rfl⟩
  have hb0 : Below w.heap.size w W0 := by rw [← hW0]; exact (Below.refl _ w).alloc (Nat.le_refl _) _
  have hk0 : Blk W0 w.heap.size 23 [.string (BA l), .string X, .bool u] := by rw [← hW0]; exact heap_alloc_new w _
  have hcall := contains_any l W0
  have hsz : (BA l).size = l.length := ba_size l
  have hod : oddB l = false := by
    cases h : oddB l with
    | true => exact absurd (.inl h) hgood
    | false => rfl
  have hz : l.length ≠ 0 := fun h => hgood (.inr (.inl (List.length_eq_zero_iff.1 h)))
  have h16 : ¬ 16 < l.length := fun h => hgood (.inr (.inr h))
  obtain ⟨NM, hNM⟩ : ∃ N, BA l = N := ⟨_, rfl⟩
  obtain ⟨P0, hP0⟩ : ∃ P, w.heap.size = P := ⟨_, rfl⟩
  rw [hP0] at hk0
  rw [hod] at hcall
  rw [hNM] at hcall hsz hk0 hW0 ⊢
  have hne : NM.toList.isEmpty = false := by
    rw [Lib.toList_data]
    have h3 : NM.size = NM.data.toList.length := by rw [Array.length_toList]; rfl
    cases h : NM.data.toList with
    | nil => rw [h, List.length_nil] at h3; omega
    | cons _ _ => rfl
  have hlen2 : ¬ (16 : Int) < (NM.size : Int) := by omega
  have hlen : NM.size ≤ 1000000 := by omega
  have H0 := Lib.hid (And.intro hW0 (And.intro hP0 (And.intro hcall (And.intro hb0 (And.intro hk0 hparse)))))
  clear hW0 hb0 hk0 hcall hod hNM hP0 hgood hsz hl hz h16 hparse
  go_enter Tryz.func11, Tryz.ntmps11
  go_wp2_with fail
  rw [H0.out.1, H0.out.2.1]
  have c0 := H0.out.2.2.2.2.1.cell 0
  go_wp2_with fail
  refine (show Calls _ _ _ _ _ from H0.out.2.2.1).mono ?_
  rintro e w2 ⟨rfl, hb2⟩
  have H2 := Lib.hid (And.intro (H0.out.2.2.2.1.trans (hb2.mono H0.out.2.2.2.1.size)) (H0.out.2.2.2.2.1.below hb2))
  clear hb2 c0
  have c0 := H2.out.2.cell 0
  have c1 := H2.out.2.cell 1
  go_wp2_with fail
  refine (show Calls _ _ _ _ _ from H0.out.2.2.2.2.2 w2 H2.out.1).mono ?_
  rintro e w3 ⟨sl, rfl, hb3⟩
  have H3 := Lib.hid (H2.out.1.trans (hb3.mono H2.out.1.size))
  clear hb3 c0 c1
  go_wp2_with fail
  refine (wrap_nil _ _).mono ?_
  rintro e w4 ⟨rfl, rfl⟩
  go_wp2
  go_ret
  exact ⟨rfl, H3.out⟩
set_option maxHeartbeats 4000000 in
set_option maxRecDepth 100000 in
theorem check_path (l : BL) (X : ByteArray) (u : Bool) (w : World) (hl : l.length ≤ 1000000) (hgood : ¬ badName l)
    (hparse : ∀ W, Below w.heap.size w W → Calls Tryz.prog 10 #[.string X] W fun e w' => ∃ v, e = .returned (.tuple #[.slice none 0 0, v]) ∧ Chain w' 1 v 6 ∧ Below W.heap.size W w') :
    Calls Tryz.prog 11 #[.agg #[.string (BA l), .string X, .bool u]] w fun e w' => ∃ v, e = .returned v ∧ Chain w' 2 v 6 ∧ Below w.heap.size w w' := by
  obtain ⟨W0, hW0⟩ : ∃ W, w.alloc (.cells #[.string (BA l), .string X, .bool u] 23) = W := ⟨_, rfl⟩
  have hb0 : Below w.heap.size w W0 := by rw [← hW0]; exact (Below.refl _ w).alloc (Nat.le_refl _) _
  have hk0 : Blk W0 w.heap.size 23 [.string (BA l), .string X, .bool u] := by rw [← hW0]; exact heap_alloc_new w _
  have hcall := contains_any l W0
  have hsz : (BA l).size = l.length := ba_size l
  have hod : oddB l = false := by
    cases h : oddB l with
    | true => exact absurd (.inl h) hgood
    | false => rfl
  have hz : l.length ≠ 0 := fun h => hgood (.inr (.inl (List.length_eq_zero_iff.1 h)))
  have h16 : ¬ 16 < l.length := fun h => hgood (.inr (.inr h))
  obtain ⟨NM, hNM⟩ : ∃ N, BA l = N := ⟨_, rfl⟩
  obtain ⟨P0, hP0⟩ : ∃ P, w.heap.size = P := ⟨_, rfl⟩
  rw [hP0] at hk0
  rw [hod] at hcall
  rw [hNM] at hcall hsz hk0 hW0 ⊢
  have hne : NM.toList.isEmpty = false := by
    rw [Lib.toList_data]
    have h3 : NM.size = NM.data.toList.length := by rw [Array.length_toList]; rfl
    cases h : NM.data.toList with
    | nil => rw [h, List.length_nil] at h3; omega
    | cons _ _ => rfl
  have hlen2 : ¬ (16 : Int) < (NM.size : Int) := by omega
  have hlen : NM.size ≤ 1000000 := by omega
  have H0 := Lib.hid (And.intro hW0 (And.intro hP0 (And.intro hcall (And.intro hb0 (And.intro hk0 hparse)))))
  clear hW0 hb0 hk0 hcall hod hNM hP0 hgood hsz hl hz h16 hparse
  go_enter Tryz.func11, Tryz.ntmps11
  go_wp2_with fail
  rw [H0.out.1, H0.out.2.1]
  have c0 := H0.out.2.2.2.2.1.cell 0
  go_wp2_with fail
  refine (show Calls _ _ _ _ _ from H0.out.2.2.1).mono ?_
  rintro e w2 ⟨rfl, hb2⟩
  have H2 := Lib.hid (And.intro (H0.out.2.2.2.1.trans (hb2.mono H0.out.2.2.2.1.size)) (H0.out.2.2.2.2.1.below hb2))
  clear hb2 c0
  have c0 := H2.out.2.cell 0
  have c1 := H2.out.2.cell 1
  go_wp2_with fail
  refine (show Calls _ _ _ _ _ from H0.out.2.2.2.2.2 w2 H2.out.1).mono ?_
  rintro e w3 ⟨v, rfl, hv, hb3⟩
  obtain ⟨tt, uu, rfl⟩ := hv.ne_nil
  have H3 := Lib.hid (And.intro (H2.out.1.trans (hb3.mono H2.out.1.size)) hv)
  clear hb3 c0 c1 hv
  go_wp2_with fail
  refine (wrap_some _ _ _ _).mono ?_
  rintro e w4 ⟨rfl, rfl⟩
  go_wp2
  go_ret
  exact ⟨_, rfl, ⟨w3.heap.size, _, _, rfl, heap_alloc_new w3 _, H3.out.2.below ((Below.refl _ w3).alloc (Nat.le_refl _) _)⟩, H3.out.1.alloc H3.out.1.size _⟩
end Go.Proofs.YtecnjifincahaaaGreatDoor
