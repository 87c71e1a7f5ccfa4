/- The law's parts. -/
import Derived.Test.YtecnjifincahaaaGreatDoorIxI
import Derived.Test.YtecnjifincahaaaGreatDoorIJo
namespace Go.Proofs.YtecnjifincahaaaGreatDoor
open Go.Shelf Go.RowKit Go.Lib

set_option maxRecDepth 100000 in
theorem parts_one (x : UInt8) (w : World) : Calls Tryz.prog 44 #[.string (BA [x])] w fun e w' => ∃ sl, e = .returned sl ∧ PRead w' sl [[x]] ∧ Below w.heap.size w w' := by
  obtain ⟨X, hX⟩ : ∃ X, BA [x] = X := ⟨_, rfl⟩
  have hs : X.size = 1 := by rw [← hX]; rfl
  have HX := Lib.hid hX
  rw [hX]
  clear hX
  go_enter Tryz.func44, Tryz.ntmps44
  go_wp2
  go_ret
  refine ⟨_, rfl, ⟨by simp, w.heap.size, 1, rfl, fun i hi => ?_⟩, (Below.refl _ w).alloc (Nat.le_refl _) _⟩
  have h := heap_alloc_new w (.cells #[.string X] 9)
  have hi0 : i = 0 := by simp at hi; omega
  subst hi0
  rw [show BA ([[x]][0]) = X from HX.out]
  exact (show Blk _ w.heap.size 9 [.string X] from h).cell 0

set_option maxHeartbeats 2000000 in
set_option maxRecDepth 100000 in
theorem parts_two (x y z : UInt8) (w : World) : Calls Tryz.prog 44 #[.string (BA [x, y, z])] w fun e w' => ∃ sl, e = .returned sl ∧ PRead w' sl [[x], [z]] ∧ Below w.heap.size w w' := by
  obtain ⟨X, hX⟩ : ∃ X, BA [x, y, z] = X := ⟨_, rfl⟩
  have hs : X.size = 3 := by rw [← hX]; rfl
  have h1 : X.extract 0 1 = BA [x] := by rw [← hX]; apply ByteArray.ext; simp
  have h2 : X.extract 2 3 = BA [z] := by rw [← hX]; apply ByteArray.ext; simp
  obtain ⟨A, hA⟩ : ∃ A, BA [x] = A := ⟨_, rfl⟩
  obtain ⟨B, hB⟩ : ∃ B, BA [z] = B := ⟨_, rfl⟩
  rw [hA] at h1
  rw [hB] at h2
  have HX := Lib.hid (And.intro hA hB)
  rw [hX]
  clear hX hA hB
  go_enter Tryz.func44, Tryz.ntmps44
  go_wp2_with fail
  refine AnyJ.begin (J := fun j => Nat.ble j 5) (S := fun _ => True) (by kernel_rfl) rfl rfl ?_
  refine AnyJ.takeT [2, 3] (by rfl) (i := 0) (v := .string X) rfl rfl (by kernel_rfl) (by kernel_rfl) (by kernel_rfl) (by kernel_rfl) (fun _ _ _ h => h) (by rfl) ?_ trivial ?_
  · intro W hW
    clear hW
    go_simp
    try (with_reducible rfl)
  simp only [Act.put, List.setIfInBounds_toArray, List.set_cons_zero, List.set_cons_succ]
  refine AnyJ.takeT [0, 2, 3] (by rfl) (i := 1) (v := .string A) rfl rfl (by kernel_rfl) (by kernel_rfl) (by kernel_rfl) (by kernel_rfl) (fun _ _ _ h => h) (by rfl) ?_ trivial ?_
  · intro W hW
    clear hW
    go_simp
    try (with_reducible rfl)
  simp only [Act.put, List.setIfInBounds_toArray, List.set_cons_zero, List.set_cons_succ]
  refine AnyJ.takeT [0, 1] (by rfl) (i := 2) (v := .string X) rfl rfl (by kernel_rfl) (by kernel_rfl) (by kernel_rfl) (by kernel_rfl) (fun _ _ _ h => h) (by rfl) ?_ trivial ?_
  · intro W hW
    clear hW
    go_simp
    try (with_reducible rfl)
  simp only [Act.put, List.setIfInBounds_toArray, List.set_cons_zero, List.set_cons_succ]
  refine AnyJ.takeT [0, 1, 2] (by rfl) (i := 3) (v := .string B) rfl rfl (by kernel_rfl) (by kernel_rfl) (by kernel_rfl) (by kernel_rfl) (fun _ _ _ h => h) (by rfl) ?_ trivial ?_
  · intro W hW
    clear hW
    go_simp
    try (with_reducible rfl)
  simp only [Act.put, List.setIfInBounds_toArray, List.set_cons_zero, List.set_cons_succ]
  refine AnyJ.oneL (i := 4) (by kernel_rfl) rfl (fun K hK => ?_)
  go_simp
  refine hK.out _ _ (fun _ => trivial) ?_
  clear hK K
  (try simp only [Act.put, List.setIfInBounds_toArray, List.set_cons_zero, List.set_cons_succ])
  refine AnyJ.oneL (i := 5) (by kernel_rfl) rfl (fun K hK => ?_)
  go_simp
  refine hK.out _ _ (fun _ => trivial) ?_
  clear hK K
  (try simp only [Act.put, List.setIfInBounds_toArray, List.set_cons_zero, List.set_cons_succ])
  refine AnyJ.done (by kernel_rfl) ?_
  go_wp2
  go_ret
  refine ⟨_, rfl, ⟨by simp, w.heap.size, 2, rfl, fun i hi => ?_⟩, ?_⟩
  · have h : ∀ j, (w.alloc (.cells #[.string A, .string B] 9)).cell? ⟨w.heap.size, j, none⟩ = [Value.string A, .string B][j]? := fun j => (show Blk _ w.heap.size 9 [.string A, .string B] from heap_alloc_new w (.cells #[.string A, .string B] 9)).cell j
    have hi2 : i = 0 ∨ i = 1 := by simp at hi; omega
    rcases hi2 with rfl | rfl
    · rw [show BA ([[x], [z]][0]) = A from HX.out.1]
      exact h 0
    · rw [show BA ([[x], [z]][1]) = B from HX.out.2]
      exact h 1
  · exact ((Below.refl _ w).drew).alloc (Nat.le_refl _) _
end Go.Proofs.YtecnjifincahaaaGreatDoor
