/- The program's own comparing of values: fields. -/
import Derived.Test.YthlioinmeimhoaaDoorKdA
import Derived.Test.YthlioinmeimhoaaDoorJord
namespace Go.Proofs.YthlioinmeimhoaaDoor
open Go.Shelf Go.RowKit Go.Lib

set_option maxHeartbeats 4000000 in
set_option maxRecDepth 100000 in
theorem or_two (a b : Int) (B : Nat) (w : World) (h0 : w.cell? ⟨B, 0, none⟩ = some (.int .i64 a)) (h1 : w.cell? ⟨B, 1, none⟩ = some (.int .i64 b)) :
    Calls Tryd.prog 94 #[.slice (some ⟨B, 0, none⟩) 2 2] w fun e w' => e = .returned (.int .i64 (if a = 0 then b else a)) ∧ w' = w := by
  by_cases ha : a = 0
  · subst ha
    rw [if_pos rfl]
    by_cases hb : b = 0
    · subst hb
      go_enter Tryd.func94, Tryd.ntmps94
      go_wp2_with fail
      refine wp_loop_rounds 3 ?_
      rw [rounds_succ]
      go_wp2_with fail
      rw [rounds_succ]
      go_wp2_with fail
      rw [rounds_succ]
      go_wp2
      go_ret
      exact ⟨rfl, rfl⟩
    · go_enter Tryd.func94, Tryd.ntmps94
      go_wp2_with fail
      refine wp_loop_rounds 3 ?_
      rw [rounds_succ]
      go_wp2_with fail
      rw [rounds_succ]
      go_wp2
      go_ret
      exact ⟨rfl, rfl⟩
  · rw [if_neg ha]
    go_enter Tryd.func94, Tryd.ntmps94
    go_wp2_with fail
    refine wp_loop_rounds 3 ?_
    rw [rounds_succ]
    go_wp2
    go_ret
    exact ⟨rfl, rfl⟩
theorem sgn_then (a b : Ordering) : sgnO (a.then b) = if sgnO a = 0 then sgnO b else sgnO a := by cases a <;> rfl

set_option maxHeartbeats 8000000 in
set_option maxRecDepth 100000 in
theorem byf_any (NX NY : ByteArray) (nx ny : BL) (hNX : BA nx = NX) (hNY : BA ny = NY) (q0 q1 : Int) (q2 : ByteArray) (q3 : Option Addr) (q4 q5 : Nat) (q6 : Option Addr) (q7 q8 : Nat) (r0 r1 : Int) (r2 : ByteArray) (r3 : Option Addr) (r4 r5 : Nat) (r6 : Option Addr) (r7 r8 : Nat) (z : Ordering) (w : World)
    (ih : ∀ W, Below w.heap.size w W → Calls Tryd.prog 45 #[.agg #[.int .i64 q0, .int .i64 q1, .string q2, .slice q3 q4 q5, .slice q6 q7 q8], .agg #[.int .i64 r0, .int .i64 r1, .string r2, .slice r3 r4 r5, .slice r6 r7 r8]] W fun e w' => e = .returned (.int .i64 (sgnO z)) ∧ Below W.heap.size W w') :
    Calls Tryd.prog 72 #[.agg #[.string NX, .int .i64 q0, .int .i64 q1, .string q2, .slice q3 q4 q5, .slice q6 q7 q8], .agg #[.string NY, .int .i64 r0, .int .i64 r1, .string r2, .slice r3 r4 r5, .slice r6 r7 r8]] w fun e w' => e = .returned (.int .i64 (sgnO ((lcmp nx ny).then z))) ∧ Below w.heap.size w w' := by
  obtain ⟨P, hP⟩ : ∃ P, w.heap.size = P := ⟨_, rfl⟩
  obtain ⟨W0, hW0⟩ : ∃ W0, (w.alloc (.cells #[.string NX, .int .i64 q0, .int .i64 q1, .string q2, .slice q3 q4 q5, .slice q6 q7 q8] 72)).alloc (.cells #[.string NY, .int .i64 r0, .int .i64 r1, .string r2, .slice r3 r4 r5, .slice r6 r7 r8] 72) = W0 := ⟨_, rfl⟩
  have hb0 : Below w.heap.size w W0 := by rw [← hW0]; exact ((Below.refl _ w).alloc (Nat.le_refl _) _).alloc (by simp) _
  have hk1 : Blk W0 P 72 [.string NX, .int .i64 q0, .int .i64 q1, .string q2, .slice q3 q4 q5, .slice q6 q7 q8] := by
    rw [← hW0, ← hP]; exact Blk.alloc (g := w.heap.size) (heap_alloc_new w _) _
  have hk2 : Blk W0 (P + 1) 72 [.string NY, .int .i64 r0, .int .i64 r1, .string r2, .slice r3 r4 r5, .slice r6 r7 r8] := by
    rw [← hW0, ← hP]; exact blk_new2 w _ _ _
  have H0 := Lib.hid (And.intro hW0 (And.intro hP (And.intro hb0 (And.intro ih (And.intro hNX hNY)))))
  have HS := Lib.hid (And.intro (show Blk W0.drew P 72 [.string NX, .int .i64 q0, .int .i64 q1, .string q2, .slice q3 q4 q5, .slice q6 q7 q8] from hk1) (show Blk W0.drew (P + 1) 72 [.string NY, .int .i64 r0, .int .i64 r1, .string r2, .slice r3 r4 r5, .slice r6 r7 r8] from hk2))
  obtain ⟨r, hr⟩ : ∃ r, lcmp nx ny = r := ⟨_, rfl⟩
  have HL := Lib.hid (show ∀ W, Calls Tryd.prog 69 #[.string NX, .string NY] W fun e w' => e = .returned (.int .i64 (sgnO r)) ∧ W = w' by
    intro W
    rw [← hr, ← hNX, ← hNY]
    exact (scmp_any nx ny W).mono fun e w' h => ⟨h.1, h.2.symm⟩)
  rw [hr]
  clear hW0 hP hb0 hk1 hk2 ih hNX hNY hr
  go_enter Tryd.func72, Tryd.ntmps72
  go_wp2_with fail
  rw [H0.out.1, H0.out.2.1]
  refine AnyJ.begin (J := fun j => Nat.ble j 12) (S := fun W => Blk W P 72 [.string NX, .int .i64 q0, .int .i64 q1, .string q2, .slice q3 q4 q5, .slice q6 q7 q8] ∧ Blk W (P + 1) 72 [.string NY, .int .i64 r0, .int .i64 r1, .string r2, .slice r3 r4 r5, .slice r6 r7 r8]) (by kernel_rfl) rfl rfl ?_
  refine AnyJ.takeL (i := 0) (v := .pointer (some ⟨P, 0, none⟩)) rfl rfl (by kernel_rfl) (by kernel_rfl) (by kernel_rfl) (by kernel_rfl) (fun _ _ _ h => h) (by rfl) ?_ HS.out ?_
  · intro W hW
    obtain ⟨s1, s2⟩ := hW
    go_simp
    try (with_reducible rfl)
  simp only [Act.put, List.setIfInBounds_toArray, List.set_cons_zero, List.set_cons_succ]
  refine AnyJ.takeL (i := 1) (v := .string NX) rfl rfl (by kernel_rfl) (by kernel_rfl) (by kernel_rfl) (by kernel_rfl) (fun _ _ _ h => h) (by rfl) ?_ HS.out ?_
  · intro W hW
    obtain ⟨s1, s2⟩ := hW
    have u0 := s1.cell 0
    go_simp
    try (with_reducible rfl)
  simp only [Act.put, List.setIfInBounds_toArray, List.set_cons_zero, List.set_cons_succ]
  refine AnyJ.takeL (i := 2) (v := .pointer (some ⟨P + 1, 0, none⟩)) rfl rfl (by kernel_rfl) (by kernel_rfl) (by kernel_rfl) (by kernel_rfl) (fun _ _ _ h => h) (by rfl) ?_ HS.out ?_
  · intro W hW
    obtain ⟨s1, s2⟩ := hW
    go_simp
    try (with_reducible rfl)
  simp only [Act.put, List.setIfInBounds_toArray, List.set_cons_zero, List.set_cons_succ]
  refine AnyJ.takeL (i := 3) (v := .string NY) rfl rfl (by kernel_rfl) (by kernel_rfl) (by kernel_rfl) (by kernel_rfl) (fun _ _ _ h => h) (by rfl) ?_ HS.out ?_
  · intro W hW
    obtain ⟨s1, s2⟩ := hW
    have u0 := s2.cell 0
    go_simp
    try (with_reducible rfl)
  simp only [Act.put, List.setIfInBounds_toArray, List.set_cons_zero, List.set_cons_succ]
  refine AnyJ.takeL (i := 5) (v := .pointer (some ⟨P, 1, none⟩)) rfl rfl (by kernel_rfl) (by kernel_rfl) (by kernel_rfl) (by kernel_rfl) (fun _ _ _ h => h) (by rfl) ?_ HS.out ?_
  · intro W hW
    obtain ⟨s1, s2⟩ := hW
    go_simp
    try (with_reducible rfl)
  simp only [Act.put, List.setIfInBounds_toArray, List.set_cons_zero, List.set_cons_succ]
  refine AnyJ.takeL (i := 6) (v := .agg #[.int .i64 q0, .int .i64 q1, .string q2, .slice q3 q4 q5, .slice q6 q7 q8]) rfl rfl (by kernel_rfl) (by kernel_rfl) (by kernel_rfl) (by kernel_rfl) (fun _ _ _ h => h) (by rfl) ?_ HS.out ?_
  · intro W hW
    obtain ⟨s1, s2⟩ := hW
    have u0 := s1.cell 0
    have u1 := s1.cell 1
    have u2 := s1.cell 2
    have u3 := s1.cell 3
    have u4 := s1.cell 4
    have u5 := s1.cell 5
    go_simp
    try (with_reducible rfl)
  simp only [Act.put, List.setIfInBounds_toArray, List.set_cons_zero, List.set_cons_succ]
  refine AnyJ.takeL (i := 7) (v := .pointer (some ⟨P + 1, 1, none⟩)) rfl rfl (by kernel_rfl) (by kernel_rfl) (by kernel_rfl) (by kernel_rfl) (fun _ _ _ h => h) (by rfl) ?_ HS.out ?_
  · intro W hW
    obtain ⟨s1, s2⟩ := hW
    go_simp
    try (with_reducible rfl)
  simp only [Act.put, List.setIfInBounds_toArray, List.set_cons_zero, List.set_cons_succ]
  refine AnyJ.takeL (i := 8) (v := .agg #[.int .i64 r0, .int .i64 r1, .string r2, .slice r3 r4 r5, .slice r6 r7 r8]) rfl rfl (by kernel_rfl) (by kernel_rfl) (by kernel_rfl) (by kernel_rfl) (fun _ _ _ h => h) (by rfl) ?_ HS.out ?_
  · intro W hW
    obtain ⟨s1, s2⟩ := hW
    have u0 := s2.cell 0
    have u1 := s2.cell 1
    have u2 := s2.cell 2
    have u3 := s2.cell 3
    have u4 := s2.cell 4
    have u5 := s2.cell 5
    go_simp
    try (with_reducible rfl)
  simp only [Act.put, List.setIfInBounds_toArray, List.set_cons_zero, List.set_cons_succ]
  refine AnyJ.oneL (i := 4) (by kernel_rfl) rfl (fun K hK => ?_)
  go_simp
  go_at_call 69
  refine (HL.out _).mono ?_
  rintro e w4 ⟨rfl, rfl⟩
  refine hK.out _ _ (fun _ => HS.out) ?_
  clear hK K
  (try simp only [Act.put, List.setIfInBounds_toArray, List.set_cons_zero, List.set_cons_succ])
  refine AnyJ.oneL (i := 9) (by kernel_rfl) rfl (fun K hK => ?_)
  go_simp
  go_at_call 45
  refine (H0.out.2.2.2.1 _ H0.out.2.2.1.drew).mono ?_
  rintro e w5 ⟨rfl, hb5⟩
  have HB5 := Lib.hid hb5
  have H5 := Lib.hid (H0.out.2.2.1.drew.trans (hb5.mono H0.out.2.2.1.size))
  refine hK.out _ _ (fun _ => ⟨HS.out.1.below hb5, HS.out.2.below hb5⟩) ?_
  clear hK K hb5
  (try simp only [Act.put, List.setIfInBounds_toArray, List.set_cons_zero, List.set_cons_succ])
  obtain ⟨a, ha⟩ : ∃ a, sgnO r = a := ⟨_, rfl⟩
  obtain ⟨b, hb⟩ : ∃ b, sgnO z = b := ⟨_, rfl⟩
  have HA := Lib.hid (And.intro ha hb)
  rw [ha, hb]
  clear ha hb
  refine AnyJ.oneL (i := 10) (by kernel_rfl) rfl (fun K hK => ?_)
  go_simp
  refine hK.out _ _ (fun _ => ⟨(HS.out.1.below HB5.out).alloc _, (HS.out.2.below HB5.out).alloc _⟩) ?_
  clear hK K
  (try simp only [Act.put, List.setIfInBounds_toArray, List.set_cons_zero, List.set_cons_succ])
  refine AnyJ.oneL (i := 11) (by kernel_rfl) rfl (fun K hK => ?_)
  go_simp
  go_at_call 94
  refine (or_two a b _ _ (by simp) (by simp)).mono ?_
  rintro e w6 ⟨rfl, rfl⟩
  obtain ⟨y, hy⟩ : ∃ y, (if a = 0 then b else a) = y := ⟨_, rfl⟩
  have HY := Lib.hid hy
  rw [hy]
  clear hy
  refine hK.out _ _ (fun _ => ⟨(HS.out.1.below HB5.out).alloc _, (HS.out.2.below HB5.out).alloc _⟩) ?_
  clear hK K
  (try simp only [Act.put, List.setIfInBounds_toArray, List.set_cons_zero, List.set_cons_succ])
  refine AnyJ.oneL (i := 12) (by kernel_rfl) rfl (fun K hK => ?_)
  go_simp
  refine hK.out _ _ (fun _ => ⟨(HS.out.1.below HB5.out).alloc _, (HS.out.2.below HB5.out).alloc _⟩) ?_
  clear hK K
  (try simp only [Act.put, List.setIfInBounds_toArray, List.set_cons_zero, List.set_cons_succ])
  refine AnyJ.done (by kernel_rfl) ?_
  go_wp2
  go_ret
  exact ⟨by rw [sgn_then, HA.out.1, HA.out.2, HY.out]; try rfl, H5.out.alloc H5.out.size _⟩
end Go.Proofs.YthlioinmeimhoaaDoor
