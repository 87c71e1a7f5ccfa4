/- The law's Key. -/
import Derived.Test.YtecnjifincahaaaGreatDoorIxJ
namespace Go.Proofs.YtecnjifincahaaaGreatDoor
open Go.Shelf Go.RowKit Go.Lib

set_option maxHeartbeats 16000000 in
set_option maxRecDepth 100000 in
theorem lkey_core (N X R : ByteArray) (u ok : Bool) (q0 q1 : Int) (q2 : ByteArray) (q3 : Option Addr) (q4 q5 : Nat) (q6 : Option Addr) (q7 q8 : Nat) (PR : World → Value → Prop) (PD : World → List Value → Prop) (w : World)
    (hsh : ∀ W d, PD W d → ∃ k n s p1 l1 c1 p2 l2 c2, d = [.int .i64 k, .int .i64 n, .string s, .slice p1 l1 c1, .slice p2 l2 c2]) (hPD : ∀ W1 W2 d, PD W1 d → Below w.heap.size W1 W2 → PD W2 d) (hPR : ∀ W1 W2 sl, PR W1 sl → Below W1.heap.size W1 W2 → PR W2 sl)
    (hparts : ∀ W, Below w.heap.size w W → Calls Tryz.prog 44 #[.string X] W fun e w' => ∃ sl, e = .returned sl ∧ PR w' sl ∧ Below W.heap.size W w')
    (hfind : ∀ W sl, Below w.heap.size w W → PR W sl → Calls Tryz.prog 43 #[.agg #[.int .i64 q0, .int .i64 q1, .string q2, .slice q3 q4 q5, .slice q6 q7 q8], sl] W fun e w' => ∃ d, e = .returned (.tuple #[.agg d.toArray, .bool ok]) ∧ PD w' d ∧ Below W.heap.size W w')
    (hput : ok = true → ∀ W d, Below w.heap.size w W → PD W d → Calls Tryz.prog 29 #[.agg d.toArray] W fun e w' => e = .returned (.string R) ∧ Below W.heap.size W w') :
    Calls Tryz.prog 17 #[.agg #[.string N, .string X, .bool u], .agg #[.int .i64 q0, .int .i64 q1, .string q2, .slice q3 q4 q5, .slice q6 q7 q8]] w fun e w' => e = .returned (.tuple #[.string (if ok then R else ⟨#[]⟩), .bool ok]) ∧ Below w.heap.size w w' := by
  obtain ⟨W0, hW0⟩ : ∃ W0, (w.alloc (.cells #[.string N, .string X, .bool u] 23)).alloc (.cells #[.int .i64 q0, .int .i64 q1, .string q2, .slice q3 q4 q5, .slice q6 q7 q8] 40) = W0 := ⟨_, rfl⟩
  have hb0 : Below w.heap.size w W0 := by rw [← hW0]; exact ((Below.refl _ w).alloc (Nat.le_refl _) _).alloc (by simp) _
  have hk1 : Blk W0 (w.heap.size + 1) 40 [.int .i64 q0, .int .i64 q1, .string q2, .slice q3 q4 q5, .slice q6 q7 q8] := by rw [← hW0]; exact blk_new2 w _ _ _
  have hk0 : Blk W0 w.heap.size 23 [.string N, .string X, .bool u] := by rw [← hW0]; exact Blk.alloc (heap_alloc_new w _) _
  obtain ⟨P0, hP0⟩ : ∃ P, w.heap.size = P := ⟨_, rfl⟩
  have hk0' : Blk W0.drew P0 23 [.string N, .string X, .bool u] := by rw [← hP0]; exact hk0
  have hk1' : Blk W0.drew (P0 + 1) 40 [.int .i64 q0, .int .i64 q1, .string q2, .slice q3 q4 q5, .slice q6 q7 q8] := by rw [← hP0]; exact hk1
  have H0 := Lib.hid (And.intro hW0 (And.intro hP0 (And.intro hparts (And.intro hfind (And.intro hPR (And.intro hsh (And.intro hPD (And.intro hb0 hput))))))))
  have HSX := Lib.hid (And.intro hk0' hk1')
  have HW0 := Lib.hid hb0.drew
  clear hW0 hb0 hk1 hk0 hk0' hk1' hP0 hparts hfind hPR hsh hPD hput
  go_enter Tryz.func17, Tryz.ntmps17
  go_wp2_with fail
  rw [H0.out.1, H0.out.2.1]
  refine AnyJ.begin (J := fun j => Nat.ble j 9) (S := fun W => Blk W P0 23 [.string N, .string X, .bool u] ∧ Blk W (P0 + 1) 40 [.int .i64 q0, .int .i64 q1, .string q2, .slice q3 q4 q5, .slice q6 q7 q8]) (by kernel_rfl) rfl rfl ?_
  refine AnyJ.takeT [1, 2, 3, 8] (by rfl) (i := 0) (v := .agg #[.int .i64 q0, .int .i64 q1, .string q2, .slice q3 q4 q5, .slice q6 q7 q8]) rfl rfl (by kernel_rfl) (by kernel_rfl) (by kernel_rfl) (by kernel_rfl) (fun _ _ _ h => h) (by rfl) ?_ HSX.out ?_
  · intro W hW
    obtain ⟨s1, s2⟩ := hW
    have m0 := s2.cell 0
    have m1 := s2.cell 1
    have m2 := s2.cell 2
    have m3 := s2.cell 3
    have m4 := s2.cell 4
    have n1 := s1.cell 1
    go_simp
    try (with_reducible rfl)
  simp only [Act.put, List.setIfInBounds_toArray, List.set_cons_zero, List.set_cons_succ]
  refine AnyJ.takeT [0, 8] (by rfl) (i := 1) (v := .pointer (some ⟨P0, 1, none⟩)) rfl rfl (by kernel_rfl) (by kernel_rfl) (by kernel_rfl) (by kernel_rfl) (fun _ _ _ h => h) (by rfl) ?_ HSX.out ?_
  · intro W hW
    obtain ⟨s1, s2⟩ := hW
    go_simp
    try (with_reducible rfl)
  simp only [Act.put, List.setIfInBounds_toArray, List.set_cons_zero, List.set_cons_succ]
  refine AnyJ.takeT [0, 1, 8] (by rfl) (i := 2) (v := .string X) rfl rfl (by kernel_rfl) (by kernel_rfl) (by kernel_rfl) (by kernel_rfl) (fun _ _ _ h => h) (by rfl) ?_ HSX.out ?_
  · intro W hW
    obtain ⟨s1, s2⟩ := hW
    have m0 := s2.cell 0
    have m1 := s2.cell 1
    have m2 := s2.cell 2
    have m3 := s2.cell 3
    have m4 := s2.cell 4
    have n1 := s1.cell 1
    go_simp
    try (with_reducible rfl)
  simp only [Act.put, List.setIfInBounds_toArray, List.set_cons_zero, List.set_cons_succ]
  refine AnyJ.twoL (i := 3) (j := 8) (by kernel_rfl) rfl rfl (fun K hK => ?_) (fun K hK => ?_)
  · go_simp
    go_at_call 44
    refine (show Calls _ _ _ _ _ from H0.out.2.2.1 W0.drew HW0.out).mono ?_
    rintro e w3 ⟨sl, rfl, hsl, hb3⟩
    have HS3 := Lib.hid (And.intro (HSX.out.1.below hb3) (HSX.out.2.below hb3))
    have H3 := Lib.hid (And.intro (HW0.out.trans (hb3.mono HW0.out.size)) hsl)
    have HB3 := Lib.hid hb3
    refine hK.out _ _ (fun _ => HS3.out) ?_
    clear hb3 hsl
    clear hK K
    (try simp only [Act.put, List.setIfInBounds_toArray, List.set_cons_zero, List.set_cons_succ])
    refine AnyJ.twoL (i := 4) (j := 8) (by kernel_rfl) rfl rfl (fun K hK => ?_) (fun K hK => ?_)
    · go_simp
      go_at_call 43
      refine (show Calls _ _ _ _ _ from H0.out.2.2.2.1 w3 sl H3.out.1 H3.out.2).mono ?_
      rintro e w4 ⟨d, rfl, hd, hb4⟩
      obtain ⟨d0, d1, d2, d3, d4, d5, d6, d7, d8, rfl⟩ := H0.out.2.2.2.2.2.1 _ _ hd
      have HS4 := Lib.hid (And.intro (HS3.out.1.below hb4) (HS3.out.2.below hb4))
      have hbw4 := H3.out.1.trans (hb4.mono H3.out.1.size)
      refine hK.out _ _ (fun _ => HS4.out) ?_
      clear hK K
      (try simp only [Act.put, List.setIfInBounds_toArray, List.set_cons_zero, List.set_cons_succ])
      refine AnyJ.takeT [0, 1, 2, 3, 4, 8] (by rfl) (i := 5) (v := .tuple #[.agg #[.int .i64 d0, .int .i64 d1, .string d2, .slice d3 d4 d5, .slice d6 d7 d8], .bool ok]) rfl rfl (by kernel_rfl) (by kernel_rfl) (by kernel_rfl) (by kernel_rfl) (fun _ _ _ h => h) (by rfl) ?_ HS4.out ?_
      · intro W hW
        obtain ⟨s1, s2⟩ := hW
        go_simp
        try (with_reducible rfl)
      simp only [Act.put, List.setIfInBounds_toArray, List.set_cons_zero, List.set_cons_succ]
      refine AnyJ.takeT [0, 1, 2, 3, 4, 5, 7, 8] (by rfl) (i := 6) (v := .agg #[.int .i64 d0, .int .i64 d1, .string d2, .slice d3 d4 d5, .slice d6 d7 d8]) rfl rfl (by kernel_rfl) (by kernel_rfl) (by kernel_rfl) (by kernel_rfl) (fun _ _ _ h => h) (by rfl) ?_ HS4.out ?_
      · intro W hW
        obtain ⟨s1, s2⟩ := hW
        go_simp
        try (with_reducible rfl)
      simp only [Act.put, List.setIfInBounds_toArray, List.set_cons_zero, List.set_cons_succ]
      refine AnyJ.takeT [0, 1, 2, 3, 4, 5, 6, 8, 9] (by rfl) (i := 7) (v := .bool ok) rfl rfl (by kernel_rfl) (by kernel_rfl) (by kernel_rfl) (by kernel_rfl) (fun _ _ _ h => h) (by rfl) ?_ HS4.out ?_
      · intro W hW
        obtain ⟨s1, s2⟩ := hW
        go_simp
        try (with_reducible rfl)
      simp only [Act.put, List.setIfInBounds_toArray, List.set_cons_zero, List.set_cons_succ]
      refine AnyJ.oneL (i := 8) (by kernel_rfl) rfl (fun K hK => ?_)
      go_simp
      refine hK.out _ _ (fun _ => ⟨HS4.out.1.alloc _, HS4.out.2.alloc _⟩) ?_
      clear hK K
      (try simp only [Act.put, List.setIfInBounds_toArray, List.set_cons_zero, List.set_cons_succ])
      obtain ⟨w5, hw5⟩ : ∃ W, w4.alloc (.cells #[.int .i64 d0, .int .i64 d1, .string d2, .slice d3 d4 d5, .slice d6 d7 d8] 40) = W := ⟨_, rfl⟩
      have hb45 : Below w4.heap.size w4 w5 := by rw [← hw5]; exact (Below.refl _ w4).alloc (Nat.le_refl _) _
      have HN := Lib.hid (show Blk w5 w4.heap.size 40 [.int .i64 d0, .int .i64 d1, .string d2, .slice d3 d4 d5, .slice d6 d7 d8] ∧ Below w.heap.size w w5 ∧ PD w5 [.int .i64 d0, .int .i64 d1, .string d2, .slice d3 d4 d5, .slice d6 d7 d8] from ⟨by rw [← hw5]; exact heap_alloc_new w4 _, hbw4.trans (hb45.mono hbw4.size), H0.out.2.2.2.2.2.2.1 _ _ _ hd (hb45.mono hbw4.size)⟩)
      refine AnyJ.oneL (i := 9) (by kernel_rfl) rfl (fun K hK => ?_)
      go_simp
      (try rw [hw5])
      refine hK.out _ _ (fun _ => ⟨HS4.out.1.below hb45, HS4.out.2.below hb45⟩) ?_
      clear hw5 hb45 hbw4 hd hb4
      clear hK K
      (try simp only [Act.put, List.setIfInBounds_toArray, List.set_cons_zero, List.set_cons_succ])
      refine AnyJ.oneL (i := 10) (by kernel_rfl) rfl (fun K hK => ?_)
      go_simp
      refine hK.out _ _ (fun h => by cases h) ?_
      clear hK K
      (try simp only [Act.put, List.setIfInBounds_toArray, List.set_cons_zero, List.set_cons_succ])
      refine AnyJ.done (by kernel_rfl) ?_
      have c0 := HN.out.1.cell 0
      have c1 := HN.out.1.cell 1
      have c2 := HN.out.1.cell 2
      have c3 := HN.out.1.cell 3
      have c4 := HN.out.1.cell 4
      cases ok with
      | false =>
        go_wp2
        go_ret2
        exact ⟨rfl, HN.out.2.1⟩
      | true =>
        go_wp2_with fail
        refine (show Calls _ _ _ _ _ from H0.out.2.2.2.2.2.2.2.2 (by first | rfl | trivial) _ _ HN.out.2.1 HN.out.2.2).mono ?_
        rintro e w9 ⟨rfl, hb9⟩
        have H9 := Lib.hid (HN.out.2.1.trans (hb9.mono HN.out.2.1.size))
        clear hb9 c0 c1 c2 c3 c4
        go_wp2
        go_ret2
        exact ⟨rfl, H9.out⟩
    · go_simp
      refine hK.out _ _ (fun _ => ⟨HS3.out.1.alloc _, HS3.out.2.alloc _⟩) ?_
      clear hK K
      (try simp only [Act.put, List.setIfInBounds_toArray, List.set_cons_zero, List.set_cons_succ])
      obtain ⟨PZ, hPZ⟩ : ∃ P, w3.heap.size = P := ⟨_, rfl⟩
      obtain ⟨w3a, hw3a⟩ : ∃ W, w3.alloc (.cells #[.int .i64 0, .int .i64 0, .string ⟨#[]⟩, .slice none 0 0, .slice none 0 0] 40) = W := ⟨_, rfl⟩
      have hz3 : Blk w3a PZ 40 [.int .i64 0, .int .i64 0, .string ⟨#[]⟩, .slice none 0 0, .slice none 0 0] := by rw [← hw3a, ← hPZ]; exact heap_alloc_new w3 _
      have hba : Below w3.heap.size w3 w3a := by rw [← hw3a]; exact (Below.refl _ w3).alloc (Nat.le_refl _) _
      have hwa := H3.out.1.trans (hba.mono H3.out.1.size)
      have HSa := Lib.hid (And.intro (HS3.out.1.below hba) (HS3.out.2.below hba))
      rw [hw3a, hPZ]
      refine AnyJ.oneL (i := 4) (by kernel_rfl) rfl (fun K hK => ?_)
      go_simp
      go_at_call 43
      refine (show Calls _ _ _ _ _ from H0.out.2.2.2.1 w3a sl hwa (H0.out.2.2.2.2.1 _ _ _ H3.out.2 hba)).mono ?_
      rintro e w4 ⟨d, rfl, hd, hb4⟩
      obtain ⟨d0, d1, d2, d3, d4, d5, d6, d7, d8, rfl⟩ := H0.out.2.2.2.2.2.1 _ _ hd
      have HS4 := Lib.hid (And.intro (HSa.out.1.below hb4) (HSa.out.2.below hb4))
      have hbw4 := hwa.trans (hb4.mono hwa.size)
      have hz4 := hz3.below hb4
      have hPw : w.heap.size ≤ PZ := by rw [← hPZ]; exact H3.out.1.size
      have hPv : P0 + 1 < PZ := by rw [← hPZ]; exact HS3.out.2.lt
      have hsz4 : w3.heap.size ≤ w4.heap.size := Nat.le_trans hba.size hb4.size
      refine hK.out _ _ (fun _ => HS4.out) ?_
      clear hw3a hPZ hz3 hba hwa hb4
      clear hK K
      (try simp only [Act.put, List.setIfInBounds_toArray, List.set_cons_zero, List.set_cons_succ])
      refine AnyJ.takeT [0, 1, 2, 3, 4, 8] (by rfl) (i := 5) (v := .tuple #[.agg #[.int .i64 d0, .int .i64 d1, .string d2, .slice d3 d4 d5, .slice d6 d7 d8], .bool ok]) rfl rfl (by kernel_rfl) (by kernel_rfl) (by kernel_rfl) (by kernel_rfl) (fun _ _ _ h => h) (by rfl) ?_ HS4.out ?_
      · intro W hW
        obtain ⟨s1, s2⟩ := hW
        go_simp
        try (with_reducible rfl)
      simp only [Act.put, List.setIfInBounds_toArray, List.set_cons_zero, List.set_cons_succ]
      refine AnyJ.takeT [0, 1, 2, 3, 4, 5, 7, 8] (by rfl) (i := 6) (v := .agg #[.int .i64 d0, .int .i64 d1, .string d2, .slice d3 d4 d5, .slice d6 d7 d8]) rfl rfl (by kernel_rfl) (by kernel_rfl) (by kernel_rfl) (by kernel_rfl) (fun _ _ _ h => h) (by rfl) ?_ HS4.out ?_
      · intro W hW
        obtain ⟨s1, s2⟩ := hW
        go_simp
        try (with_reducible rfl)
      simp only [Act.put, List.setIfInBounds_toArray, List.set_cons_zero, List.set_cons_succ]
      refine AnyJ.takeT [0, 1, 2, 3, 4, 5, 6, 8, 9] (by rfl) (i := 7) (v := .bool ok) rfl rfl (by kernel_rfl) (by kernel_rfl) (by kernel_rfl) (by kernel_rfl) (fun _ _ _ h => h) (by rfl) ?_ HS4.out ?_
      · intro W hW
        obtain ⟨s1, s2⟩ := hW
        go_simp
        try (with_reducible rfl)
      simp only [Act.put, List.setIfInBounds_toArray, List.set_cons_zero, List.set_cons_succ]
      obtain ⟨W5, hW5⟩ : ∃ W5, (((((w4.setCell ⟨PZ, 0, none⟩ (.int .i64 d0)).setCell ⟨PZ, 1, none⟩ (.int .i64 d1)).setCell ⟨PZ, 2, none⟩ (.string d2)).setCell ⟨PZ, 3, none⟩ (.slice d3 d4 d5)).setCell ⟨PZ, 4, none⟩ (.slice d6 d7 d8)) = W5 := ⟨_, rfl⟩
      have hp5 := put5 hz4 hW5
      have hbb : Below w.heap.size w4 W5 := hp5.2.below (Nat.le_trans H3.out.1.size (by omega)) (fun k hk e => by omega)
      have HN := Lib.hid (show Blk W5 PZ 40 [.int .i64 d0, .int .i64 d1, .string d2, .slice d3 d4 d5, .slice d6 d7 d8] ∧ Below w.heap.size w W5 ∧ PD W5 [.int .i64 d0, .int .i64 d1, .string d2, .slice d3 d4 d5, .slice d6 d7 d8] from ⟨hp5.1, hbw4.trans hbb, H0.out.2.2.2.2.2.2.1 _ _ _ hd hbb⟩)
      have r0 := hz4.cell 0
      have s0 := hz4.frozen 0
      have r1 := hz4.cell 1
      have s1 := hz4.frozen 1
      have r2 := hz4.cell 2
      have s2 := hz4.frozen 2
      have r3 := hz4.cell 3
      have s3 := hz4.frozen 3
      have r4 := hz4.cell 4
      have s4 := hz4.frozen 4
      refine AnyJ.oneL (i := 9) (by kernel_rfl) rfl (fun K hK => ?_)
      go_simp
      (try rw [hW5])
      refine hK.out _ _ (fun _ => ⟨HS4.out.1.only hp5.2 (by omega), HS4.out.2.only hp5.2 (by omega)⟩) ?_
      clear hW5 hp5 hbb hz4 hbw4 hd r0 r1 r2 r3 r4 s0 s1 s2 s3 s4
      clear hK K
      (try simp only [Act.put, List.setIfInBounds_toArray, List.set_cons_zero, List.set_cons_succ])
      refine AnyJ.oneL (i := 10) (by kernel_rfl) rfl (fun K hK => ?_)
      go_simp
      refine hK.out _ _ (fun h => by cases h) ?_
      clear hK K
      (try simp only [Act.put, List.setIfInBounds_toArray, List.set_cons_zero, List.set_cons_succ])
      refine AnyJ.done (by kernel_rfl) ?_
      have c0 := HN.out.1.cell 0
      have c1 := HN.out.1.cell 1
      have c2 := HN.out.1.cell 2
      have c3 := HN.out.1.cell 3
      have c4 := HN.out.1.cell 4
      cases ok with
      | false =>
        go_wp2
        go_ret2
        exact ⟨rfl, HN.out.2.1⟩
      | true =>
        go_wp2_with fail
        refine (show Calls _ _ _ _ _ from H0.out.2.2.2.2.2.2.2.2 (by first | rfl | trivial) _ _ HN.out.2.1 HN.out.2.2).mono ?_
        rintro e w9 ⟨rfl, hb9⟩
        have H9 := Lib.hid (HN.out.2.1.trans (hb9.mono HN.out.2.1.size))
        clear hb9 c0 c1 c2 c3 c4
        go_wp2
        go_ret2
        exact ⟨rfl, H9.out⟩
  · go_simp
    refine hK.out _ _ (fun _ => ⟨HSX.out.1.alloc _, HSX.out.2.alloc _⟩) ?_
    clear hK K
    (try simp only [Act.put, List.setIfInBounds_toArray, List.set_cons_zero, List.set_cons_succ])
    obtain ⟨PZ, hPZ⟩ : ∃ P, W0.heap.size = P := ⟨_, rfl⟩
    obtain ⟨w2a, hw2a⟩ : ∃ W, (W0.alloc (.cells #[.int .i64 0, .int .i64 0, .string ⟨#[]⟩, .slice none 0 0, .slice none 0 0] 40)).drew = W := ⟨_, rfl⟩
    have hz3 : Blk w2a PZ 40 [.int .i64 0, .int .i64 0, .string ⟨#[]⟩, .slice none 0 0, .slice none 0 0] := by rw [← hw2a, ← hPZ]; exact heap_alloc_new W0 _
    have hba : Below W0.heap.size W0 w2a := by rw [← hw2a]; exact ((Below.refl _ W0).alloc (Nat.le_refl _) _).drew
    have hwa := H0.out.2.2.2.2.2.2.2.1.trans (hba.mono H0.out.2.2.2.2.2.2.2.1.size)
    have HSX0 := HSX
    have hsa : Blk w2a P0 23 [.string N, .string X, .bool u] ∧ Blk w2a (P0 + 1) 40 [.int .i64 q0, .int .i64 q1, .string q2, .slice q3 q4 q5, .slice q6 q7 q8] := by rw [← hw2a]; exact ⟨HSX.out.1.alloc _, HSX.out.2.alloc _⟩
    have HSX := Lib.hid hsa
    have HWA := Lib.hid hwa
    rw [hw2a, hPZ]
    refine AnyJ.oneL (i := 3) (by kernel_rfl) rfl (fun K hK => ?_)
    go_simp
    go_at_call 44
    refine (show Calls _ _ _ _ _ from H0.out.2.2.1 w2a HWA.out).mono ?_
    rintro e w3 ⟨sl, rfl, hsl, hb3⟩
    have HS3 := Lib.hid (And.intro (HSX.out.1.below hb3) (HSX.out.2.below hb3))
    have H3 := Lib.hid (And.intro (HWA.out.trans (hb3.mono HWA.out.size)) hsl)
    have HB3 := Lib.hid hb3
    refine hK.out _ _ (fun _ => HS3.out) ?_
    clear hb3 hsl
    clear hK K
    (try simp only [Act.put, List.setIfInBounds_toArray, List.set_cons_zero, List.set_cons_succ])
    refine AnyJ.oneL (i := 4) (by kernel_rfl) rfl (fun K hK => ?_)
    go_simp
    go_at_call 43
    refine (show Calls _ _ _ _ _ from H0.out.2.2.2.1 w3 sl H3.out.1 H3.out.2).mono ?_
    rintro e w4 ⟨d, rfl, hd, hb4⟩
    obtain ⟨d0, d1, d2, d3, d4, d5, d6, d7, d8, rfl⟩ := H0.out.2.2.2.2.2.1 _ _ hd
    have HS4 := Lib.hid (And.intro (HS3.out.1.below hb4) (HS3.out.2.below hb4))
    have hbw4 := H3.out.1.trans (hb4.mono H3.out.1.size)
    have hz4 := (hz3.below HB3.out).below hb4
    have hPw : w.heap.size ≤ PZ := by rw [← hPZ]; exact H0.out.2.2.2.2.2.2.2.1.size
    have hPv : P0 + 1 < PZ := by rw [← hPZ]; exact HSX0.out.2.lt
    have hsz4 : w3.heap.size ≤ w4.heap.size := hb4.size
    refine hK.out _ _ (fun _ => HS4.out) ?_
    clear hw2a hPZ hz3 hba hwa hb4 hsa
    clear hK K
    (try simp only [Act.put, List.setIfInBounds_toArray, List.set_cons_zero, List.set_cons_succ])
    refine AnyJ.takeT [0, 1, 2, 3, 4, 8] (by rfl) (i := 5) (v := .tuple #[.agg #[.int .i64 d0, .int .i64 d1, .string d2, .slice d3 d4 d5, .slice d6 d7 d8], .bool ok]) rfl rfl (by kernel_rfl) (by kernel_rfl) (by kernel_rfl) (by kernel_rfl) (fun _ _ _ h => h) (by rfl) ?_ HS4.out ?_
    · intro W hW
      obtain ⟨s1, s2⟩ := hW
      go_simp
      try (with_reducible rfl)
    simp only [Act.put, List.setIfInBounds_toArray, List.set_cons_zero, List.set_cons_succ]
    refine AnyJ.takeT [0, 1, 2, 3, 4, 5, 7, 8] (by rfl) (i := 6) (v := .agg #[.int .i64 d0, .int .i64 d1, .string d2, .slice d3 d4 d5, .slice d6 d7 d8]) rfl rfl (by kernel_rfl) (by kernel_rfl) (by kernel_rfl) (by kernel_rfl) (fun _ _ _ h => h) (by rfl) ?_ HS4.out ?_
    · intro W hW
      obtain ⟨s1, s2⟩ := hW
      go_simp
      try (with_reducible rfl)
    simp only [Act.put, List.setIfInBounds_toArray, List.set_cons_zero, List.set_cons_succ]
    refine AnyJ.takeT [0, 1, 2, 3, 4, 5, 6, 8, 9] (by rfl) (i := 7) (v := .bool ok) rfl rfl (by kernel_rfl) (by kernel_rfl) (by kernel_rfl) (by kernel_rfl) (fun _ _ _ h => h) (by rfl) ?_ HS4.out ?_
    · intro W hW
      obtain ⟨s1, s2⟩ := hW
      go_simp
      try (with_reducible rfl)
    simp only [Act.put, List.setIfInBounds_toArray, List.set_cons_zero, List.set_cons_succ]
    obtain ⟨W5, hW5⟩ : ∃ W5, (((((w4.setCell ⟨PZ, 0, none⟩ (.int .i64 d0)).setCell ⟨PZ, 1, none⟩ (.int .i64 d1)).setCell ⟨PZ, 2, none⟩ (.string d2)).setCell ⟨PZ, 3, none⟩ (.slice d3 d4 d5)).setCell ⟨PZ, 4, none⟩ (.slice d6 d7 d8)) = W5 := ⟨_, rfl⟩
    have hp5 := put5 hz4 hW5
    have hbb : Below w.heap.size w4 W5 := hp5.2.below (Nat.le_trans H3.out.1.size (by omega)) (fun k hk e => by omega)
    have HN := Lib.hid (show Blk W5 PZ 40 [.int .i64 d0, .int .i64 d1, .string d2, .slice d3 d4 d5, .slice d6 d7 d8] ∧ Below w.heap.size w W5 ∧ PD W5 [.int .i64 d0, .int .i64 d1, .string d2, .slice d3 d4 d5, .slice d6 d7 d8] from ⟨hp5.1, hbw4.trans hbb, H0.out.2.2.2.2.2.2.1 _ _ _ hd hbb⟩)
    have r0 := hz4.cell 0
    have s0 := hz4.frozen 0
    have r1 := hz4.cell 1
    have s1 := hz4.frozen 1
    have r2 := hz4.cell 2
    have s2 := hz4.frozen 2
    have r3 := hz4.cell 3
    have s3 := hz4.frozen 3
    have r4 := hz4.cell 4
    have s4 := hz4.frozen 4
    refine AnyJ.oneL (i := 9) (by kernel_rfl) rfl (fun K hK => ?_)
    go_simp
    (try rw [hW5])
    refine hK.out _ _ (fun _ => ⟨HS4.out.1.only hp5.2 (by omega), HS4.out.2.only hp5.2 (by omega)⟩) ?_
    clear hW5 hp5 hbb hz4 hbw4 hd r0 r1 r2 r3 r4 s0 s1 s2 s3 s4
    clear hK K
    (try simp only [Act.put, List.setIfInBounds_toArray, List.set_cons_zero, List.set_cons_succ])
    refine AnyJ.oneL (i := 10) (by kernel_rfl) rfl (fun K hK => ?_)
    go_simp
    refine hK.out _ _ (fun h => by cases h) ?_
    clear hK K
    (try simp only [Act.put, List.setIfInBounds_toArray, List.set_cons_zero, List.set_cons_succ])
    refine AnyJ.done (by kernel_rfl) ?_
    have c0 := HN.out.1.cell 0
    have c1 := HN.out.1.cell 1
    have c2 := HN.out.1.cell 2
    have c3 := HN.out.1.cell 3
    have c4 := HN.out.1.cell 4
    cases ok with
    | false =>
      go_wp2
      go_ret2
      exact ⟨rfl, HN.out.2.1⟩
    | true =>
      go_wp2_with fail
      refine (show Calls _ _ _ _ _ from H0.out.2.2.2.2.2.2.2.2 (by first | rfl | trivial) _ _ HN.out.2.1 HN.out.2.2).mono ?_
      rintro e w9 ⟨rfl, hb9⟩
      have H9 := Lib.hid (HN.out.2.1.trans (hb9.mono HN.out.2.1.size))
      clear hb9 c0 c1 c2 c3 c4
      go_wp2
      go_ret2
      exact ⟨rfl, H9.out⟩
end Go.Proofs.YtecnjifincahaaaGreatDoor
