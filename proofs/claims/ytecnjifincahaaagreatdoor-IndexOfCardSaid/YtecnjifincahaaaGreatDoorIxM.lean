/- The law's Spec. -/
import Derived.Test.YtecnjifincahaaaGreatDoorIxL
namespace Go.Proofs.YtecnjifincahaaaGreatDoor
open Go.Shelf Go.RowKit Go.Lib

theorem cat_dig : ∀ i, i < 10 → (⟨#[105]⟩ : ByteArray) ++ BA (dig i) = BA (105 :: dig i) := by decide +kernel

set_option maxHeartbeats 8000000 in
set_option maxRecDepth 100000 in
theorem spec_any (n : Nat) (hn : n < 256) (u : Bool) (w : World) : Calls Tryz.prog 15 #[.int .u8 n, .bool u] w fun e w' => e = .returned (.agg #[.string (BA (105 :: dig (n % 10))), .string (BA (pathS (n % 5))), .bool u]) ∧ Below w.heap.size w w' := by
  obtain ⟨k, hk⟩ : ∃ k, n % 10 = k := ⟨_, rfl⟩
  obtain ⟨m, hm⟩ : ∃ m, n % 5 = m := ⟨_, rfl⟩
  rw [hk, hm]
  have hk10 : k < 10 := by omega
  have hm5 : m < 5 := by omega
  have z1 : (n : Int).tmod 10 = (k : Int) := by
    rw [Int.tmod_eq_emod_of_nonneg (by omega)]; omega
  have z2 : IntKind.u8.wrap ((k : Int) + 1) = (k : Int) + 1 := by
    rw [IntKind.wrap_u8]; omega
  have z3 : (n : Int).tmod 5 = (m : Int) := by
    rw [Int.tmod_eq_emod_of_nonneg (by omega)]; omega
  have h1 := dig_ext k hk10
  have h2 := cat_dig k hk10
  obtain ⟨DG, hDG⟩ : ∃ DG, BA (dig k) = DG := ⟨_, rfl⟩
  obtain ⟨NM, hNM⟩ : ∃ NM, BA (105 :: dig k) = NM := ⟨_, rfl⟩
  obtain ⟨PT, hPT⟩ : ∃ PT, BA (pathS m) = PT := ⟨_, rfl⟩
  obtain ⟨W0, hW0⟩ : ∃ W, w.alloc (.cells #[.string ⟨#[]⟩, .string ⟨#[]⟩, .bool false] 23) = W := ⟨_, rfl⟩
  rw [hDG, hNM] at h2
  rw [hDG] at h1
  have h3 : DG.size = 1 := by rw [← hDG]; rfl
  have H1 := Lib.hid (And.intro h1 (And.intro h2 h3))
  have HN := Lib.hid (And.intro hDG (And.intro hNM hPT))
  have HZ := Lib.hid (And.intro z1 (And.intro z2 z3))
  have HW := Lib.hid hW0
  rw [hNM, hPT]
  clear hDG hNM hPT h1 h2 h3 hk hm hn z1 z2 z3 hW0
  go_enter Tryz.func15, Tryz.ntmps15
  go_wp2_with fail
  rw [HW.out]
  refine AnyJ.begin (J := fun j => Nat.ble j 13) (S := fun _ => True) (by kernel_rfl) rfl rfl ?_
  refine AnyJ.takeT [2, 3, 4, 7, 8, 9, 10, 11, 12] (by rfl) (i := 0) (v := .int .u8 (n : Int)) rfl rfl (by kernel_rfl) (by kernel_rfl) (by kernel_rfl) (by kernel_rfl) (fun _ _ _ h => h) (by rfl) ?_ trivial ?_
  · intro W hW
    clear hW
    go_simp
    try (with_reducible rfl)
  simp only [Act.put, List.setIfInBounds_toArray, List.set_cons_zero, List.set_cons_succ]
  refine AnyJ.takeT [0, 2, 3, 4, 7, 8, 9, 10, 11, 12] (by rfl) (i := 1) (v := .int .u8 (k : Int)) rfl rfl (by kernel_rfl) (by kernel_rfl) (by kernel_rfl) (by kernel_rfl) (fun _ _ _ h => h) (by rfl) ?_ trivial ?_
  · intro W hW
    clear hW
    have z1 := HZ.out.1
    have z2 := HZ.out.2.1
    have z3 := HZ.out.2.2
    go_simp
    try (with_reducible rfl)
  simp only [Act.put, List.setIfInBounds_toArray, List.set_cons_zero, List.set_cons_succ]
  refine AnyJ.takeT [0, 1, 7, 8, 9, 10, 11, 12] (by rfl) (i := 2) (v := .int .u8 (n : Int)) rfl rfl (by kernel_rfl) (by kernel_rfl) (by kernel_rfl) (by kernel_rfl) (fun _ _ _ h => h) (by rfl) ?_ trivial ?_
  · intro W hW
    clear hW
    go_simp
    try (with_reducible rfl)
  simp only [Act.put, List.setIfInBounds_toArray, List.set_cons_zero, List.set_cons_succ]
  refine AnyJ.takeT [0, 1, 2, 7, 8, 9, 10, 11, 12] (by rfl) (i := 3) (v := .int .u8 (k : Int)) rfl rfl (by kernel_rfl) (by kernel_rfl) (by kernel_rfl) (by kernel_rfl) (fun _ _ _ h => h) (by rfl) ?_ trivial ?_
  · intro W hW
    clear hW
    have z1 := HZ.out.1
    have z2 := HZ.out.2.1
    have z3 := HZ.out.2.2
    go_simp
    try (with_reducible rfl)
  simp only [Act.put, List.setIfInBounds_toArray, List.set_cons_zero, List.set_cons_succ]
  refine AnyJ.takeT [0, 1, 2, 3, 7, 8, 9, 10, 11, 12] (by rfl) (i := 4) (v := .int .u8 ((k : Int) + 1)) rfl rfl (by kernel_rfl) (by kernel_rfl) (by kernel_rfl) (by kernel_rfl) (fun _ _ _ h => h) (by rfl) ?_ trivial ?_
  · intro W hW
    clear hW
    have z1 := HZ.out.1
    have z2 := HZ.out.2.1
    have z3 := HZ.out.2.2
    go_simp
    try (with_reducible rfl)
  simp only [Act.put, List.setIfInBounds_toArray, List.set_cons_zero, List.set_cons_succ]
  refine AnyJ.takeT [0, 1, 2, 3, 4, 7, 8, 9, 10, 11, 12] (by rfl) (i := 5) (v := .string DG) rfl rfl (by kernel_rfl) (by kernel_rfl) (by kernel_rfl) (by kernel_rfl) (fun _ _ _ h => h) (by rfl) ?_ trivial ?_
  · intro W hW
    clear hW
    have h1 := H1.out.1
    unfold digS at h1
    have y0 : (k : Int) + 1 ≤ 10 := by omega
    have y1 : 0 ≤ (k : Int) + 1 := by omega
    have y2 : (k : Int) ≤ (k : Int) + 1 := by omega
    go_simp
    try (with_reducible rfl)
  simp only [Act.put, List.setIfInBounds_toArray, List.set_cons_zero, List.set_cons_succ]
  refine AnyJ.takeT [0, 1, 2, 3, 4, 5, 7, 8, 9, 10, 11, 12] (by rfl) (i := 6) (v := .string NM) rfl rfl (by kernel_rfl) (by kernel_rfl) (by kernel_rfl) (by kernel_rfl) (fun _ _ _ h => h) (by rfl) ?_ trivial ?_
  · intro W hW
    clear hW
    have h2 := H1.out.2.1
    have h3 := H1.out.2.2
    go_simp
    try (with_reducible rfl)
  simp only [Act.put, List.setIfInBounds_toArray, List.set_cons_zero, List.set_cons_succ]
  refine AnyJ.takeT [0, 1, 2, 3, 4, 5, 6, 7, 12] (by rfl) (i := 8) (v := .int .u8 (n : Int)) rfl rfl (by kernel_rfl) (by kernel_rfl) (by kernel_rfl) (by kernel_rfl) (fun _ _ _ h => h) (by rfl) ?_ trivial ?_
  · intro W hW
    clear hW
    go_simp
    try (with_reducible rfl)
  simp only [Act.put, List.setIfInBounds_toArray, List.set_cons_zero, List.set_cons_succ]
  refine AnyJ.takeT [0, 1, 2, 3, 4, 5, 6, 7, 8, 12] (by rfl) (i := 9) (v := .int .u8 (m : Int)) rfl rfl (by kernel_rfl) (by kernel_rfl) (by kernel_rfl) (by kernel_rfl) (fun _ _ _ h => h) (by rfl) ?_ trivial ?_
  · intro W hW
    clear hW
    have z1 := HZ.out.1
    have z2 := HZ.out.2.1
    have z3 := HZ.out.2.2
    go_simp
    try (with_reducible rfl)
  simp only [Act.put, List.setIfInBounds_toArray, List.set_cons_zero, List.set_cons_succ]
  refine AnyJ.takeT [0, 1, 2, 3, 4, 5, 6, 7, 8, 9, 10, 11] (by rfl) (i := 12) (v := .bool u) rfl rfl (by kernel_rfl) (by kernel_rfl) (by kernel_rfl) (by kernel_rfl) (fun _ _ _ h => h) (by rfl) ?_ trivial ?_
  · intro W hW
    clear hW
    go_simp
    try (with_reducible rfl)
  simp only [Act.put, List.setIfInBounds_toArray, List.set_cons_zero, List.set_cons_succ]
  refine AnyJ.oneL (i := 7) (by kernel_rfl) rfl (fun K hK => ?_)
  go_simp
  refine hK.out _ _ (fun _ => trivial) ?_
  clear hK K
  (try simp only [Act.put, List.setIfInBounds_toArray, List.set_cons_zero, List.set_cons_succ])
  obtain ⟨P0, hP0⟩ : ∃ P, w.heap.size = P := ⟨_, rfl⟩
  obtain ⟨P1, hP1⟩ : ∃ P, W0.heap.size = P := ⟨_, rfl⟩
  obtain ⟨W1, hW1⟩ : ∃ W, (W0.alloc (.cells #[.string ⟨#[97]⟩, .string ⟨#[98]⟩, .string ⟨#[97, 46, 98]⟩, .string ⟨#[99, 46, 48]⟩, .string ⟨#[110]⟩] 9)).drew = W := ⟨_, rfl⟩
  have hb : Below w.heap.size w W1 := by
    rw [← hW1, ← HW.out]
    exact (((Below.refl _ w).alloc (Nat.le_refl _) _).alloc (by simp) _).drew
  have hk1 : Blk W1 P1 9 [.string ⟨#[97]⟩, .string ⟨#[98]⟩, .string ⟨#[97, 46, 98]⟩, .string ⟨#[99, 46, 48]⟩, .string ⟨#[110]⟩] := by
    rw [← hW1, ← hP1]; exact heap_alloc_new W0 _
  have hk0 : Blk W1 P0 23 [.string ⟨#[]⟩, .string ⟨#[]⟩, .bool false] := by
    rw [← hW1, ← hP0, ← HW.out]; exact (Blk.alloc (heap_alloc_new w _) _)
  have hc : W1.cell? ⟨P1, m, none⟩ = some (.string PT) := by
    rw [hk1.cell m, ← HN.out.2.2]
    rcases (show m = 0 ∨ m = 1 ∨ m = 2 ∨ m = 3 ∨ m = 4 by omega) with rfl | rfl | rfl | rfl | rfl <;> rfl
  have zm : (m : Int) < 5 := by omega
  rw [hW1, hP0, hP1]
  have HB := Lib.hid (And.intro hb hP0)
  have HK := Lib.hid hk0
  clear hb hk1 hk0 hW1 hP0 hP1
  refine AnyJ.oneL (i := 10) (by kernel_rfl) rfl (fun K hK => ?_)
  go_simp
  refine hK.out _ _ (fun _ => trivial) ?_
  clear hK K
  (try simp only [Act.put, List.setIfInBounds_toArray, List.set_cons_zero, List.set_cons_succ])
  refine AnyJ.oneL (i := 11) (by kernel_rfl) rfl (fun K hK => ?_)
  go_simp
  refine hK.out _ _ (fun _ => trivial) ?_
  clear hK K
  (try simp only [Act.put, List.setIfInBounds_toArray, List.set_cons_zero, List.set_cons_succ])
  refine AnyJ.oneL (i := 13) (by kernel_rfl) rfl (fun K hK => ?_)
  go_simp
  refine hK.out _ _ (fun _ => trivial) ?_
  clear hK K
  (try simp only [Act.put, List.setIfInBounds_toArray, List.set_cons_zero, List.set_cons_succ])
  clear hc
  have r0 := HK.out.cell 0
  have r1 := HK.out.cell 1
  have r2 := HK.out.cell 2
  have s0 := HK.out.frozen 0
  have s1 := HK.out.frozen 1
  have s2 := HK.out.frozen 2
  refine AnyJ.oneL (i := 14) (by kernel_rfl) rfl (fun K hK => ?_)
  go_simp
  refine hK.out _ _ (fun h => by cases h) ?_
  clear hK K r0 r1 r2 s0 s1 s2
  obtain ⟨W2, hW2⟩ : ∃ W, (((W1.setCell ⟨P0, 0, none⟩ (.string NM)).setCell ⟨P0, 1, none⟩ (.string PT)).setCell ⟨P0, 2, none⟩ (.bool u)) = W := ⟨_, rfl⟩
  have hk2 : Blk W2 P0 23 [.string NM, .string PT, .bool u] := by rw [← hW2]; exact ((HK.out.set 0 _).set 1 _).set 2 _
  have ho : Only (fun x => x = P0) W1 W2 := by
    rw [← hW2]; exact ((Only.set1 W1 P0 0 _).trans (Only.set1 _ P0 1 _)).trans (Only.set1 _ P0 2 _)
  have hb2 : Below w.heap.size w W2 := HB.out.1.trans (ho.below HB.out.1.size (fun k hk e => by have := HB.out.2; omega))
  have HB2 := Lib.hid hb2
  rw [hW2]
  clear hW2 ho hb2
  refine AnyJ.done (by kernel_rfl) ?_
  go_wp2
  (try simp only [Exit.inBlock, Exit.then])
  refine bodyPost_ret (v := .agg #[.string NM, .string PT, .bool u]) ?_ rfl ⟨rfl, HB2.out⟩
  exact results_cell_row rfl _ W2 P0 23 _ (0, 0) _ rfl hk2 Tryz.underlying23 rfl (by kernel_rfl)
end Go.Proofs.YtecnjifincahaaaGreatDoor
