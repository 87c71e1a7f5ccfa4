/- index.order: entries held against one another. -/
import Derived.Test.YtecnjifincahaaaGreatDoorIyH
import Derived.Test.YtecnjifincahaaaGreatDoorShelfS
namespace Go.Proofs.YtecnjifincahaaaGreatDoor
open Go.Shelf Go.RowKit Go.Lib Go.Sort

def icmpI (a b : Int) : Int := if a < b then -1 else if b < a then 1 else 0
set_option maxRecDepth 100000 in
theorem nan_i64 (n : Int) (w : World) : Calls Tryz.prog 102 #[.int .i64 n] w fun e w' => e = .returned (.bool false) ∧ w' = w := by
  go_enter Tryz.func102, Tryz.ntmps102
  go_wp2
  go_ret
  exact ⟨by simp, rfl⟩
set_option maxHeartbeats 4000000 in
set_option maxRecDepth 100000 in
theorem ccmp_i64 (a b : Int) (w : World) : Calls Tryz.prog 74 #[.int .i64 a, .int .i64 b] w fun e w' => e = .returned (.int .i64 (icmpI a b)) ∧ w' = w := by
  unfold icmpI
  by_cases h1 : a < b
  · rw [if_pos h1]
    go_enter Tryz.func74, Tryz.ntmps74
    go_wp2_with fail
    refine (nan_i64 _ _).mono ?_
    rintro e w2 ⟨rfl, rfl⟩
    go_wp2_with fail
    refine (nan_i64 _ _).mono ?_
    rintro e w3 ⟨rfl, rfl⟩
    go_wp2
    go_ret
    exact ⟨rfl, rfl⟩
  · rw [if_neg h1]
    by_cases h2 : b < a
    · rw [if_pos h2]
      go_enter Tryz.func74, Tryz.ntmps74
      go_wp2_with fail
      refine (nan_i64 _ _).mono ?_
      rintro e w2 ⟨rfl, rfl⟩
      go_wp2_with fail
      refine (nan_i64 _ _).mono ?_
      rintro e w3 ⟨rfl, rfl⟩
      go_wp2
      go_ret
      exact ⟨rfl, rfl⟩
    · rw [if_neg h2]
      go_enter Tryz.func74, Tryz.ntmps74
      go_wp2_with fail
      refine (nan_i64 _ _).mono ?_
      rintro e w2 ⟨rfl, rfl⟩
      go_wp2_with fail
      refine (nan_i64 _ _).mono ?_
      rintro e w3 ⟨rfl, rfl⟩
      go_wp2
      go_ret
      exact ⟨rfl, rfl⟩
theorem compare_lcmp : ∀ (l m : BL), Lib.compareBytes l m = sgnO (lcmp l m)
  | [], [] => rfl
  | [], _ :: _ => rfl
  | _ :: _, [] => rfl
  | a :: l, b :: m => by
    rw [Lib.compareBytes, lcmp_cons]
    split
    · rfl
    · split
      · rfl
      · exact compare_lcmp l m
/-- how entries stand to one another. -/
def cmpE (a b : Ent) : Int := if sgnO (lcmp a.1 b.1) = 0 then icmpI a.2 b.2 else sgnO (lcmp a.1 b.1)
set_option maxHeartbeats 4000000 in
set_option maxRecDepth 100000 in
theorem cor_any (x y : Int) (b : Nat) (w : World) (hk : Blk w b 3 [.int .i64 x, .int .i64 y]) : Calls Tryz.prog 72 #[.slice (some ⟨b, 0, none⟩) 2 2] w fun e w' => e = .returned (.int .i64 (if x = 0 then y else x)) ∧ w' = w := by
  have c0 := hk.cell 0
  have c1 := hk.cell 1
  clear hk
  by_cases hx : x = 0
  · subst hx
    rw [if_pos rfl]
    by_cases hy : y = 0
    · subst hy
      go_enter Tryz.func72, Tryz.ntmps72
      go_wp2_with fail
      go_loopg [8] 2 (fun gk iv wr => ∃ i : Nat, gk + i = 2 ∧ iv = .int .i64 (i : Int) ∧ wr = w)
      case atStart => exact ⟨0, rfl, rfl, rfl⟩
      case round =>
        obtain ⟨i, hg, rfl, rfl⟩ := hrel
        rcases (show i = 0 ∨ i = 1 ∨ i = 2 by omega) with rfl | rfl | rfl
        · go_wp2
          go_roundg 1
          case rel => exact ⟨1, rfl, rfl, rfl⟩
          case measure => omega
        · go_wp2
          go_roundg 0
          case rel => exact ⟨2, rfl, rfl, rfl⟩
          case measure => omega
        · go_wp2
          go_ret
          exact ⟨rfl, rfl⟩
    · have hy2 : (y == 0) = false := by rw [beq_eq_false_iff_ne]; exact hy
      go_enter Tryz.func72, Tryz.ntmps72
      go_wp2_with fail
      go_loopg [8] 2 (fun gk iv wr => ∃ i : Nat, gk + i = 2 ∧ i < 2 ∧ iv = .int .i64 (i : Int) ∧ wr = w)
      case atStart => exact ⟨0, rfl, by omega, rfl, rfl⟩
      case round =>
        obtain ⟨i, hg, hi, rfl, rfl⟩ := hrel
        rcases (show i = 0 ∨ i = 1 by omega) with rfl | rfl
        · go_wp2
          go_roundg 1
          case rel => exact ⟨1, rfl, by omega, rfl, rfl⟩
          case measure => omega
        · go_wp2
          go_ret
          exact ⟨rfl, rfl⟩
  · rw [if_neg hx]
    have hx2 : (x == 0) = false := by rw [beq_eq_false_iff_ne]; exact hx
    go_enter Tryz.func72, Tryz.ntmps72
    go_wp2_with fail
    go_loopg [8] 2 (fun gk iv wr => gk = 2 ∧ iv = .int .i64 0 ∧ wr = w)
    case atStart => exact ⟨rfl, rfl, rfl⟩
    case round =>
      obtain ⟨rfl, rfl, rfl⟩ := hrel
      go_wp2
      go_ret
      exact ⟨rfl, rfl⟩

set_option maxHeartbeats 4000000 in
set_option maxRecDepth 100000 in
theorem order_any (a b : Ent) (w : World) : Calls Tryz.prog 48 #[.agg #[.string (BA a.1), .int .i64 a.2], .agg #[.string (BA b.1), .int .i64 b.2]] w fun e w' => e = .returned (.int .i64 (cmpE a b)) ∧ ∃ os, w' = grow (w.drewN 1) os := by
  obtain ⟨W0, hW0⟩ : ∃ W, (w.alloc (.cells #[.string (BA a.1), .int .i64 a.2] 53)).alloc (.cells #[.string (BA b.1), .int .i64 b.2] 53) = W := ⟨_, rfl⟩
  obtain ⟨P0, hP0⟩ : ∃ P, w.heap.size = P := ⟨_, rfl⟩
  have hk0 : Blk W0 P0 53 [.string (BA a.1), .int .i64 a.2] := by rw [← hW0, ← hP0]; exact Blk.alloc (heap_alloc_new w _) _
  have hk1 : Blk W0 (P0 + 1) 53 [.string (BA b.1), .int .i64 b.2] := by rw [← hW0, ← hP0]; exact blk_new2 w _ _ _
  obtain ⟨x, hx⟩ : ∃ x, sgnO (lcmp a.1 b.1) = x := ⟨_, rfl⟩
  obtain ⟨y, hy⟩ : ∃ y, icmpI a.2 b.2 = y := ⟨_, rfl⟩
  have hcm : cmpE a b = if x = 0 then y else x := by unfold cmpE; rw [hx, hy]
  have ht : ∀ W, Calls Tryz.prog 73 #[.string (BA a.1), .string (BA b.1)] W fun e w' => e = .returned (.int .i64 x) ∧ w' = W := fun W => by
    have h := Tryz.strings_Compare (BA a.1) (BA b.1) W
    rw [compare_lcmp, show (BA a.1).data.toList = a.1 by simp, show (BA b.1).data.toList = b.1 by simp, hx] at h
    exact h
  have hc : ∀ W, Calls Tryz.prog 74 #[.int .i64 a.2, .int .i64 b.2] W fun e w' => e = .returned (.int .i64 y) ∧ w' = W := fun W => by
    have h := ccmp_i64 a.2 b.2 W
    rw [hy] at h
    exact h
  obtain ⟨z, hz⟩ : ∃ z, (if x = 0 then y else x) = z := ⟨_, rfl⟩
  have hor : ∀ b W, Blk W b 3 [.int .i64 x, .int .i64 y] → Calls Tryz.prog 72 #[.slice (some ⟨b, 0, none⟩) 2 2] W fun e w' => e = .returned (.int .i64 z) ∧ w' = W := fun b W hk => by rw [← hz]; exact cor_any x y b W hk
  rw [hcm, hz]
  clear hz hcm
  obtain ⟨A, hA⟩ : ∃ A, BA a.1 = A := ⟨_, rfl⟩
  obtain ⟨B, hB⟩ : ∃ B, BA b.1 = B := ⟨_, rfl⟩
  obtain ⟨p, hp⟩ : ∃ x, a.2 = x := ⟨_, rfl⟩
  obtain ⟨q, hq⟩ : ∃ x, b.2 = x := ⟨_, rfl⟩
  rw [hA, hB] at ht
  rw [hp, hq] at hc
  rw [hA, hp] at hk0 hW0 ⊢
  rw [hB, hq] at hk1 hW0 ⊢
  have hgr : ∀ o, W0.drew.alloc o = grow (w.drewN 1) #[.cells #[.string A, .int .i64 p] 53, .cells #[.string B, .int .i64 q] 53, o] := fun o => by
    rw [← hW0]
    rw [show (((w.alloc (.cells #[.string A, .int .i64 p] 53)).alloc (.cells #[.string B, .int .i64 q] 53)).drew.alloc o) = (((w.drewN 1).alloc (.cells #[.string A, .int .i64 p] 53)).alloc (.cells #[.string B, .int .i64 q] 53)).alloc o from rfl]
    rw [alloc_eq_grow, alloc_eq_grow, alloc_eq_grow, grow_grow, grow_grow]
    rfl
  have H0 := Lib.hid (And.intro hW0 (And.intro hP0 (And.intro ht (And.intro hc (And.intro hgr hor)))))
  have HS := Lib.hid (And.intro hk0 hk1)
  clear hW0 hP0 hk0 hk1 ht hc hgr hA hB hp hq hx hy hor
  go_enter Tryz.func48, Tryz.ntmps48
  go_wp2_with fail
  rw [H0.out.1, H0.out.2.1]
  refine AnyP.begin (J := fun j => Nat.ble j 8) (S := fun W => Blk W P0 53 [.string A, .int .i64 p] ∧ Blk W (P0 + 1) 53 [.string B, .int .i64 q]) (by kernel_rfl) rfl rfl ?_
  refine AnyP.takeP (i := 0) (v := .pointer (some ⟨P0, 0, none⟩)) rfl rfl (by kernel_rfl) (by kernel_rfl) (by kernel_rfl) (fun _ _ _ h => h) (by rfl) ?_ ?_
  · intro W
    go_simp
    try (with_reducible rfl)
  simp only [Act.put, List.setIfInBounds_toArray, List.set_cons_zero, List.set_cons_succ]
  refine AnyP.takeP (i := 2) (v := .pointer (some ⟨P0 + 1, 0, none⟩)) rfl rfl (by kernel_rfl) (by kernel_rfl) (by kernel_rfl) (fun _ _ _ h => h) (by rfl) ?_ ?_
  · intro W
    go_simp
    try (with_reducible rfl)
  simp only [Act.put, List.setIfInBounds_toArray, List.set_cons_zero, List.set_cons_succ]
  refine AnyP.takeP (i := 5) (v := .pointer (some ⟨P0, 1, none⟩)) rfl rfl (by kernel_rfl) (by kernel_rfl) (by kernel_rfl) (fun _ _ _ h => h) (by rfl) ?_ ?_
  · intro W
    go_simp
    try (with_reducible rfl)
  simp only [Act.put, List.setIfInBounds_toArray, List.set_cons_zero, List.set_cons_succ]
  refine AnyP.takeP (i := 7) (v := .pointer (some ⟨P0 + 1, 1, none⟩)) rfl rfl (by kernel_rfl) (by kernel_rfl) (by kernel_rfl) (fun _ _ _ h => h) (by rfl) ?_ ?_
  · intro W
    go_simp
    try (with_reducible rfl)
  simp only [Act.put, List.setIfInBounds_toArray, List.set_cons_zero, List.set_cons_succ]
  refine AnyP.takeT [3, 6, 8] (by rfl) (i := 1) (v := .string A) rfl rfl (by kernel_rfl) (by kernel_rfl) (by kernel_rfl) (by kernel_rfl) (fun _ _ _ h => h) (by rfl) ?_ ⟨HS.out.1.drew, HS.out.2.drew⟩ ?_
  · intro W hW
    have n0 := hW.1.cell 0
    have n1 := hW.1.cell 1
    have m0 := hW.2.cell 0
    have m1 := hW.2.cell 1
    go_simp
    try (with_reducible rfl)
  simp only [Act.put, List.setIfInBounds_toArray, List.set_cons_zero, List.set_cons_succ]
  refine AnyP.takeT [6, 8] (by rfl) (i := 3) (v := .string B) rfl rfl (by kernel_rfl) (by kernel_rfl) (by kernel_rfl) (by kernel_rfl) (fun _ _ _ h => h) (by rfl) ?_ ⟨HS.out.1.drew, HS.out.2.drew⟩ ?_
  · intro W hW
    have n0 := hW.1.cell 0
    have n1 := hW.1.cell 1
    have m0 := hW.2.cell 0
    have m1 := hW.2.cell 1
    go_simp
    try (with_reducible rfl)
  simp only [Act.put, List.setIfInBounds_toArray, List.set_cons_zero, List.set_cons_succ]
  refine AnyP.takeT [4, 8] (by rfl) (i := 6) (v := .int .i64 p) rfl rfl (by kernel_rfl) (by kernel_rfl) (by kernel_rfl) (by kernel_rfl) (fun _ _ _ h => h) (by rfl) ?_ ⟨HS.out.1.drew, HS.out.2.drew⟩ ?_
  · intro W hW
    have n0 := hW.1.cell 0
    have n1 := hW.1.cell 1
    have m0 := hW.2.cell 0
    have m1 := hW.2.cell 1
    go_simp
    try (with_reducible rfl)
  simp only [Act.put, List.setIfInBounds_toArray, List.set_cons_zero, List.set_cons_succ]
  refine AnyP.takeT [4] (by rfl) (i := 8) (v := .int .i64 q) rfl rfl (by kernel_rfl) (by kernel_rfl) (by kernel_rfl) (by kernel_rfl) (fun _ _ _ h => h) (by rfl) ?_ ⟨HS.out.1.drew, HS.out.2.drew⟩ ?_
  · intro W hW
    have n0 := hW.1.cell 0
    have n1 := hW.1.cell 1
    have m0 := hW.2.cell 0
    have m1 := hW.2.cell 1
    go_simp
    try (with_reducible rfl)
  simp only [Act.put, List.setIfInBounds_toArray, List.set_cons_zero, List.set_cons_succ]
  refine AnyP.oneL (i := 4) (by kernel_rfl) rfl (fun K hK => ?_)
  go_simp
  go_at_call 73
  refine (show Calls _ _ _ _ _ from H0.out.2.2.1 _).mono ?_
  rintro e w2 ⟨rfl, rfl⟩
  refine hK.out _ _ (fun _ h => h) ?_
  clear hK K
  (try simp only [Act.put, List.setIfInBounds_toArray, List.set_cons_zero, List.set_cons_succ])
  refine AnyP.oneL (i := 9) (by kernel_rfl) rfl (fun K hK => ?_)
  go_simp
  go_at_call 74
  refine (show Calls _ _ _ _ _ from H0.out.2.2.2.1 _).mono ?_
  rintro e w2 ⟨rfl, rfl⟩
  refine hK.out _ _ (fun h => by cases h) ?_
  clear hK K
  (try simp only [Act.put, List.setIfInBounds_toArray, List.set_cons_zero, List.set_cons_succ])
  refine AnyP.oneL (i := 10) (by kernel_rfl) rfl (fun K hK => ?_)
  go_simp
  refine hK.out _ _ (fun h => by cases h) ?_
  clear hK K
  (try simp only [Act.put, List.setIfInBounds_toArray, List.set_cons_zero, List.set_cons_succ])
  obtain ⟨W2, hW2⟩ : ∃ W, W0.drew.alloc (.cells #[.int .i64 x, .int .i64 y] 3) = W := ⟨_, rfl⟩
  have hk2 : Blk W2 W0.heap.size 3 [.int .i64 x, .int .i64 y] := by rw [← hW2]; exact heap_alloc_new W0.drew _
  have HC := Lib.hid (And.intro (H0.out.2.2.2.2.2 W0.heap.size W2 hk2) hW2)
  clear hk2 hW2
  refine AnyP.oneL (i := 11) (by kernel_rfl) rfl (fun K hK => ?_)
  go_simp
  go_at_call 72
  refine (show Calls _ _ _ _ _ from by rw [show (W0.alloc (.cells #[.int .i64 x, .int .i64 y] 3)).drew = W2 from HC.out.2]; exact HC.out.1).mono ?_
  rintro e w2 ⟨rfl, rfl⟩
  refine hK.out _ _ (fun h => by cases h) ?_
  clear hK K
  (try simp only [Act.put, List.setIfInBounds_toArray, List.set_cons_zero, List.set_cons_succ])
  refine AnyP.takeP (i := 12) (v := .int .i64 z) rfl rfl (by kernel_rfl) (by kernel_rfl) (by kernel_rfl) (fun _ _ _ h => h) (by rfl) ?_ ?_
  · intro W
    go_simp
    try (with_reducible rfl)
  simp only [Act.put, List.setIfInBounds_toArray, List.set_cons_zero, List.set_cons_succ]
  refine AnyP.done (by kernel_rfl) ?_
  go_wp2
  go_ret
  exact ⟨by first | rfl | simp, _, by rw [← HC.out.2]; exact H0.out.2.2.2.2.1 _⟩
end Go.Proofs.YtecnjifincahaaaGreatDoor
