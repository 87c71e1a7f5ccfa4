/- The clock's order of two: Tick's function. -/
import Derived.Test.YtlhlbedbfjanhaaClE
import Derived.Test.YtlhlbedbfjanhaaJo2
namespace Go.Proofs.Ytlhlbedbfjanhaa
open Go.RowKit Go.Sort

set_option maxRecDepth 100000 in
theorem nan_int (n : Int) (w : World) : Calls Try.prog 26 #[.int .i64 n] w fun e w' => e = .returned (.bool false) ∧ w' = w := by
  go_enter Try.func26, Try.ntmps26
  go_wp2
  go_ret
  exact ⟨by simp, rfl⟩
set_option maxHeartbeats 4000000 in
set_option maxRecDepth 100000 in
theorem ccmp_int (a b : Int) (w : World) : Calls Try.prog 22 #[.int .i64 a, .int .i64 b] w fun e w' => e = .returned (.int .i64 (icmpI a b)) ∧ w' = w := by
  unfold icmpI
  by_cases h1 : a < b
  · rw [if_pos h1]
    go_enter Try.func22, Try.ntmps22
    go_wp2_with fail
    refine (nan_int _ _).mono ?_
    rintro e w2 ⟨rfl, rfl⟩
    go_wp2_with fail
    refine (nan_int _ _).mono ?_
    rintro e w3 ⟨rfl, rfl⟩
    go_wp2
    go_ret
    exact ⟨rfl, rfl⟩
  · rw [if_neg h1]
    by_cases h2 : b < a
    · rw [if_pos h2]
      go_enter Try.func22, Try.ntmps22
      go_wp2_with fail
      refine (nan_int _ _).mono ?_
      rintro e w2 ⟨rfl, rfl⟩
      go_wp2_with fail
      refine (nan_int _ _).mono ?_
      rintro e w3 ⟨rfl, rfl⟩
      go_wp2
      go_ret
      exact ⟨rfl, rfl⟩
    · rw [if_neg h2]
      go_enter Try.func22, Try.ntmps22
      go_wp2_with fail
      refine (nan_int _ _).mono ?_
      rintro e w2 ⟨rfl, rfl⟩
      go_wp2_with fail
      refine (nan_int _ _).mono ?_
      rintro e w3 ⟨rfl, rfl⟩
      go_wp2
      go_ret
      exact ⟨rfl, rfl⟩
set_option maxRecDepth 100000 in
theorem nan_i64 (n : Int) (w : World) : Calls Try.prog 27 #[.int .i64 n] w fun e w' => e = .returned (.bool false) ∧ w' = w := by
  go_enter Try.func27, Try.ntmps27
  go_wp2
  go_ret
  exact ⟨by simp, rfl⟩
set_option maxHeartbeats 4000000 in
set_option maxRecDepth 100000 in
theorem ccmp_i64 (a b : Int) (w : World) : Calls Try.prog 23 #[.int .i64 a, .int .i64 b] w fun e w' => e = .returned (.int .i64 (icmpI a b)) ∧ w' = w := by
  unfold icmpI
  by_cases h1 : a < b
  · rw [if_pos h1]
    go_enter Try.func23, Try.ntmps23
    go_wp2_with fail
    refine (nan_i64 _ _).mono ?_
    rintro e w2 ⟨rfl, rfl⟩
    go_wp2_with fail
    refine (nan_i64 _ _).mono ?_
    rintro e w3 ⟨rfl, rfl⟩
    go_wp2
    go_ret
    exact ⟨rfl, rfl⟩
  · rw [if_neg h1]
    by_cases h2 : b < a
    · rw [if_pos h2]
      go_enter Try.func23, Try.ntmps23
      go_wp2_with fail
      refine (nan_i64 _ _).mono ?_
      rintro e w2 ⟨rfl, rfl⟩
      go_wp2_with fail
      refine (nan_i64 _ _).mono ?_
      rintro e w3 ⟨rfl, rfl⟩
      go_wp2
      go_ret
      exact ⟨rfl, rfl⟩
    · rw [if_neg h2]
      go_enter Try.func23, Try.ntmps23
      go_wp2_with fail
      refine (nan_i64 _ _).mono ?_
      rintro e w2 ⟨rfl, rfl⟩
      go_wp2_with fail
      refine (nan_i64 _ _).mono ?_
      rintro e w3 ⟨rfl, rfl⟩
      go_wp2
      go_ret
      exact ⟨rfl, rfl⟩
set_option maxHeartbeats 4000000 in
set_option maxRecDepth 100000 in
theorem or_two (a b : Int) (B : Nat) (w : World) (h0 : w.cell? ⟨B, 0, none⟩ = some (.int .i64 a)) (h1 : w.cell? ⟨B, 1, none⟩ = some (.int .i64 b)) :
    Calls Try.prog 21 #[.slice (some ⟨B, 0, none⟩) 2 2] w fun e w' => e = .returned (.int .i64 (if a = 0 then b else a)) ∧ w' = w := by
  by_cases ha : a = 0
  · subst ha
    rw [if_pos rfl]
    by_cases hb : b = 0
    · subst hb
      go_enter Try.func21, Try.ntmps21
      go_wp2_with fail
      refine wp_loop_rounds 3 ?_
      rw [rounds_succ]
      go_wp2_with fail
      rw [rounds_succ]
      go_wp2_with fail
      rw [rounds_succ]
      go_wp2
      go_ret
      exact ⟨rfl, rfl⟩
    · go_enter Try.func21, Try.ntmps21
      go_wp2_with fail
      refine wp_loop_rounds 3 ?_
      rw [rounds_succ]
      go_wp2_with fail
      rw [rounds_succ]
      go_wp2
      go_ret
      exact ⟨rfl, rfl⟩
  · rw [if_neg ha]
    go_enter Try.func21, Try.ntmps21
    go_wp2_with fail
    refine wp_loop_rounds 3 ?_
    rw [rounds_succ]
    go_wp2
    go_ret
    exact ⟨rfl, rfl⟩

set_option maxHeartbeats 8000000 in
set_option maxRecDepth 100000 in
theorem tcmp_any (pb p mb : Nat) (c : Clk) (x y : Int) (w : World) (hp : w.cell? ⟨pb, 0, none⟩ = some (.pointer (some ⟨p, 0, none⟩))) (h1 : w.cell? ⟨p, 1, none⟩ = some (.map (some mb))) (hm : MapS i64V w mb (atF c)) :
    Calls Try.prog 20 #[.int .i64 x, .int .i64 y, .pointer (some ⟨pb, 0, none⟩)] w fun e w' => e = .returned (.int .i64 (cmpC c.at_ x y)) ∧ ∃ o, w' = w.drew.alloc o := by
  obtain ⟨tx, htx⟩ : ∃ t, (c.at_ x).getD 0 = t := ⟨_, rfl⟩
  obtain ⟨ty, hty⟩ : ∃ t, (c.at_ y).getD 0 = t := ⟨_, rfl⟩
  have hlkx : ∀ W, MapS i64V W mb (atF c) → (Instr.lookup 35 (.map (some mb)) (.int .i64 x) false).run Try.prog W = .ok (.int .i64 tx) W := fun W h => by
    have h := h.rep.lookup keyI64 Try.underlying35 (zeroInt W) x
    rw [atF_get, htx] at h
    exact h
  have hlky : ∀ W, MapS i64V W mb (atF c) → (Instr.lookup 35 (.map (some mb)) (.int .i64 y) false).run Try.prog W = .ok (.int .i64 ty) W := fun W h => by
    have h := h.rep.lookup keyI64 Try.underlying35 (zeroInt W) y
    rw [atF_get, hty] at h
    exact h
  have HC := Lib.hid (show cmpC c.at_ x y = if icmpI tx ty = 0 then icmpI x y else icmpI tx ty by unfold cmpC; rw [htx, hty])
  have HS := Lib.hid (And.intro (show w.drew.cell? ⟨pb, 0, none⟩ = some (.pointer (some ⟨p, 0, none⟩)) from hp) (And.intro (show w.drew.cell? ⟨p, 1, none⟩ = some (.map (some mb)) from h1) (hm.only (Only.drew NoneS w) (fun h => h))))
  clear hp h1 hm htx hty
  go_enter Try.func20, Try.ntmps20
  go_wp2_with fail
  refine AnyJ.begin (J := fun j => Nat.ble j 18) (S := fun W => W.cell? ⟨pb, 0, none⟩ = some (.pointer (some ⟨p, 0, none⟩)) ∧ W.cell? ⟨p, 1, none⟩ = some (.map (some mb)) ∧ MapS i64V W mb (atF c)) (by kernel_rfl) rfl rfl ?_
  refine AnyJ.takeL (i := 0) (v := .pointer (some ⟨p, 0, none⟩)) rfl rfl (by kernel_rfl) (by kernel_rfl) (by kernel_rfl) (by kernel_rfl) (fun _ _ _ h => h) (by rfl) ?_ HS.out ?_
  · intro W hW
    obtain ⟨s1, s2, s3⟩ := hW
    go_simp
    try (with_reducible rfl)
  simp only [Act.put, List.setIfInBounds_toArray, List.set_cons_zero, List.set_cons_succ]
  refine AnyJ.takeL (i := 1) (v := .pointer (some ⟨p, 0, none⟩)) rfl rfl (by kernel_rfl) (by kernel_rfl) (by kernel_rfl) (by kernel_rfl) (fun _ _ _ h => h) (by rfl) ?_ HS.out ?_
  · intro W hW
    obtain ⟨s1, s2, s3⟩ := hW
    go_simp
    try (with_reducible rfl)
  simp only [Act.put, List.setIfInBounds_toArray, List.set_cons_zero, List.set_cons_succ]
  refine AnyJ.takeL (i := 2) (v := .pointer (some ⟨p, 1, none⟩)) rfl rfl (by kernel_rfl) (by kernel_rfl) (by kernel_rfl) (by kernel_rfl) (fun _ _ _ h => h) (by rfl) ?_ HS.out ?_
  · intro W hW
    obtain ⟨s1, s2, s3⟩ := hW
    go_simp
    try (with_reducible rfl)
  simp only [Act.put, List.setIfInBounds_toArray, List.set_cons_zero, List.set_cons_succ]
  refine AnyJ.takeL (i := 3) (v := .map (some mb)) rfl rfl (by kernel_rfl) (by kernel_rfl) (by kernel_rfl) (by kernel_rfl) (fun _ _ _ h => h) (by rfl) ?_ HS.out ?_
  · intro W hW
    obtain ⟨s1, s2, s3⟩ := hW
    go_simp
    try (with_reducible rfl)
  simp only [Act.put, List.setIfInBounds_toArray, List.set_cons_zero, List.set_cons_succ]
  refine AnyJ.takeL (i := 4) (v := .int .i64 x) rfl rfl (by kernel_rfl) (by kernel_rfl) (by kernel_rfl) (by kernel_rfl) (fun _ _ _ h => h) (by rfl) ?_ HS.out ?_
  · intro W hW
    obtain ⟨s1, s2, s3⟩ := hW
    go_simp
    try (with_reducible rfl)
  simp only [Act.put, List.setIfInBounds_toArray, List.set_cons_zero, List.set_cons_succ]
  refine AnyJ.takeL (i := 5) (v := .int .i64 tx) rfl rfl (by kernel_rfl) (by kernel_rfl) (by kernel_rfl) (by kernel_rfl) (fun _ _ _ h => h) (by rfl) ?_ HS.out ?_
  · intro W hW
    obtain ⟨s1, s2, s3⟩ := hW
    have hlk := hlkx W s3
    go_simp
    try (with_reducible rfl)
  simp only [Act.put, List.setIfInBounds_toArray, List.set_cons_zero, List.set_cons_succ]
  refine AnyJ.takeL (i := 6) (v := .pointer (some ⟨p, 0, none⟩)) rfl rfl (by kernel_rfl) (by kernel_rfl) (by kernel_rfl) (by kernel_rfl) (fun _ _ _ h => h) (by rfl) ?_ HS.out ?_
  · intro W hW
    obtain ⟨s1, s2, s3⟩ := hW
    go_simp
    try (with_reducible rfl)
  simp only [Act.put, List.setIfInBounds_toArray, List.set_cons_zero, List.set_cons_succ]
  refine AnyJ.takeL (i := 7) (v := .pointer (some ⟨p, 0, none⟩)) rfl rfl (by kernel_rfl) (by kernel_rfl) (by kernel_rfl) (by kernel_rfl) (fun _ _ _ h => h) (by rfl) ?_ HS.out ?_
  · intro W hW
    obtain ⟨s1, s2, s3⟩ := hW
    go_simp
    try (with_reducible rfl)
  simp only [Act.put, List.setIfInBounds_toArray, List.set_cons_zero, List.set_cons_succ]
  refine AnyJ.takeL (i := 8) (v := .pointer (some ⟨p, 1, none⟩)) rfl rfl (by kernel_rfl) (by kernel_rfl) (by kernel_rfl) (by kernel_rfl) (fun _ _ _ h => h) (by rfl) ?_ HS.out ?_
  · intro W hW
    obtain ⟨s1, s2, s3⟩ := hW
    go_simp
    try (with_reducible rfl)
  simp only [Act.put, List.setIfInBounds_toArray, List.set_cons_zero, List.set_cons_succ]
  refine AnyJ.takeL (i := 9) (v := .map (some mb)) rfl rfl (by kernel_rfl) (by kernel_rfl) (by kernel_rfl) (by kernel_rfl) (fun _ _ _ h => h) (by rfl) ?_ HS.out ?_
  · intro W hW
    obtain ⟨s1, s2, s3⟩ := hW
    go_simp
    try (with_reducible rfl)
  simp only [Act.put, List.setIfInBounds_toArray, List.set_cons_zero, List.set_cons_succ]
  refine AnyJ.takeL (i := 10) (v := .int .i64 y) rfl rfl (by kernel_rfl) (by kernel_rfl) (by kernel_rfl) (by kernel_rfl) (fun _ _ _ h => h) (by rfl) ?_ HS.out ?_
  · intro W hW
    obtain ⟨s1, s2, s3⟩ := hW
    go_simp
    try (with_reducible rfl)
  simp only [Act.put, List.setIfInBounds_toArray, List.set_cons_zero, List.set_cons_succ]
  refine AnyJ.takeL (i := 11) (v := .int .i64 ty) rfl rfl (by kernel_rfl) (by kernel_rfl) (by kernel_rfl) (by kernel_rfl) (fun _ _ _ h => h) (by rfl) ?_ HS.out ?_
  · intro W hW
    obtain ⟨s1, s2, s3⟩ := hW
    have hlk := hlky W s3
    go_simp
    try (with_reducible rfl)
  simp only [Act.put, List.setIfInBounds_toArray, List.set_cons_zero, List.set_cons_succ]
  refine AnyJ.takeL (i := 13) (v := .int .i64 x) rfl rfl (by kernel_rfl) (by kernel_rfl) (by kernel_rfl) (by kernel_rfl) (fun _ _ _ h => h) (by rfl) ?_ HS.out ?_
  · intro W hW
    obtain ⟨s1, s2, s3⟩ := hW
    go_simp
    try (with_reducible rfl)
  simp only [Act.put, List.setIfInBounds_toArray, List.set_cons_zero, List.set_cons_succ]
  refine AnyJ.takeL (i := 14) (v := .int .i64 y) rfl rfl (by kernel_rfl) (by kernel_rfl) (by kernel_rfl) (by kernel_rfl) (fun _ _ _ h => h) (by rfl) ?_ HS.out ?_
  · intro W hW
    obtain ⟨s1, s2, s3⟩ := hW
    go_simp
    try (with_reducible rfl)
  simp only [Act.put, List.setIfInBounds_toArray, List.set_cons_zero, List.set_cons_succ]
  refine AnyJ.oneL (i := 12) (by kernel_rfl) rfl (fun K hK => ?_)
  go_simp
  go_at_call 22
  refine (ccmp_int tx ty _).mono ?_
  rintro e w4 ⟨rfl, rfl⟩
  refine hK.out _ _ (fun _ => HS.out) ?_
  clear hK K
  (try simp only [Act.put, List.setIfInBounds_toArray, List.set_cons_zero, List.set_cons_succ])
  refine AnyJ.oneL (i := 15) (by kernel_rfl) rfl (fun K hK => ?_)
  go_simp
  go_at_call 23
  refine (ccmp_i64 x y _).mono ?_
  rintro e w5 ⟨rfl, rfl⟩
  refine hK.out _ _ (fun _ => HS.out) ?_
  clear hK K
  (try simp only [Act.put, List.setIfInBounds_toArray, List.set_cons_zero, List.set_cons_succ])
  obtain ⟨a, ha⟩ : ∃ a, icmpI tx ty = a := ⟨_, rfl⟩
  obtain ⟨b, hb⟩ : ∃ b, icmpI x y = b := ⟨_, rfl⟩
  rw [ha, hb] at HC
  rw [ha, hb]
  clear ha hb
  have HS2 := Lib.hid (fun (o : Obj) => (show (w.drew.alloc o).cell? ⟨pb, 0, none⟩ = some (.pointer (some ⟨p, 0, none⟩)) ∧ (w.drew.alloc o).cell? ⟨p, 1, none⟩ = some (.map (some mb)) ∧ MapS i64V (w.drew.alloc o) mb (atF c) from
    ⟨(Only.alloc NoneS w.drew o).cell (fun h => h) HS.out.1, (Only.alloc NoneS w.drew o).cell (fun h => h) HS.out.2.1, HS.out.2.2.only (Only.alloc NoneS w.drew o) (fun h => h)⟩))
  refine AnyJ.oneL (i := 16) (by kernel_rfl) rfl (fun K hK => ?_)
  go_simp
  refine hK.out _ _ (fun _ => HS2.out _) ?_
  clear hK K
  (try simp only [Act.put, List.setIfInBounds_toArray, List.set_cons_zero, List.set_cons_succ])
  refine AnyJ.oneL (i := 17) (by kernel_rfl) rfl (fun K hK => ?_)
  go_simp
  go_at_call 21
  refine (or_two a b _ _ (by simp) (by simp)).mono ?_
  rintro e w6 ⟨rfl, rfl⟩
  obtain ⟨z, hz⟩ : ∃ z, (if a = 0 then b else a) = z := ⟨_, rfl⟩
  rw [hz] at HC
  rw [hz]
  clear hz
  refine hK.out _ _ (fun _ => HS2.out _) ?_
  clear hK K
  (try simp only [Act.put, List.setIfInBounds_toArray, List.set_cons_zero, List.set_cons_succ])
  refine AnyJ.oneL (i := 18) (by kernel_rfl) rfl (fun K hK => ?_)
  go_simp
  refine hK.out _ _ (fun _ => HS2.out _) ?_
  clear hK K
  (try simp only [Act.put, List.setIfInBounds_toArray, List.set_cons_zero, List.set_cons_succ])
  refine AnyJ.done (by kernel_rfl) ?_
  go_wp2
  go_ret
  exact ⟨by rw [HC.out]; try rfl, _, rfl⟩
end Go.Proofs.Ytlhlbedbfjanhaa
