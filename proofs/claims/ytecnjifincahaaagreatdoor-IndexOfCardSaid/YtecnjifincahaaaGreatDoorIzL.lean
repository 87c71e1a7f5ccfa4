/- slices.Delete at records; heap.Delete. -/
import Derived.Test.YtecnjifincahaaaGreatDoorIzJ
namespace Go.Proofs.YtecnjifincahaaaGreatDoor
open Go.Shelf Go.RowKit Go.Lib

theorem docsC_one {l : List DocT} (h : ∀ t ∈ l, ∃ q0 q1 q2 q3 q4 q5 q6 q7 q8, t.c = [.int .i64 q0, .int .i64 q1, .string q2, .slice q3 q4 q5, .slice q6 q7 q8]) : ∀ u ∈ docsC l, u.oneCell' = true := by
  induction l with
  | nil => intro u hu; simp [docsC] at hu
  | cons t l ih =>
    intro u hu
    rw [docsC] at hu
    rcases List.mem_append.1 hu with hu | hu
    · obtain ⟨q0, q1, q2, q3, q4, q5, q6, q7, q8, hc⟩ := h t (List.mem_cons_self ..)
      rw [hc] at hu
      simp at hu
      rcases hu with rfl | rfl | rfl | rfl | rfl | rfl <;> rfl
    · exact ih (fun x hx => h x (List.mem_cons_of_mem _ hx)) u hu
theorem zeroDoc (w : World) : (zeroValue 90).run Tryz.prog w = .ok (.agg #[.int .i64 0, .int .i64 0, .int .i64 0, .string ⟨#[]⟩, .slice none 0 0, .slice none 0 0]) w := by kernel_rfl
set_option maxHeartbeats 8000000 in
set_option maxRecDepth 100000 in
theorem delete_docs (g cap : Nat) (A C : List DocT) (x : DocT) (w : World) (hv : w.ownsRow 0 90 6 (.slice (some ⟨g, 0, none⟩) (A ++ x :: C).length cap) (A ++ x :: C).length (docsC (A ++ x :: C)))
    (h5 : ∀ t ∈ A ++ x :: C, ∃ q0 q1 q2 q3 q4 q5 q6 q7 q8, t.c = [.int .i64 q0, .int .i64 q1, .string q2, .slice q3 q4 q5, .slice q6 q7 q8]) (hlen : (A ++ x :: C).length ≤ 1000) :
    Calls Tryz.prog 51 #[.slice (some ⟨g, 0, none⟩) (A ++ x :: C).length cap, .int .i64 (A.length : Int), .int .i64 ((A.length : Int) + 1)] w fun e w' => e = .returned (.slice (some ⟨g, 0, none⟩) (A ++ C).length cap) ∧ w'.ownsRow 0 90 6 (.slice (some ⟨g, 0, none⟩) (A ++ C).length cap) (A ++ C).length (docsC (A ++ C)) ∧ Only (fun b => b = g) w w' := by
  obtain ⟨rest, hB, _, hcl, hcap, hmax⟩ := blk_of_ownsRow hv
  have hmax' : cap ≤ 9223372036854775807 := by unfold maxLen at hmax; omega
  obtain ⟨i0, hi, hii⟩ := Option.map_eq_some_iff.1 infoDoc
  simp only [Prod.mk.injEq] at hii
  obtain ⟨hz0, hz1, hz2⟩ := hii
  have hc5 : ∀ t ∈ A ++ x :: C, t.c.length = 5 := fun t ht => by obtain ⟨_, _, _, _, _, _, _, _, _, hc⟩ := h5 t ht; rw [hc]; rfl
  have hla : (docsC A).length = A.length * 6 := docsC_len A (fun t ht => hc5 t (List.mem_append_left _ ht))
  have hlc : (docsC C).length = C.length * 6 := docsC_len C (fun t ht => hc5 t (List.mem_append_right _ (List.mem_cons_of_mem _ ht)))
  have hlx : (docsC [x]).length = 6 := by rw [docsC_len [x] (fun t ht => hc5 t (by rw [List.mem_singleton] at ht; rw [ht]; simp))]; rfl
  have hsplit : docsC (A ++ x :: C) = docsC A ++ (docsC [x] ++ docsC C) := by rw [docsC_append, show x :: C = [x] ++ C from rfl, docsC_append]
  have hn : (A ++ x :: C).length = A.length + 1 + C.length := by rw [List.length_append, List.length_cons]; omega
  have hac : (A ++ C).length = A.length + C.length := List.length_append
  have hdac : docsC (A ++ C) = docsC A ++ docsC C := docsC_append A C
  have hone : ∀ u ∈ docsC C, u.oneCell' = true := docsC_one (fun t ht => h5 t (List.mem_append_right _ (List.mem_cons_of_mem _ ht)))
  rw [hn] at hcap hlen ⊢
  rw [hac, hdac]
  rw [hsplit] at hB hcl
  obtain ⟨dA, hdA⟩ : ∃ l, docsC A = l := ⟨_, rfl⟩
  obtain ⟨dC, hdC⟩ : ∃ l, docsC C = l := ⟨_, rfl⟩
  obtain ⟨dx, hdx⟩ : ∃ l, docsC [x] = l := ⟨_, rfl⟩
  obtain ⟨j, hj⟩ : ∃ j, A.length = j := ⟨_, rfl⟩
  obtain ⟨m, hm⟩ : ∃ j, C.length = j := ⟨_, rfl⟩
  rw [hdA, hj] at hla
  rw [hdC, hm] at hlc
  rw [hdx] at hlx
  rw [hdC] at hone
  rw [hdA, hdC, hdx] at hB hcl
  rw [hj, hm] at hcap hlen ⊢
  rw [hdA, hdC]
  have hcl2 : dA.length + (6 + dC.length) + rest.length = cap * 6 := by simp only [List.length_append] at hcl; omega
  have hap : ∀ (a : Addr) (c : Nat), (∀ k u, dC[k]? = some u → w.drew.cell? (a.add k) = some u) → ∀ ty, (Builtin.append_ #[95, 95] ty #[.slice (some ⟨g, 0, none⟩) j cap, .slice (some a) m c]).run Tryz.prog w.drew =
      .ok (.slice (some ⟨g, 0, none⟩) (j + m) cap) (w.drew.setRow g (dA ++ dC ++ (dA ++ (dx ++ dC) ++ rest).drop (j * 6 + m * 6)).toArray) := by
    intro a c hc ty
    have := run_append_room (P := Tryz.prog) w.drew 95 ty 90 i0 Tryz.underlying95 hi g j cap _ hB a m c dC (by rw [hz1]; exact hlc) hc hone (by omega) (by rw [hz1]; simp only [List.size_toArray, List.length_append]; omega)
    rw [this, hz1, hlc]
    rw [show ((dA ++ (dx ++ dC) ++ rest).toArray.toList.take (j * 6)) = dA by
      rw [← hla]; simp]
  have hBd : Blk (w.drew.setRow g (dA ++ dC ++ (dA ++ (dx ++ dC) ++ rest).drop (j * 6 + m * 6)).toArray) g 90 (dA ++ dC ++ (dA ++ (dx ++ dC) ++ rest).drop (j * 6 + m * 6)) := setRow_heap w.drew g _ _ _ _ hB
  generalize hW : w.drew.setRow g (dA ++ dC ++ (dA ++ (dx ++ dC) ++ rest).drop (j * 6 + m * 6)).toArray = W at hap hBd
  have HW := Lib.hid hW
  clear hW
  have hdl : (dA ++ dC).length = (j + m) * 6 := by rw [List.length_append]; omega
  have htot : (dA ++ dC ++ (dA ++ (dx ++ dC) ++ rest).drop (j * 6 + m * 6)).length = cap * 6 := by simp only [List.length_append, List.length_drop]; omega
  obtain ⟨w4, ys, hrun, hB4, hl4, ho4⟩ := run_clear_row (P := Tryz.prog) (t := 95) (e := 90) (ty := 0) (z := .agg #[.int .i64 0, .int .i64 0, .int .i64 0, .string ⟨#[]⟩, .slice none 0 0, .slice none 0 0]) Tryz.underlying95 zeroDoc (by simp [Value.cells]; decide) (by decide) (n := 1) (c := cap - (j + m)) hBd (o := (j + m) * 6) (by rw [htot]; simp [Value.cells]; omega)
  have hfin : w4.ownsRow 0 90 6 (.slice (some ⟨g, 0, none⟩) (j + m) cap) (j + m) (dA ++ dC) := by
    rw [List.take_left' hdl] at hB4 hl4
    exact ownsRow_of_blk hB4 hdl (by rw [hl4, htot]) (by omega) hmax
  have hoo : Only (fun b => b = g) w w4 := by
    have h1 : Only (fun b => b = g) w W := by
      rw [← HW.out]
      exact ⟨rfl, rfl, rfl, by simp [World.setRow], fun k hk hne => by simp only [World.setRow, Array.getElem?_modify]; rw [if_neg (fun e => hne e.symm)]; rfl⟩
    exact h1.trans ho4
  have HF := Lib.hid (And.intro hfin hoo)
  have hcC : ∀ k u, dC[k]? = some u → w.drew.cell? ⟨g, (j + 1) * 6 + k, none⟩ = some u := fun k u hk => by
    show w.cell? _ = _
    rw [hB.cell, List.getElem?_append_left (by have := (List.getElem?_eq_some_iff.1 hk).1; simp only [List.length_append]; omega), List.getElem?_append_right (by omega), List.getElem?_append_right (by omega), hla, hlx, show (j + 1) * 6 + k - j * 6 - 6 = k by omega]
    exact hk
  have hjz0 : (0 : Int) ≤ (j : Int) := by omega
  have hjz1 : (j : Int) ≤ (j : Int) + 1 := by omega
  have hjn : (j : Int) + 1 ≤ ((j + 1 + m : Nat) : Int) := by omega
  have hjn2 : (j : Int) ≤ ((j + 1 + m : Nat) : Int) := by omega
  have hjc : (j : Int) ≤ (cap : Int) := by omega
  have hnc : ((j + 1 + m : Nat) : Int) ≤ (cap : Int) := by omega
  have htn : ((j : Int) + 1).toNat = j + 1 := by omega
  have hz00 : (0 : Int) ≤ (j : Int) + 1 := by omega
  have hne : ¬ (j : Int) = (j : Int) + 1 := by omega
  have hneb : ((j : Int) == (j : Int) + 1) = false := by rw [beq_eq_false_iff_ne]; exact hne
  obtain ⟨n, hnn⟩ : ∃ n, j + 1 + m = n := ⟨_, rfl⟩
  rw [hnn] at hjn hjn2 hnc ⊢
  have hjm : (j + m : Nat) ≤ n := by omega
  have hjm2 : ((j + m : Nat) : Int) ≤ (n : Int) := by omega
  have hjm3 : (0 : Int) ≤ ((j + m : Nat) : Int) := by omega
  have hsub : n - (j + 1) = m := by omega
  have hsub2 : n - (j + m) = 1 := by omega
  have hjn3 : j + 1 ≤ n := by omega
  have hjn4 : n ≤ cap := by omega
  have hcjm : ¬ cap = j + m := by omega
  have HLC := Lib.hid hlc
  clear hB hcl hcl2 hBd hB4 hl4 hv hfin hoo hdl htot hi hz0 hz1 hz2 hsplit hn hac hdac h5 hc5 hla hlc hlx hdA hdx hj hm ho4 hone
  by_cases hc1 : cap = j + 1
  · have hm0 : m = 0 := by omega
    have hdc0 : dC = [] := List.eq_nil_of_length_eq_zero (by have := HLC.out; omega)
    clear hm0
    have hap' := hap ⟨g, 0, none⟩ (cap - (j + 1)) (by
      intro k u hk
      rw [hdc0] at hk
      simp at hk)
    have HA := Lib.hid hap'
    clear hap hap'
    go_enter Tryz.func51, Tryz.ntmps51
    go_wp2_with fail
    refine AnyP.begin (J := fun j => false) (S := fun _ => True) (by kernel_rfl) rfl rfl ?_
    refine AnyP.takeP (i := 0) (v := .slice (some ⟨g, 0, none⟩) n cap) rfl rfl (by kernel_rfl) (by kernel_rfl) (by kernel_rfl) (fun _ _ _ h => h) (by rfl) ?_ ?_
    · intro W
      go_simp
      try (with_reducible rfl)
    simp only [Act.put, List.setIfInBounds_toArray, List.set_cons_zero, List.set_cons_succ]
    refine AnyP.takeP (i := 1) (v := .int .i64 (j : Int)) rfl rfl (by kernel_rfl) (by kernel_rfl) (by kernel_rfl) (fun _ _ _ h => h) (by rfl) ?_ ?_
    · intro W
      go_simp
      try (with_reducible rfl)
    simp only [Act.put, List.setIfInBounds_toArray, List.set_cons_zero, List.set_cons_succ]
    refine AnyP.takeP (i := 3) (v := .slice (some ⟨g, 0, none⟩) n cap) rfl rfl (by kernel_rfl) (by kernel_rfl) (by kernel_rfl) (fun _ _ _ h => h) (by rfl) ?_ ?_
    · intro W
      go_simp
      try (with_reducible rfl)
    simp only [Act.put, List.setIfInBounds_toArray, List.set_cons_zero, List.set_cons_succ]
    refine AnyP.takeP (i := 4) (v := .int .i64 ((j : Int) + 1)) rfl rfl (by kernel_rfl) (by kernel_rfl) (by kernel_rfl) (fun _ _ _ h => h) (by rfl) ?_ ?_
    · intro W
      go_simp
      try (with_reducible rfl)
    simp only [Act.put, List.setIfInBounds_toArray, List.set_cons_zero, List.set_cons_succ]
    refine AnyP.takeP (i := 2) (v := .slice (some ⟨g, 0, none⟩) j cap) rfl rfl (by kernel_rfl) (by kernel_rfl) (by kernel_rfl) (fun _ _ _ h => h) (by rfl) ?_ ?_
    · intro W
      go_simp
      try (with_reducible rfl)
    simp only [Act.put, List.setIfInBounds_toArray, List.set_cons_zero, List.set_cons_succ]
    refine AnyP.takeP (i := 5) (v := .slice (some ⟨g, 0, none⟩) m (cap - (j + 1))) rfl rfl (by kernel_rfl) (by kernel_rfl) (by kernel_rfl) (fun _ _ _ h => h) (by rfl) ?_ ?_
    · intro W
      go_simp
      try (with_reducible rfl)
    simp only [Act.put, List.setIfInBounds_toArray, List.set_cons_zero, List.set_cons_succ]
    refine AnyP.oneL (i := 6) (by kernel_rfl) rfl (fun K hK => ?_)
    refine step_append_run rfl (.tmp 22) (.tmp 25) 95 rfl (.slice (some ⟨g, 0, none⟩) j cap) (.slice (some ⟨g, 0, none⟩) m (cap - (j + 1))) rfl rfl (.slice (some ⟨g, 0, none⟩) (j + m) cap) W HA.out ?_
    refine hK.out _ _ (fun h => by cases h) ?_
    clear hK K
    (try simp only [Act.put, List.setIfInBounds_toArray, List.set_cons_zero, List.set_cons_succ])
    refine AnyP.takeP (i := 7) (v := .slice (some ⟨g, 0, none⟩) (j + m) cap) rfl rfl (by kernel_rfl) (by kernel_rfl) (by kernel_rfl) (fun _ _ _ h => h) (by rfl) ?_ ?_
    · intro W
      go_simp
      try (with_reducible rfl)
    simp only [Act.put, List.setIfInBounds_toArray, List.set_cons_zero]
    refine AnyP.done (by kernel_rfl) ?_
    clear hc1
    go_wp2
    go_ret
    exact ⟨rfl, HF.out.1, HF.out.2⟩
  · have hc2 : ¬ cap = j + 1 := hc1
    have hap' := hap ⟨g, (j + 1) * 6, none⟩ (cap - (j + 1)) (by
      intro k u hk
      rw [Addr.add_lit]
      exact hcC k u hk)
    have HA := Lib.hid hap'
    clear hap hap'
    go_enter Tryz.func51, Tryz.ntmps51
    go_wp2_with fail
    refine AnyP.begin (J := fun j => false) (S := fun _ => True) (by kernel_rfl) rfl rfl ?_
    refine AnyP.takeP (i := 0) (v := .slice (some ⟨g, 0, none⟩) n cap) rfl rfl (by kernel_rfl) (by kernel_rfl) (by kernel_rfl) (fun _ _ _ h => h) (by rfl) ?_ ?_
    · intro W
      go_simp
      try (with_reducible rfl)
    simp only [Act.put, List.setIfInBounds_toArray, List.set_cons_zero, List.set_cons_succ]
    refine AnyP.takeP (i := 1) (v := .int .i64 (j : Int)) rfl rfl (by kernel_rfl) (by kernel_rfl) (by kernel_rfl) (fun _ _ _ h => h) (by rfl) ?_ ?_
    · intro W
      go_simp
      try (with_reducible rfl)
    simp only [Act.put, List.setIfInBounds_toArray, List.set_cons_zero, List.set_cons_succ]
    refine AnyP.takeP (i := 3) (v := .slice (some ⟨g, 0, none⟩) n cap) rfl rfl (by kernel_rfl) (by kernel_rfl) (by kernel_rfl) (fun _ _ _ h => h) (by rfl) ?_ ?_
    · intro W
      go_simp
      try (with_reducible rfl)
    simp only [Act.put, List.setIfInBounds_toArray, List.set_cons_zero, List.set_cons_succ]
    refine AnyP.takeP (i := 4) (v := .int .i64 ((j : Int) + 1)) rfl rfl (by kernel_rfl) (by kernel_rfl) (by kernel_rfl) (fun _ _ _ h => h) (by rfl) ?_ ?_
    · intro W
      go_simp
      try (with_reducible rfl)
    simp only [Act.put, List.setIfInBounds_toArray, List.set_cons_zero, List.set_cons_succ]
    refine AnyP.takeP (i := 2) (v := .slice (some ⟨g, 0, none⟩) j cap) rfl rfl (by kernel_rfl) (by kernel_rfl) (by kernel_rfl) (fun _ _ _ h => h) (by rfl) ?_ ?_
    · intro W
      go_simp
      try (with_reducible rfl)
    simp only [Act.put, List.setIfInBounds_toArray, List.set_cons_zero, List.set_cons_succ]
    refine AnyP.takeP (i := 5) (v := .slice (some ⟨g, (j + 1) * 6, none⟩) m (cap - (j + 1))) rfl rfl (by kernel_rfl) (by kernel_rfl) (by kernel_rfl) (fun _ _ _ h => h) (by rfl) ?_ ?_
    · intro W
      go_simp
      try (with_reducible rfl)
    simp only [Act.put, List.setIfInBounds_toArray, List.set_cons_zero, List.set_cons_succ]
    refine AnyP.oneL (i := 6) (by kernel_rfl) rfl (fun K hK => ?_)
    refine step_append_run rfl (.tmp 22) (.tmp 25) 95 rfl (.slice (some ⟨g, 0, none⟩) j cap) (.slice (some ⟨g, (j + 1) * 6, none⟩) m (cap - (j + 1))) rfl rfl (.slice (some ⟨g, 0, none⟩) (j + m) cap) W HA.out ?_
    refine hK.out _ _ (fun h => by cases h) ?_
    clear hK K
    (try simp only [Act.put, List.setIfInBounds_toArray, List.set_cons_zero, List.set_cons_succ])
    refine AnyP.takeP (i := 7) (v := .slice (some ⟨g, 0, none⟩) (j + m) cap) rfl rfl (by kernel_rfl) (by kernel_rfl) (by kernel_rfl) (fun _ _ _ h => h) (by rfl) ?_ ?_
    · intro W
      go_simp
      try (with_reducible rfl)
    simp only [Act.put, List.setIfInBounds_toArray, List.set_cons_zero]
    refine AnyP.done (by kernel_rfl) ?_
    go_wp2
    go_ret
    exact ⟨rfl, HF.out.1, HF.out.2⟩
end Go.Proofs.YtecnjifincahaaaGreatDoor
