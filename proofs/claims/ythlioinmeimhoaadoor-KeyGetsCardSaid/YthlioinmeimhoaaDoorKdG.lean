/- KeyGets: the law's walk. -/
import Derived.Test.YthlioinmeimhoaaDoorKdF
import Derived.Test.YthlioinmeimhoaaDoorKdX
namespace Go.Proofs.YthlioinmeimhoaaDoor
open Go.Shelf Go.RowKit Go.Lib

set_option maxHeartbeats 16000000 in
set_option maxRecDepth 100000 in
theorem kgets_own (s : ByteArray) (nb : Nat) (w : World) (sv : Value) (l : BL) (a c : Nat) (ha : a < 65536) (hc : c < 256) (hnb : nb ≤ w.heap.size) (h : BRead nb w sv l) (hT : Tabs w) (hM : ML w) (hW : Words w) :
    Calls Tryd.prog 6 #[.string s, .bool true, sv, .int .u16 a, .int .u8 c] w fun e w' => e = .returned (.bool true) ∧ Below w.heap.size w w' := by
  have H := Lib.hid (And.intro hnb (And.intro h (And.intro hT (And.intro hM (And.intro hW (And.intro ha hc))))))
  clear hnb h hT hM hW ha hc
  go_enter Tryd.func6, Tryd.ntmps6
  go_wp2_with fail
  refine (kawake_any _ H.out.2.2.1).mono ?_
  rintro e w1 ⟨rfl, hb1⟩
  have H1 := Lib.hid hb1
  clear hb1
  go_wp2_with fail
  refine (of_any nb w1 sv l (Nat.le_trans H.out.1 H1.out.size) (H.out.2.1.later (H1.out.mono H.out.1)) (H.out.2.2.2.2.1.later H1.out)).mono ?_
  rintro e w2 ⟨x0, rfl, hx, hb2⟩
  have H2 := Lib.hid (And.intro hx (H1.out.trans (hb2.mono H1.out.size)))
  have hokl := hx.ok
  clear hb2 hx
  go_wp2_with fail
  refine (show Calls _ _ _ _ _ from lput_v (ofL l) _ _ _ H2.out.1 (ML.later H.out.2.2.2.1 H2.out.2) (by have := keyL_of l; omega)).mono ?_
  rintro e w3 ⟨rfl, hb3⟩
  have H3 := Lib.hid (H2.out.2.trans (hb3.mono H2.out.2.size))
  clear hb3
  obtain ⟨K, hK⟩ : ∃ K, BA (keyL (ofL l)) = K := ⟨_, rfl⟩
  have hKs : K.size ≤ 5000 := by rw [← hK, ba_size]; exact keyL_of l
  rw [hK]
  have HK := Lib.hid (And.intro hK hokl)
  clear hK hokl
  go_wp2_with fail
  refine (bend_any K a c _ (by omega) H.out.2.2.2.2.2.1 H.out.2.2.2.2.2.2).mono ?_
  rintro e w4 ⟨⟨Z, rfl, hZs⟩, hb4⟩
  have H4 := Lib.hid (H3.out.trans (hb4.mono H3.out.size))
  clear hb4 hZs
  obtain ⟨X, hX⟩ : ∃ X, Z.extract 0 (min (Z.size : Int) 400).toNat = X := ⟨_, rfl⟩
  have hXs : X.size ≤ 400 := by rw [← hX]; exact cut4_size Z
  obtain ⟨x, hx⟩ : ∃ x : BL, BA x = X := ⟨X.data.toList, ba_list X⟩
  have hxl : x.length ≤ 400 := by rw [← ba_size, hx]; exact hXs
  have HC := Lib.hid (And.intro hX hxl)
  cases hg : getL x with
  | none =>
    have hG := fun (W : World) (hT : Tabs W) => kget_none x W hT (by omega) hg
    rw [hx] at hG
    have HG := Lib.hid hG
    have hXK : (X.toList == K.toList) = false := by
      rw [beq_eq_false_iff_ne]
      intro e
      have e2 : x = keyL (ofL l) := by
        apply ba_inj
        rw [hx, HK.out.1]
        rw [Lib.toList_data, Lib.toList_data] at e
        exact ByteArray.ext (Array.toList_inj.mp e)
      rw [e2, getL_of l HK.out.2] at hg
      cases hg
    clear hG hg hx hxl
    go_wp2_with fail
    refine (HG.out _ (H.out.2.2.1.below H4.out)).mono ?_
    rintro e w6 ⟨rfl, hb6⟩
    have H6 := Lib.hid (H4.out.trans (hb6.mono H4.out.size))
    clear hb6
    go_wp2_with fail
    obtain ⟨W6, hW6⟩ : ∃ W, w6.alloc (.cells #[.int .i64 0, .int .i64 0, .string ⟨#[]⟩, .slice none 0 0, .slice none 0 0] 28) = W := ⟨_, rfl⟩
    have H7 := Lib.hid (show Below w.heap.size w W6 by rw [← hW6]; exact H6.out.alloc H6.out.size _)
    (try rw [hW6])
    clear hW6
    refine (show Calls _ _ _ _ _ from vsame_any V.null V.null (fun _ => True) (fun _ => True) _ _ _ VAt.null VAt.null).mono ?_
    rintro e w8 ⟨rfl, hb8⟩
    rw [show (cmpO V.null V.null == .eq) = true by rw [cmpO]; rfl]
    have H8 := Lib.hid (H7.out.trans (hb8.mono H7.out.size))
    clear hb8
    go_wp2
    go_ret
    exact ⟨rfl, H8.out⟩
  | some v =>
    obtain ⟨hxk, hov, hvv⟩ := getL_key hg
    have hG := fun (W : World) (hT : Tabs W) => kget_some x v W hT (by omega) hg
    rw [hx] at hG
    have HG := Lib.hid hG
    have hkv : BA (keyL v) = X := by rw [← hxk]; exact hx
    have hkl : (keyL v).length ≤ 400 := by rw [← hxk]; exact hxl
    have HV := Lib.hid (And.intro hkv (And.intro hkl (And.intro hov hvv)))
    clear hG hg hx hxk hov hvv hkv hkl hxl
    go_wp2_with fail
    refine (HG.out _ (H.out.2.2.1.below H4.out)).mono ?_
    rintro e w6 ⟨y, rfl, hy, hb6⟩
    obtain ⟨r0, r1, r2, r3, r4, r5, r6, r7, r8, rfl⟩ := hy.shape
    obtain ⟨P, hP⟩ : ∃ P, w6.heap.size = P := ⟨_, rfl⟩
    obtain ⟨W7, hW7⟩ : ∃ W, w6.alloc (.cells #[.int .i64 r0, .int .i64 r1, .string r2, .slice r3 r4 r5, .slice r6 r7 r8] 28) = W := ⟨_, rfl⟩
    have hk7 : Blk W7 P 28 [.int .i64 r0, .int .i64 r1, .string r2, .slice r3 r4 r5, .slice r6 r7 r8] := by rw [← hW7, ← hP]; exact heap_alloc_new w6 _
    have hb7 : Below w6.heap.size w6 W7 := by rw [← hW7]; exact (Below.refl _ w6).alloc (Nat.le_refl _) _
    have hbw : Below w.heap.size w W7 := (H4.out.trans (hb6.mono H4.out.size)).trans (hb7.mono (Nat.le_trans H4.out.size hb6.size))
    have H7 := Lib.hid (And.intro (hy.later hb7) (And.intro hk7 (And.intro hbw (And.intro hP hW7))))
    have HVal := Lib.hid (fun (W : World) (hb : Below W7.heap.size W7 W) => show Calls Tryd.prog 23 #[.agg #[.int .i64 r0, .int .i64 r1, .string r2, .slice r3 r4 r5, .slice r6 r7 r8]] W (fun e w' => e = .returned (.bool true) ∧ Below W.heap.size W w') by
      have := vvalid_any v _ W _ ((hy.later hb7).later hb) ((H.out.2.2.1.below hbw).below hb) (by have := HV.out.2.1; omega)
      unfold ValidC at this
      rw [HV.out.2.2.2] at this
      exact this)
    have HPut := Lib.hid (fun (W : World) (hb : Below W7.heap.size W7 W) => show Calls Tryd.prog 17 #[.agg #[.int .i64 r0, .int .i64 r1, .string r2, .slice r3 r4 r5, .slice r6 r7 r8]] W (fun e w' => e = .returned (.string X) ∧ Below W.heap.size W w') by
      have := kput_v v _ W _ ((hy.later hb7).later hb) ((ML.later H.out.2.2.2.1 hbw).later hb) (by have := HV.out.2.1; omega)
      unfold PutC at this
      rw [HV.out.1] at this
      exact this)
    clear hb6 hy hk7 hb7 hbw hP hW7
    go_wp2_with fail
    (try rw [H7.out.2.2.2.2])
    (try rw [H7.out.2.2.2.1])
    by_cases he : X = K
    · subst he
      refine AnyJ.begin (J := fun j => Nat.ble j 19) (S := fun W => Blk W P 28 [.int .i64 r0, .int .i64 r1, .string r2, .slice r3 r4 r5, .slice r6 r7 r8]) (by kernel_rfl) rfl rfl ?_
      have HS := Lib.hid (show Blk W7.drew P 28 [.int .i64 r0, .int .i64 r1, .string r2, .slice r3 r4 r5, .slice r6 r7 r8] from H7.out.2.1)
      refine AnyJ.takeL (i := 0) (v := .agg #[.int .i64 r0, .int .i64 r1, .string r2, .slice r3 r4 r5, .slice r6 r7 r8]) rfl rfl (by kernel_rfl) (by kernel_rfl) (by kernel_rfl) (by kernel_rfl) (fun _ _ _ h => h) (by rfl) ?_ HS.out ?_
      · intro W hW
        have u0 := hW.cell 0
        have u1 := hW.cell 1
        have u2 := hW.cell 2
        have u3 := hW.cell 3
        have u4 := hW.cell 4
        go_simp
        try (with_reducible rfl)
      simp only [Act.put, List.setIfInBounds_toArray, List.set_cons_zero, List.set_cons_succ]
      refine AnyJ.oneL (i := 1) (by kernel_rfl) rfl (fun K0 hK => ?_)
      go_simp
      go_at_call 23
      refine (HVal.out _ (Below.refl _ _).drew).mono ?_
      rintro e w8 ⟨rfl, hb8⟩
      have H8 := Lib.hid (And.intro ((Below.refl W7.heap.size W7).drew.trans hb8) (HS.out.below hb8))
      refine hK.out _ _ (fun _ => H8.out.2) ?_
      clear hb8
      clear hK K0
      (try simp only [Act.put, List.setIfInBounds_toArray, List.set_cons_zero, List.set_cons_succ])
      refine AnyJ.takeL (i := 2) (v := .bool true) rfl rfl (by kernel_rfl) (by kernel_rfl) (by kernel_rfl) (by kernel_rfl) (fun _ _ _ h => h) (by rfl) ?_ H8.out.2 ?_
      · intro W hW
        go_simp
        try (with_reducible rfl)
      simp only [Act.put, List.setIfInBounds_toArray, List.set_cons_zero, List.set_cons_succ]
      refine AnyJ.takeL (i := 3) (v := .agg #[.int .i64 r0, .int .i64 r1, .string r2, .slice r3 r4 r5, .slice r6 r7 r8]) rfl rfl (by kernel_rfl) (by kernel_rfl) (by kernel_rfl) (by kernel_rfl) (fun _ _ _ h => h) (by rfl) ?_ H8.out.2 ?_
      · intro W hW
        have u0 := hW.cell 0
        have u1 := hW.cell 1
        have u2 := hW.cell 2
        have u3 := hW.cell 3
        have u4 := hW.cell 4
        go_simp
        try (with_reducible rfl)
      simp only [Act.put, List.setIfInBounds_toArray, List.set_cons_zero, List.set_cons_succ]
      refine AnyJ.takeL (i := 5) (v := .string X) rfl rfl (by kernel_rfl) (by kernel_rfl) (by kernel_rfl) (by kernel_rfl) (fun _ _ _ h => h) (by rfl) ?_ H8.out.2 ?_
      · intro W hW
        go_simp
        try (with_reducible rfl)
      simp only [Act.put, List.setIfInBounds_toArray, List.set_cons_zero, List.set_cons_succ]
      refine AnyJ.oneL (i := 4) (by kernel_rfl) rfl (fun K0 hK => ?_)
      go_simp
      go_at_call 17
      refine (HPut.out _ H8.out.1).mono ?_
      rintro e w9 ⟨rfl, hb9⟩
      have H9 := Lib.hid (And.intro (H8.out.1.trans (hb9.mono H8.out.1.size)) (H8.out.2.below hb9))
      refine hK.out _ _ (fun _ => H9.out.2) ?_
      clear hb9
      clear hK K0
      (try simp only [Act.put, List.setIfInBounds_toArray, List.set_cons_zero, List.set_cons_succ])
      refine AnyJ.takeL (i := 6) (v := .bool true) rfl rfl (by kernel_rfl) (by kernel_rfl) (by kernel_rfl) (by kernel_rfl) (fun _ _ _ h => h) (by rfl) ?_ H9.out.2 ?_
      · intro W hW
        go_simp
        try (with_reducible rfl)
      simp only [Act.put, List.setIfInBounds_toArray, List.set_cons_zero, List.set_cons_succ]
      refine AnyJ.takeL (i := 7) (v := .bool true) rfl rfl (by kernel_rfl) (by kernel_rfl) (by kernel_rfl) (by kernel_rfl) (fun _ _ _ h => h) (by rfl) ?_ H9.out.2 ?_
      · intro W hW
        go_simp
        try (with_reducible rfl)
      simp only [Act.put, List.setIfInBounds_toArray, List.set_cons_zero, List.set_cons_succ]
      refine AnyJ.takeL (i := 8) (v := .bool true) rfl rfl (by kernel_rfl) (by kernel_rfl) (by kernel_rfl) (by kernel_rfl) (fun _ _ _ h => h) (by rfl) ?_ H9.out.2 ?_
      · intro W hW
        go_simp
        try (with_reducible rfl)
      simp only [Act.put, List.setIfInBounds_toArray, List.set_cons_zero, List.set_cons_succ]
      refine AnyJ.takeL (i := 9) (v := .string X) rfl rfl (by kernel_rfl) (by kernel_rfl) (by kernel_rfl) (by kernel_rfl) (fun _ _ _ h => h) (by rfl) ?_ H9.out.2 ?_
      · intro W hW
        go_simp
        try (with_reducible rfl)
      simp only [Act.put, List.setIfInBounds_toArray, List.set_cons_zero, List.set_cons_succ]
      refine AnyJ.takeL (i := 10) (v := .string X) rfl rfl (by kernel_rfl) (by kernel_rfl) (by kernel_rfl) (by kernel_rfl) (fun _ _ _ h => h) (by rfl) ?_ H9.out.2 ?_
      · intro W hW
        go_simp
        try (with_reducible rfl)
      simp only [Act.put, List.setIfInBounds_toArray, List.set_cons_zero, List.set_cons_succ]
      refine AnyJ.takeL (i := 11) (v := .bool false) rfl rfl (by kernel_rfl) (by kernel_rfl) (by kernel_rfl) (by kernel_rfl) (fun _ _ _ h => h) (by rfl) ?_ H9.out.2 ?_
      · intro W hW
        go_simp
        try (with_reducible rfl)
      simp only [Act.put, List.setIfInBounds_toArray, List.set_cons_zero, List.set_cons_succ]
      refine AnyJ.takeL (i := 12) (v := .bool false) rfl rfl (by kernel_rfl) (by kernel_rfl) (by kernel_rfl) (by kernel_rfl) (fun _ _ _ h => h) (by rfl) ?_ H9.out.2 ?_
      · intro W hW
        go_simp
        try (with_reducible rfl)
      simp only [Act.put, List.setIfInBounds_toArray, List.set_cons_zero, List.set_cons_succ]
      refine AnyJ.takeL (i := 13) (v := .agg #[.int .i64 r0, .int .i64 r1, .string r2, .slice r3 r4 r5, .slice r6 r7 r8]) rfl rfl (by kernel_rfl) (by kernel_rfl) (by kernel_rfl) (by kernel_rfl) (fun _ _ _ h => h) (by rfl) ?_ H9.out.2 ?_
      · intro W hW
        have u0 := hW.cell 0
        have u1 := hW.cell 1
        have u2 := hW.cell 2
        have u3 := hW.cell 3
        have u4 := hW.cell 4
        go_simp
        try (with_reducible rfl)
      simp only [Act.put, List.setIfInBounds_toArray, List.set_cons_zero, List.set_cons_succ]
      refine AnyJ.takeL (i := 14) (v := sv) rfl rfl (by kernel_rfl) (by kernel_rfl) (by kernel_rfl) (by kernel_rfl) (fun _ _ _ h => h) (by rfl) ?_ H9.out.2 ?_
      · intro W hW
        go_simp
        try (with_reducible rfl)
      simp only [Act.put, List.setIfInBounds_toArray, List.set_cons_zero, List.set_cons_succ]
      refine AnyJ.oneL (i := 15) (by kernel_rfl) rfl (fun K0 hK => ?_)
      go_simp
      go_at_call 16
      refine (of_any nb _ sv l (Nat.le_trans H.out.1 (Nat.le_trans H7.out.2.2.1.size H9.out.1.size)) (H.out.2.1.later ((H7.out.2.2.1.trans (H9.out.1.mono H7.out.2.2.1.size)).mono H.out.1)) (H.out.2.2.2.2.1.later (H7.out.2.2.1.trans (H9.out.1.mono H7.out.2.2.1.size)))).mono ?_
      rintro e w10 ⟨z, rfl, hz, hb10⟩
      have H10 := Lib.hid (And.intro (H9.out.1.trans (hb10.mono H9.out.1.size)) hz)
      refine hK.out _ _ (fun _ => H9.out.2.below hb10) ?_
      clear hb10 hz
      clear hK K0
      (try simp only [Act.put, List.setIfInBounds_toArray, List.set_cons_zero, List.set_cons_succ])
      refine AnyJ.oneL (i := 16) (by kernel_rfl) rfl (fun K0 hK => ?_)
      go_simp
      go_at_call 22
      refine (show Calls _ _ _ _ _ from vsame_any v (ofL l) _ _ _ _ _ (H7.out.1.later H10.out.1) H10.out.2).mono ?_
      rintro e w11 ⟨rfl, hb11⟩
      rw [show (cmpO v (ofL l) == .eq) = true by rw [cmpO_key _ _ HV.out.2.2.1 HK.out.2 (ba_inj (HV.out.1.trans HK.out.1.symm))]; rfl]
      have H11 := Lib.hid (And.intro (H10.out.1.trans (hb11.mono H10.out.1.size)) (H7.out.2.1.below (H10.out.1.trans (hb11.mono H10.out.1.size))))
      refine hK.out _ _ (fun _ => H11.out.2) ?_
      clear hb11
      clear hK K0
      (try simp only [Act.put, List.setIfInBounds_toArray, List.set_cons_zero, List.set_cons_succ])
      refine AnyJ.oneL (i := 17) (by kernel_rfl) rfl (fun K0 hK => ?_)
      go_simp
      refine hK.out _ _ (fun _ => H11.out.2) ?_
      clear hK K0
      (try simp only [Act.put, List.setIfInBounds_toArray, List.set_cons_zero, List.set_cons_succ])
      refine AnyJ.oneL (i := 18) (by kernel_rfl) rfl (fun K0 hK => ?_)
      go_simp
      refine hK.out _ _ (fun _ => H11.out.2) ?_
      clear hK K0
      (try simp only [Act.put, List.setIfInBounds_toArray, List.set_cons_zero, List.set_cons_succ])
      refine AnyJ.oneL (i := 19) (by kernel_rfl) rfl (fun K0 hK => ?_)
      go_simp
      refine hK.out _ _ (fun _ => H11.out.2) ?_
      clear hK K0
      (try simp only [Act.put, List.setIfInBounds_toArray, List.set_cons_zero, List.set_cons_succ])
      refine AnyJ.done (by kernel_rfl) ?_
      go_wp2
      go_ret
      exact ⟨rfl, H7.out.2.2.1.trans (H11.out.1.mono H7.out.2.2.1.size)⟩
    · have hXK : (X.toList == K.toList) = false := by
        rw [beq_eq_false_iff_ne]
        intro e
        rw [Lib.toList_data, Lib.toList_data] at e
        exact he (ByteArray.ext (Array.toList_inj.mp e))
      clear he
      have k0 := bel_cell (H7.out.2.1.cell 0)
      have k1 := bel_cell (H7.out.2.1.cell 1)
      have k2 := bel_cell (H7.out.2.1.cell 2)
      have k3 := bel_cell (H7.out.2.1.cell 3)
      have k4 := bel_cell (H7.out.2.1.cell 4)
      refine wp_region_bel (by kernel_rfl) (by kernel_rfl) ?_
      repeat (go_big_quiet_step ((first
        | (go_at_call 23; exact calls_bel (show Calls _ _ _ _ _ from HVal.out _ (BelBy.bel _)))
        | (go_at_call 17; exact calls_bel (show Calls _ _ _ _ _ from HPut.out _ (BelBy.bel _))))))
      refine wpQuiet_nil ?_
      rintro _ ⟨pq, rfl⟩
      clear k0 k1 k2 k3 k4
      go_wp2
      go_ret
      exact ⟨rfl, H7.out.2.2.1.trans (pq.bel.mono H7.out.2.2.1.size)⟩
set_option maxHeartbeats 16000000 in
set_option maxRecDepth 100000 in
theorem kgets_plain (s : ByteArray) (nb : Nat) (w : World) (sv : Value) (l : BL) (a c : Nat) (ha : a < 65536) (hc : c < 256) (hnb : nb ≤ w.heap.size) (h : BRead nb w sv l) (hT : Tabs w) (hM : ML w) (hW : Words w) :
    Calls Tryd.prog 6 #[.string s, .bool false, sv, .int .u16 a, .int .u8 c] w fun e w' => e = .returned (.bool true) ∧ Below w.heap.size w w' := by
  have H := Lib.hid (And.intro hnb (And.intro h (And.intro hT (And.intro hM (And.intro hW (And.intro ha hc))))))
  clear hnb h hT hM hW ha hc
  obtain ⟨X, hX⟩ : ∃ X, s.extract 0 (min (s.size : Int) 400).toNat = X := ⟨_, rfl⟩
  have hXs : X.size ≤ 400 := by rw [← hX]; exact cut4_size s
  go_enter Tryd.func6, Tryd.ntmps6
  go_wp2_with fail
  refine (kawake_any _ H.out.2.2.1).mono ?_
  rintro e w1 ⟨rfl, hb1⟩
  have H1 := Lib.hid hb1
  clear hb1
  go_wp2_with fail
  refine (of_any nb w1 sv l (Nat.le_trans H.out.1 H1.out.size) (H.out.2.1.later (H1.out.mono H.out.1)) (H.out.2.2.2.2.1.later H1.out)).mono ?_
  rintro e w2 ⟨x0, rfl, hx, hb2⟩
  have H2 := Lib.hid (And.intro hx (H1.out.trans (hb2.mono H1.out.size)))
  have hokl := hx.ok
  clear hb2 hx
  go_wp2_with fail
  refine (show Calls _ _ _ _ _ from lput_v (ofL l) _ _ _ H2.out.1 (ML.later H.out.2.2.2.1 H2.out.2) (by have := keyL_of l; omega)).mono ?_
  rintro e w3 ⟨rfl, hb3⟩
  have H3 := Lib.hid (H2.out.2.trans (hb3.mono H2.out.2.size))
  clear hb3
  obtain ⟨K, hK⟩ : ∃ K, BA (keyL (ofL l)) = K := ⟨_, rfl⟩
  have hKs : K.size ≤ 5000 := by rw [← hK, ba_size]; exact keyL_of l
  rw [hK]
  have HK := Lib.hid (And.intro hK hokl)
  clear hK hokl
  obtain ⟨x, hx⟩ : ∃ x : BL, BA x = X := ⟨X.data.toList, ba_list X⟩
  have hxl : x.length ≤ 400 := by rw [← ba_size, hx]; exact hXs
  have HC := Lib.hid (And.intro hX hxl)
  cases hg : getL x with
  | none =>
    have hG := fun (W : World) (hT : Tabs W) => kget_none x W hT (by omega) hg
    rw [hx] at hG
    have HG := Lib.hid hG
    have hXK : (X.toList == K.toList) = false := by
      rw [beq_eq_false_iff_ne]
      intro e
      have e2 : x = keyL (ofL l) := by
        apply ba_inj
        rw [hx, HK.out.1]
        rw [Lib.toList_data, Lib.toList_data] at e
        exact ByteArray.ext (Array.toList_inj.mp e)
      rw [e2, getL_of l HK.out.2] at hg
      cases hg
    clear hG hg hx hxl
    go_wp2_with fail
    refine (HG.out _ (H.out.2.2.1.below H3.out)).mono ?_
    rintro e w6 ⟨rfl, hb6⟩
    have H6 := Lib.hid (H3.out.trans (hb6.mono H3.out.size))
    clear hb6
    go_wp2_with fail
    obtain ⟨W6, hW6⟩ : ∃ W, w6.alloc (.cells #[.int .i64 0, .int .i64 0, .string ⟨#[]⟩, .slice none 0 0, .slice none 0 0] 28) = W := ⟨_, rfl⟩
    have H7 := Lib.hid (show Below w.heap.size w W6 by rw [← hW6]; exact H6.out.alloc H6.out.size _)
    (try rw [hW6])
    clear hW6
    refine (show Calls _ _ _ _ _ from vsame_any V.null V.null (fun _ => True) (fun _ => True) _ _ _ VAt.null VAt.null).mono ?_
    rintro e w8 ⟨rfl, hb8⟩
    rw [show (cmpO V.null V.null == .eq) = true by rw [cmpO]; rfl]
    have H8 := Lib.hid (H7.out.trans (hb8.mono H7.out.size))
    clear hb8
    go_wp2
    go_ret
    exact ⟨rfl, H8.out⟩
  | some v =>
    obtain ⟨hxk, hov, hvv⟩ := getL_key hg
    have hG := fun (W : World) (hT : Tabs W) => kget_some x v W hT (by omega) hg
    rw [hx] at hG
    have HG := Lib.hid hG
    have hkv : BA (keyL v) = X := by rw [← hxk]; exact hx
    have hkl : (keyL v).length ≤ 400 := by rw [← hxk]; exact hxl
    have HV := Lib.hid (And.intro hkv (And.intro hkl (And.intro hov hvv)))
    clear hG hg hx hxk hov hvv hkv hkl hxl
    go_wp2_with fail
    refine (HG.out _ (H.out.2.2.1.below H3.out)).mono ?_
    rintro e w6 ⟨y, rfl, hy, hb6⟩
    obtain ⟨r0, r1, r2, r3, r4, r5, r6, r7, r8, rfl⟩ := hy.shape
    obtain ⟨P, hP⟩ : ∃ P, w6.heap.size = P := ⟨_, rfl⟩
    obtain ⟨W7, hW7⟩ : ∃ W, w6.alloc (.cells #[.int .i64 r0, .int .i64 r1, .string r2, .slice r3 r4 r5, .slice r6 r7 r8] 28) = W := ⟨_, rfl⟩
    have hk7 : Blk W7 P 28 [.int .i64 r0, .int .i64 r1, .string r2, .slice r3 r4 r5, .slice r6 r7 r8] := by rw [← hW7, ← hP]; exact heap_alloc_new w6 _
    have hb7 : Below w6.heap.size w6 W7 := by rw [← hW7]; exact (Below.refl _ w6).alloc (Nat.le_refl _) _
    have hbw : Below w.heap.size w W7 := (H3.out.trans (hb6.mono H3.out.size)).trans (hb7.mono (Nat.le_trans H3.out.size hb6.size))
    have H7 := Lib.hid (And.intro (hy.later hb7) (And.intro hk7 (And.intro hbw (And.intro hP hW7))))
    have HVal := Lib.hid (fun (W : World) (hb : Below W7.heap.size W7 W) => show Calls Tryd.prog 23 #[.agg #[.int .i64 r0, .int .i64 r1, .string r2, .slice r3 r4 r5, .slice r6 r7 r8]] W (fun e w' => e = .returned (.bool true) ∧ Below W.heap.size W w') by
      have := vvalid_any v _ W _ ((hy.later hb7).later hb) ((H.out.2.2.1.below hbw).below hb) (by have := HV.out.2.1; omega)
      unfold ValidC at this
      rw [HV.out.2.2.2] at this
      exact this)
    have HPut := Lib.hid (fun (W : World) (hb : Below W7.heap.size W7 W) => show Calls Tryd.prog 17 #[.agg #[.int .i64 r0, .int .i64 r1, .string r2, .slice r3 r4 r5, .slice r6 r7 r8]] W (fun e w' => e = .returned (.string X) ∧ Below W.heap.size W w') by
      have := kput_v v _ W _ ((hy.later hb7).later hb) ((ML.later H.out.2.2.2.1 hbw).later hb) (by have := HV.out.2.1; omega)
      unfold PutC at this
      rw [HV.out.1] at this
      exact this)
    clear hb6 hy hk7 hb7 hbw hP hW7
    go_wp2_with fail
    (try rw [H7.out.2.2.2.2])
    (try rw [H7.out.2.2.2.1])
    by_cases he : X = K
    · subst he
      refine AnyJ.begin (J := fun j => Nat.ble j 19) (S := fun W => Blk W P 28 [.int .i64 r0, .int .i64 r1, .string r2, .slice r3 r4 r5, .slice r6 r7 r8]) (by kernel_rfl) rfl rfl ?_
      have HS := Lib.hid (show Blk W7.drew P 28 [.int .i64 r0, .int .i64 r1, .string r2, .slice r3 r4 r5, .slice r6 r7 r8] from H7.out.2.1)
      refine AnyJ.takeL (i := 0) (v := .agg #[.int .i64 r0, .int .i64 r1, .string r2, .slice r3 r4 r5, .slice r6 r7 r8]) rfl rfl (by kernel_rfl) (by kernel_rfl) (by kernel_rfl) (by kernel_rfl) (fun _ _ _ h => h) (by rfl) ?_ HS.out ?_
      · intro W hW
        have u0 := hW.cell 0
        have u1 := hW.cell 1
        have u2 := hW.cell 2
        have u3 := hW.cell 3
        have u4 := hW.cell 4
        go_simp
        try (with_reducible rfl)
      simp only [Act.put, List.setIfInBounds_toArray, List.set_cons_zero, List.set_cons_succ]
      refine AnyJ.oneL (i := 1) (by kernel_rfl) rfl (fun K0 hK => ?_)
      go_simp
      go_at_call 23
      refine (HVal.out _ (Below.refl _ _).drew).mono ?_
      rintro e w8 ⟨rfl, hb8⟩
      have H8 := Lib.hid (And.intro ((Below.refl W7.heap.size W7).drew.trans hb8) (HS.out.below hb8))
      refine hK.out _ _ (fun _ => H8.out.2) ?_
      clear hb8
      clear hK K0
      (try simp only [Act.put, List.setIfInBounds_toArray, List.set_cons_zero, List.set_cons_succ])
      refine AnyJ.takeL (i := 2) (v := .bool true) rfl rfl (by kernel_rfl) (by kernel_rfl) (by kernel_rfl) (by kernel_rfl) (fun _ _ _ h => h) (by rfl) ?_ H8.out.2 ?_
      · intro W hW
        go_simp
        try (with_reducible rfl)
      simp only [Act.put, List.setIfInBounds_toArray, List.set_cons_zero, List.set_cons_succ]
      refine AnyJ.takeL (i := 3) (v := .agg #[.int .i64 r0, .int .i64 r1, .string r2, .slice r3 r4 r5, .slice r6 r7 r8]) rfl rfl (by kernel_rfl) (by kernel_rfl) (by kernel_rfl) (by kernel_rfl) (fun _ _ _ h => h) (by rfl) ?_ H8.out.2 ?_
      · intro W hW
        have u0 := hW.cell 0
        have u1 := hW.cell 1
        have u2 := hW.cell 2
        have u3 := hW.cell 3
        have u4 := hW.cell 4
        go_simp
        try (with_reducible rfl)
      simp only [Act.put, List.setIfInBounds_toArray, List.set_cons_zero, List.set_cons_succ]
      refine AnyJ.takeL (i := 5) (v := .string X) rfl rfl (by kernel_rfl) (by kernel_rfl) (by kernel_rfl) (by kernel_rfl) (fun _ _ _ h => h) (by rfl) ?_ H8.out.2 ?_
      · intro W hW
        go_simp
        try (with_reducible rfl)
      simp only [Act.put, List.setIfInBounds_toArray, List.set_cons_zero, List.set_cons_succ]
      refine AnyJ.oneL (i := 4) (by kernel_rfl) rfl (fun K0 hK => ?_)
      go_simp
      go_at_call 17
      refine (HPut.out _ H8.out.1).mono ?_
      rintro e w9 ⟨rfl, hb9⟩
      have H9 := Lib.hid (And.intro (H8.out.1.trans (hb9.mono H8.out.1.size)) (H8.out.2.below hb9))
      refine hK.out _ _ (fun _ => H9.out.2) ?_
      clear hb9
      clear hK K0
      (try simp only [Act.put, List.setIfInBounds_toArray, List.set_cons_zero, List.set_cons_succ])
      refine AnyJ.takeL (i := 6) (v := .bool true) rfl rfl (by kernel_rfl) (by kernel_rfl) (by kernel_rfl) (by kernel_rfl) (fun _ _ _ h => h) (by rfl) ?_ H9.out.2 ?_
      · intro W hW
        go_simp
        try (with_reducible rfl)
      simp only [Act.put, List.setIfInBounds_toArray, List.set_cons_zero, List.set_cons_succ]
      refine AnyJ.takeL (i := 7) (v := .bool true) rfl rfl (by kernel_rfl) (by kernel_rfl) (by kernel_rfl) (by kernel_rfl) (fun _ _ _ h => h) (by rfl) ?_ H9.out.2 ?_
      · intro W hW
        go_simp
        try (with_reducible rfl)
      simp only [Act.put, List.setIfInBounds_toArray, List.set_cons_zero, List.set_cons_succ]
      refine AnyJ.takeL (i := 8) (v := .bool true) rfl rfl (by kernel_rfl) (by kernel_rfl) (by kernel_rfl) (by kernel_rfl) (fun _ _ _ h => h) (by rfl) ?_ H9.out.2 ?_
      · intro W hW
        go_simp
        try (with_reducible rfl)
      simp only [Act.put, List.setIfInBounds_toArray, List.set_cons_zero, List.set_cons_succ]
      refine AnyJ.takeL (i := 9) (v := .string X) rfl rfl (by kernel_rfl) (by kernel_rfl) (by kernel_rfl) (by kernel_rfl) (fun _ _ _ h => h) (by rfl) ?_ H9.out.2 ?_
      · intro W hW
        go_simp
        try (with_reducible rfl)
      simp only [Act.put, List.setIfInBounds_toArray, List.set_cons_zero, List.set_cons_succ]
      refine AnyJ.takeL (i := 10) (v := .string X) rfl rfl (by kernel_rfl) (by kernel_rfl) (by kernel_rfl) (by kernel_rfl) (fun _ _ _ h => h) (by rfl) ?_ H9.out.2 ?_
      · intro W hW
        go_simp
        try (with_reducible rfl)
      simp only [Act.put, List.setIfInBounds_toArray, List.set_cons_zero, List.set_cons_succ]
      refine AnyJ.takeL (i := 11) (v := .bool false) rfl rfl (by kernel_rfl) (by kernel_rfl) (by kernel_rfl) (by kernel_rfl) (fun _ _ _ h => h) (by rfl) ?_ H9.out.2 ?_
      · intro W hW
        go_simp
        try (with_reducible rfl)
      simp only [Act.put, List.setIfInBounds_toArray, List.set_cons_zero, List.set_cons_succ]
      refine AnyJ.takeL (i := 12) (v := .bool false) rfl rfl (by kernel_rfl) (by kernel_rfl) (by kernel_rfl) (by kernel_rfl) (fun _ _ _ h => h) (by rfl) ?_ H9.out.2 ?_
      · intro W hW
        go_simp
        try (with_reducible rfl)
      simp only [Act.put, List.setIfInBounds_toArray, List.set_cons_zero, List.set_cons_succ]
      refine AnyJ.takeL (i := 13) (v := .agg #[.int .i64 r0, .int .i64 r1, .string r2, .slice r3 r4 r5, .slice r6 r7 r8]) rfl rfl (by kernel_rfl) (by kernel_rfl) (by kernel_rfl) (by kernel_rfl) (fun _ _ _ h => h) (by rfl) ?_ H9.out.2 ?_
      · intro W hW
        have u0 := hW.cell 0
        have u1 := hW.cell 1
        have u2 := hW.cell 2
        have u3 := hW.cell 3
        have u4 := hW.cell 4
        go_simp
        try (with_reducible rfl)
      simp only [Act.put, List.setIfInBounds_toArray, List.set_cons_zero, List.set_cons_succ]
      refine AnyJ.takeL (i := 14) (v := sv) rfl rfl (by kernel_rfl) (by kernel_rfl) (by kernel_rfl) (by kernel_rfl) (fun _ _ _ h => h) (by rfl) ?_ H9.out.2 ?_
      · intro W hW
        go_simp
        try (with_reducible rfl)
      simp only [Act.put, List.setIfInBounds_toArray, List.set_cons_zero, List.set_cons_succ]
      refine AnyJ.oneL (i := 15) (by kernel_rfl) rfl (fun K0 hK => ?_)
      go_simp
      go_at_call 16
      refine (of_any nb _ sv l (Nat.le_trans H.out.1 (Nat.le_trans H7.out.2.2.1.size H9.out.1.size)) (H.out.2.1.later ((H7.out.2.2.1.trans (H9.out.1.mono H7.out.2.2.1.size)).mono H.out.1)) (H.out.2.2.2.2.1.later (H7.out.2.2.1.trans (H9.out.1.mono H7.out.2.2.1.size)))).mono ?_
      rintro e w10 ⟨z, rfl, hz, hb10⟩
      have H10 := Lib.hid (And.intro (H9.out.1.trans (hb10.mono H9.out.1.size)) hz)
      refine hK.out _ _ (fun _ => H9.out.2.below hb10) ?_
      clear hb10 hz
      clear hK K0
      (try simp only [Act.put, List.setIfInBounds_toArray, List.set_cons_zero, List.set_cons_succ])
      refine AnyJ.oneL (i := 16) (by kernel_rfl) rfl (fun K0 hK => ?_)
      go_simp
      go_at_call 22
      refine (show Calls _ _ _ _ _ from vsame_any v (ofL l) _ _ _ _ _ (H7.out.1.later H10.out.1) H10.out.2).mono ?_
      rintro e w11 ⟨rfl, hb11⟩
      rw [show (cmpO v (ofL l) == .eq) = true by rw [cmpO_key _ _ HV.out.2.2.1 HK.out.2 (ba_inj (HV.out.1.trans HK.out.1.symm))]; rfl]
      have H11 := Lib.hid (And.intro (H10.out.1.trans (hb11.mono H10.out.1.size)) (H7.out.2.1.below (H10.out.1.trans (hb11.mono H10.out.1.size))))
      refine hK.out _ _ (fun _ => H11.out.2) ?_
      clear hb11
      clear hK K0
      (try simp only [Act.put, List.setIfInBounds_toArray, List.set_cons_zero, List.set_cons_succ])
      refine AnyJ.oneL (i := 17) (by kernel_rfl) rfl (fun K0 hK => ?_)
      go_simp
      refine hK.out _ _ (fun _ => H11.out.2) ?_
      clear hK K0
      (try simp only [Act.put, List.setIfInBounds_toArray, List.set_cons_zero, List.set_cons_succ])
      refine AnyJ.oneL (i := 18) (by kernel_rfl) rfl (fun K0 hK => ?_)
      go_simp
      refine hK.out _ _ (fun _ => H11.out.2) ?_
      clear hK K0
      (try simp only [Act.put, List.setIfInBounds_toArray, List.set_cons_zero, List.set_cons_succ])
      refine AnyJ.oneL (i := 19) (by kernel_rfl) rfl (fun K0 hK => ?_)
      go_simp
      refine hK.out _ _ (fun _ => H11.out.2) ?_
      clear hK K0
      (try simp only [Act.put, List.setIfInBounds_toArray, List.set_cons_zero, List.set_cons_succ])
      refine AnyJ.done (by kernel_rfl) ?_
      go_wp2
      go_ret
      exact ⟨rfl, H7.out.2.2.1.trans (H11.out.1.mono H7.out.2.2.1.size)⟩
    · have hXK : (X.toList == K.toList) = false := by
        rw [beq_eq_false_iff_ne]
        intro e
        rw [Lib.toList_data, Lib.toList_data] at e
        exact he (ByteArray.ext (Array.toList_inj.mp e))
      clear he
      have k0 := bel_cell (H7.out.2.1.cell 0)
      have k1 := bel_cell (H7.out.2.1.cell 1)
      have k2 := bel_cell (H7.out.2.1.cell 2)
      have k3 := bel_cell (H7.out.2.1.cell 3)
      have k4 := bel_cell (H7.out.2.1.cell 4)
      refine wp_region_bel (by kernel_rfl) (by kernel_rfl) ?_
      repeat (go_big_quiet_step ((first
        | (go_at_call 23; exact calls_bel (show Calls _ _ _ _ _ from HVal.out _ (BelBy.bel _)))
        | (go_at_call 17; exact calls_bel (show Calls _ _ _ _ _ from HPut.out _ (BelBy.bel _))))))
      refine wpQuiet_nil ?_
      rintro _ ⟨pq, rfl⟩
      clear k0 k1 k2 k3 k4
      go_wp2
      go_ret
      exact ⟨rfl, H7.out.2.2.1.trans (pq.bel.mono H7.out.2.2.1.size)⟩
theorem kgets_int (own : Bool) (s : ByteArray) (nb : Nat) (w : World) (sv : Value) (l : BL) (n m : Int) (hn : (Lit.int .u16 n).wf = true) (hm : (Lit.int .u8 m).wf = true) (hnb : nb ≤ w.heap.size) (h : BRead nb w sv l) (hT : Tabs w) (hM : ML w) (hW : Words w) :
    Calls Tryd.prog 6 #[.string s, .bool own, sv, .int .u16 n, .int .u8 m] w fun e w' => e = .returned (.bool true) ∧ Below w.heap.size w w' := by
  have hr : 0 ≤ n ∧ n ≤ 65535 := by simpa [Lit.wf, IntKind.min, IntKind.max, IntKind.signed, IntKind.bits] using hn
  have hs : 0 ≤ m ∧ m ≤ 255 := by simpa [Lit.wf, IntKind.min, IntKind.max, IntKind.signed, IntKind.bits] using hm
  obtain ⟨a, rfl⟩ : ∃ c : Nat, n = c := ⟨n.toNat, by omega⟩
  obtain ⟨c, rfl⟩ : ∃ c : Nat, m = c := ⟨m.toNat, by omega⟩
  cases own
  · exact kgets_plain s nb w sv l a c (by omega) (by omega) hnb h hT hM hW
  · exact kgets_own s nb w sv l a c (by omega) (by omega) hnb h hT hM hW
end Go.Proofs.YthlioinmeimhoaaDoor
