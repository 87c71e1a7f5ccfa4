/- KeyOrder: the law's walk. -/
import Derived.Test.YthlioinmeimhoaaDoorKcC
namespace Go.Proofs.YthlioinmeimhoaaDoor
open Go.Shelf Go.RowKit Go.Lib

set_option maxHeartbeats 8000000 in
set_option maxRecDepth 100000 in
theorem korder_law (nb : Nat) (w : World) (sv tv : Value) (l m : BL) (hnb : nb ≤ w.heap.size) (h : BRead nb w sv l) (g : BRead nb w tv m) (hT : Tabs w) (hM : ML w) (hW : Words w) :
    Calls Tryd.prog 4 #[sv, tv] w fun e w' => e = .returned (.bool true) ∧ Below w.heap.size w w' := by
  have H := Lib.hid (And.intro hnb (And.intro h (And.intro hT (And.intro hM (And.intro hW g)))))
  clear hnb h hT hM hW g
  go_enter Tryd.func4, Tryd.ntmps4
  go_wp2_with fail
  refine (kawake_any _ H.out.2.2.1).mono ?_
  rintro e w1 ⟨rfl, hb1⟩
  have H1 := Lib.hid hb1
  clear hb1
  go_wp2_with fail
  refine (of_any nb w1 sv l (Nat.le_trans H.out.1 H1.out.size) (H.out.2.1.later (H1.out.mono H.out.1)) (H.out.2.2.2.2.1.later H1.out)).mono ?_
  rintro e w2 ⟨c, rfl, hx, hb2⟩
  have H2 := Lib.hid (And.intro hx (H1.out.trans (hb2.mono H1.out.size)))
  clear hb2 hx
  go_wp2_with fail
  refine (of_any nb w2 tv m (Nat.le_trans H.out.1 H2.out.2.size) (H.out.2.2.2.2.2.later (H2.out.2.mono H.out.1)) (H.out.2.2.2.2.1.later H2.out.2)).mono ?_
  rintro e w3 ⟨d, rfl, hy, hb3⟩
  have hx := VAt.later H2.out.1 hb3
  obtain ⟨q0, q1, q2, q3, q4, q5, q6, q7, q8, rfl⟩ := hx.shape
  obtain ⟨r0, r1, r2, r3, r4, r5, r6, r7, r8, rfl⟩ := hy.shape
  obtain ⟨W4, hW4⟩ : ∃ W4, (w3.alloc (.cells #[.int .i64 q0, .int .i64 q1, .string q2, .slice q3 q4 q5, .slice q6 q7 q8] 28)).alloc (.cells #[.int .i64 r0, .int .i64 r1, .string r2, .slice r3 r4 r5, .slice r6 r7 r8] 28) = W4 := ⟨_, rfl⟩
  obtain ⟨P, hP⟩ : ∃ P, w3.heap.size = P := ⟨_, rfl⟩
  have hb4 : Below w3.heap.size w3 W4 := by rw [← hW4]; exact ((Below.refl _ w3).alloc (Nat.le_refl _) _).alloc (by simp) _
  have hk1 : Blk W4 P 28 [.int .i64 q0, .int .i64 q1, .string q2, .slice q3 q4 q5, .slice q6 q7 q8] := by rw [← hW4, ← hP]; exact Blk.alloc (g := w3.heap.size) (heap_alloc_new w3 _) _
  have hk2 : Blk W4 (P + 1) 28 [.int .i64 r0, .int .i64 r1, .string r2, .slice r3 r4 r5, .slice r6 r7 r8] := by rw [← hW4, ← hP]; exact blk_new2 w3 _ _ _
  have hbw : Below w.heap.size w W4.drew := ((H2.out.2.trans (hb3.mono H2.out.2.size)).trans (hb4.mono (by have := H2.out.2.size; have := hb3.size; omega))).drew
  have hx4 : VAt _ W4.drew (ofL l) _ := (hx.later hb4).later ((Below.refl _ W4).drew)
  have hy4 : VAt _ W4.drew (ofL m) _ := (hy.later hb4).later ((Below.refl _ W4).drew)
  obtain ⟨K, hK⟩ : ∃ K, BA (keyL (ofL l)) = K := ⟨_, rfl⟩
  obtain ⟨L, hL⟩ : ∃ L, BA (keyL (ofL m)) = L := ⟨_, rfl⟩
  have hord : lcmp K.toList L.toList = cmpO (ofL l) (ofL m) := by rw [← hK, ← hL, ba_tl, ba_tl]; exact keyL_order _ _ hx.ok hy.ok
  obtain ⟨z, hz⟩ : ∃ z, sgnO (cmpO (ofL l) (ofL m)) = z := ⟨_, rfl⟩
  have HX := Lib.hid (And.intro hx4 (And.intro hy4 (And.intro hbw (And.intro (H.out.2.2.2.1.later hbw) (And.intro hK (And.intro hL (And.intro hord (And.intro hz (And.intro hk1 hk2)))))))))
  clear hx hy hb3 hb4 hbw hx4 hy4 hK hL hord hz
  go_wp2_with fail
  (try rw [hW4]); (try rw [hP])
  clear hW4 hP
  have d0 : W4.drew.cell? ⟨P, 0, none⟩ = some (.int .i64 q0) := hk1.cell 0
  have d1 : W4.drew.cell? ⟨P, 1, none⟩ = some (.int .i64 q1) := hk1.cell 1
  have d2 : W4.drew.cell? ⟨P, 2, none⟩ = some (.string q2) := hk1.cell 2
  have d3 : W4.drew.cell? ⟨P, 3, none⟩ = some (.slice q3 q4 q5) := hk1.cell 3
  have d4 : W4.drew.cell? ⟨P, 4, none⟩ = some (.slice q6 q7 q8) := hk1.cell 4
  have e0 : W4.drew.cell? ⟨P + 1, 0, none⟩ = some (.int .i64 r0) := hk2.cell 0
  have e1 : W4.drew.cell? ⟨P + 1, 1, none⟩ = some (.int .i64 r1) := hk2.cell 1
  have e2 : W4.drew.cell? ⟨P + 1, 2, none⟩ = some (.string r2) := hk2.cell 2
  have e3 : W4.drew.cell? ⟨P + 1, 3, none⟩ = some (.slice r3 r4 r5) := hk2.cell 3
  have e4 : W4.drew.cell? ⟨P + 1, 4, none⟩ = some (.slice r6 r7 r8) := hk2.cell 4
  clear hk1 hk2
  go_region_held3 (fun w' => w'.cell? ⟨P, 0, none⟩ = some (.int .i64 q0) ∧ w'.cell? ⟨P, 1, none⟩ = some (.int .i64 q1) ∧ w'.cell? ⟨P, 2, none⟩ = some (.string q2) ∧ w'.cell? ⟨P, 3, none⟩ = some (.slice q3 q4 q5) ∧ w'.cell? ⟨P, 4, none⟩ = some (.slice q6 q7 q8) ∧ w'.cell? ⟨P + 1, 0, none⟩ = some (.int .i64 r0) ∧ w'.cell? ⟨P + 1, 1, none⟩ = some (.int .i64 r1) ∧ w'.cell? ⟨P + 1, 2, none⟩ = some (.string r2) ∧ w'.cell? ⟨P + 1, 3, none⟩ = some (.slice r3 r4 r5) ∧ w'.cell? ⟨P + 1, 4, none⟩ = some (.slice r6 r7 r8))
    (first | exact ⟨d0, d1, d2, d3, d4, e0, e1, e2, e3, e4⟩ | exact ⟨p0, p1, p2, p3, p4, s0, s1, s2, s3, s4⟩ | exact ⟨t0, t1, t2, t3, t4, u0, u1, u2, u3, u4⟩)
    (first
      | (go_at_call_of 17 q0; refine (show Calls _ _ _ _ _ from kput_v (ofL l) _ _ _ HX.out.1 HX.out.2.2.2.1 (by have := keyL_of l; omega)).mono ?_; rintro e w5 ⟨rfl, hb5⟩; have HB5 := Lib.hid hb5; have p0 := bcell hb5 d0; have p1 := bcell hb5 d1; have p2 := bcell hb5 d2; have p3 := bcell hb5 d3; have p4 := bcell hb5 d4; have s0 := bcell hb5 e0; have s1 := bcell hb5 e1; have s2 := bcell hb5 e2; have s3 := bcell hb5 e3; have s4 := bcell hb5 e4; clear hb5; rw [HX.out.2.2.2.2.1])
      | (go_at_call_of 17 r0; refine (show Calls _ _ _ _ _ from kput_v (ofL m) _ _ _ (VAt.later HX.out.2.1 HB5.out) (ML.later HX.out.2.2.2.1 HB5.out) (by have := keyL_of m; omega)).mono ?_; rintro e w6 ⟨rfl, hb6⟩; have HB6 := Lib.hid (HB5.out.trans (hb6.mono HB5.out.size)); have t0 := bcell hb6 p0; have t1 := bcell hb6 p1; have t2 := bcell hb6 p2; have t3 := bcell hb6 p3; have t4 := bcell hb6 p4; have u0 := bcell hb6 s0; have u1 := bcell hb6 s1; have u2 := bcell hb6 s2; have u3 := bcell hb6 s3; have u4 := bcell hb6 s4; clear hb6; rw [HX.out.2.2.2.2.2.1]))
  clear d0 d1 d2 d3 d4 e0 e1 e2 e3 e4 p0 p1 p2 p3 p4 s0 s1 s2 s3 s4
  go_wp2_with fail
  have d0 : w6.drew.cell? _ = _ := t0
  have d1 : w6.drew.cell? _ = _ := t1
  have d2 : w6.drew.cell? _ = _ := t2
  have d3 : w6.drew.cell? _ = _ := t3
  have d4 : w6.drew.cell? _ = _ := t4
  have e0 : w6.drew.cell? _ = _ := u0
  have e1 : w6.drew.cell? _ = _ := u1
  have e2 : w6.drew.cell? _ = _ := u2
  have e3 : w6.drew.cell? _ = _ := u3
  have e4 : w6.drew.cell? _ = _ := u4
  clear t0 t1 t2 t3 t4 u0 u1 u2 u3 u4
  have hzz : (z == z) = true := by simp
  go_region_held3 (fun w' => w'.cell? ⟨P, 0, none⟩ = some (.int .i64 q0) ∧ w'.cell? ⟨P, 1, none⟩ = some (.int .i64 q1) ∧ w'.cell? ⟨P, 2, none⟩ = some (.string q2) ∧ w'.cell? ⟨P, 3, none⟩ = some (.slice q3 q4 q5) ∧ w'.cell? ⟨P, 4, none⟩ = some (.slice q6 q7 q8) ∧ w'.cell? ⟨P + 1, 0, none⟩ = some (.int .i64 r0) ∧ w'.cell? ⟨P + 1, 1, none⟩ = some (.int .i64 r1) ∧ w'.cell? ⟨P + 1, 2, none⟩ = some (.string r2) ∧ w'.cell? ⟨P + 1, 3, none⟩ = some (.slice r3 r4 r5) ∧ w'.cell? ⟨P + 1, 4, none⟩ = some (.slice r6 r7 r8))
    (first | exact ⟨d0, d1, d2, d3, d4, e0, e1, e2, e3, e4⟩ | exact ⟨p0, p1, p2, p3, p4, s0, s1, s2, s3, s4⟩ | exact ⟨t0, t1, t2, t3, t4, u0, u1, u2, u3, u4⟩)
    (first
      | (go_at_call 19; refine (texts_bel K L _).mono ?_; rintro e w7 ⟨rfl, hb7⟩; have HB7 := Lib.hid ((HB6.out.trans ((Below.refl _ w6).drew.mono HB6.out.size)).trans (hb7.mono HB6.out.size)); have p0 := bcell hb7 d0; have p1 := bcell hb7 d1; have p2 := bcell hb7 d2; have p3 := bcell hb7 d3; have p4 := bcell hb7 d4; have s0 := bcell hb7 e0; have s1 := bcell hb7 e1; have s2 := bcell hb7 e2; have s3 := bcell hb7 e3; have s4 := bcell hb7 e4; clear hb7; rw [HX.out.2.2.2.2.2.2.1, HX.out.2.2.2.2.2.2.2.1])
      | (go_at_call 20; refine (show Calls _ _ _ _ _ from lc_any (ofL l) (ofL m) _ _ _ _ _ (VAt.later HX.out.1 HB7.out) (VAt.later HX.out.2.1 HB7.out)).mono ?_; rintro e w8 ⟨rfl, hb8⟩; have HB8 := Lib.hid (HB7.out.trans (hb8.mono HB7.out.size)); have t0 := bcell hb8 p0; have t1 := bcell hb8 p1; have t2 := bcell hb8 p2; have t3 := bcell hb8 p3; have t4 := bcell hb8 p4; have u0 := bcell hb8 s0; have u1 := bcell hb8 s1; have u2 := bcell hb8 s2; have u3 := bcell hb8 s3; have u4 := bcell hb8 s4; clear hb8; rw [HX.out.2.2.2.2.2.2.2.1]))
  all_goals
    go_wp2
    go_ret
    exact ⟨by simp, HX.out.2.2.1.trans (HB8.out.mono HX.out.2.2.1.size)⟩
end Go.Proofs.YthlioinmeimhoaaDoor
