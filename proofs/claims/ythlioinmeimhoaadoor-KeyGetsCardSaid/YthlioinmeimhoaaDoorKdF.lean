/- KeyBack: the law's walk. -/
import Derived.Test.YthlioinmeimhoaaDoorKdE
import Derived.Test.YthlioinmeimhoaaDoorKaL
namespace Go.Proofs.YthlioinmeimhoaaDoor
open Go.Shelf Go.RowKit Go.Lib

theorem kget_some (s : BL) (v : V) (w : World) (hT : Tabs w) (hs : s.length ≤ 1000000) (hg : getL s = some v) : Calls Tryd.prog 21 #[.string (BA s)] w fun e w' => ∃ c, e = .returned (.tuple #[.agg c.toArray, .bool true]) ∧ VAt (fun b => w.heap.size ≤ b ∧ b < w'.heap.size) w' v c ∧ Below w.heap.size w w' := by
  refine (kget_any s w hT hs).mono ?_
  intro e w' h
  unfold GetPost at h
  rw [hg] at h
  exact h

set_option maxHeartbeats 8000000 in
set_option maxRecDepth 100000 in
theorem kback_law (nb : Nat) (w : World) (sv : Value) (l : BL) (hnb : nb ≤ w.heap.size) (h : BRead nb w sv l) (hT : Tabs w) (hM : ML w) (hW : Words w) :
    Calls Tryd.prog 5 #[sv] w fun e w' => e = .returned (.bool true) ∧ Below w.heap.size w w' := by
  have H := Lib.hid (And.intro hnb (And.intro h (And.intro hT (And.intro hM hW))))
  clear hnb h hT hM hW
  go_enter Tryd.func5, Tryd.ntmps5
  go_wp2_with fail
  refine (kawake_any _ H.out.2.2.1).mono ?_
  rintro e w1 ⟨rfl, hb1⟩
  have H1 := Lib.hid hb1
  clear hb1
  go_wp2_with fail
  refine (of_any nb w1 sv l (Nat.le_trans H.out.1 H1.out.size) (H.out.2.1.later (H1.out.mono H.out.1)) (H.out.2.2.2.2.later H1.out)).mono ?_
  rintro e w2 ⟨x, rfl, hx, hb2⟩
  have hokl := Lib.hid hx.ok
  have hx0 : VAt (fun b => w1.heap.size ≤ b ∧ b < w2.heap.size) w2 (ofL l) x := hx
  obtain ⟨q0, q1, q2, q3, q4, q5, q6, q7, q8, rfl⟩ := hx0.shape
  obtain ⟨P, hP⟩ : ∃ P, w2.heap.size = P := ⟨_, rfl⟩
  obtain ⟨W2, hW2⟩ : ∃ W, w2.alloc (.cells #[.int .i64 q0, .int .i64 q1, .string q2, .slice q3 q4 q5, .slice q6 q7 q8] 28) = W := ⟨_, rfl⟩
  have hk2 : Blk W2 P 28 [.int .i64 q0, .int .i64 q1, .string q2, .slice q3 q4 q5, .slice q6 q7 q8] := by rw [← hW2, ← hP]; exact heap_alloc_new w2 _
  have hb2a : Below w2.heap.size w2 W2 := by rw [← hW2]; exact (Below.refl _ w2).alloc (Nat.le_refl _) _
  have H2 := Lib.hid (And.intro (hx0.later hb2a) (And.intro hk2 (And.intro ((H1.out.trans (hb2.mono H1.out.size)).trans (hb2a.mono (Nat.le_trans H1.out.size hb2.size))) (And.intro hP hW2))))
  clear hb2 hx hx0 hk2 hb2a hP hW2
  go_wp2_with fail
  rw [H2.out.2.2.2.2]
  (try rw [H2.out.2.2.2.1])
  refine (show Calls _ _ _ _ _ from kput_v (ofL l) _ _ _ H2.out.1 (ML.later H.out.2.2.2.1 H2.out.2.2.1) (by have := keyL_of l; omega)).mono ?_
  rintro e w3 ⟨rfl, hb3⟩
  have H3 := Lib.hid (And.intro (H2.out.1.later hb3) (And.intro (H2.out.2.1.below hb3) (H2.out.2.2.1.trans (hb3.mono H2.out.2.2.1.size))))
  clear hb3
  obtain ⟨K, hK⟩ : ∃ K, BA (keyL (ofL l)) = K := ⟨_, rfl⟩
  rw [hK]
  go_wp2_with fail
  rw [← hK]
  refine (kget_some (keyL (ofL l)) (ofL l) _ (H.out.2.2.1.below H3.out.2.2) (by have := keyL_of l; omega) (getL_of l hokl.out)).mono ?_
  rintro e w4 ⟨y, rfl, hy, hb4⟩
  clear hK K
  obtain ⟨r0, r1, r2, r3, r4, r5, r6, r7, r8, rfl⟩ := hy.shape
  obtain ⟨Q, hQ⟩ : ∃ Q, w4.heap.size = Q := ⟨_, rfl⟩
  obtain ⟨W4, hW4⟩ : ∃ W, w4.alloc (.cells #[.int .i64 r0, .int .i64 r1, .string r2, .slice r3 r4 r5, .slice r6 r7 r8] 28) = W := ⟨_, rfl⟩
  have hk4 : Blk W4 Q 28 [.int .i64 r0, .int .i64 r1, .string r2, .slice r3 r4 r5, .slice r6 r7 r8] := by rw [← hW4, ← hQ]; exact heap_alloc_new w4 _
  have hb4a : Below w4.heap.size w4 W4 := by rw [← hW4]; exact (Below.refl _ w4).alloc (Nat.le_refl _) _
  have hb34 : Below w3.heap.size w3 W4 := hb4.trans (hb4a.mono hb4.size)
  have H4 := Lib.hid (And.intro (H3.out.1.later hb34) (And.intro (hy.later hb4a) (And.intro (H3.out.2.1.below hb34) (And.intro hk4 (And.intro (H3.out.2.2.trans (hb34.mono H3.out.2.2.size)) (And.intro hQ hW4))))))
  have p0 := ((H3.out.2.1.below hb4).alloc (.cells #[.int .i64 r0, .int .i64 r1, .string r2, .slice r3 r4 r5, .slice r6 r7 r8] 28)).cell 0
  have p1 := ((H3.out.2.1.below hb4).alloc (.cells #[.int .i64 r0, .int .i64 r1, .string r2, .slice r3 r4 r5, .slice r6 r7 r8] 28)).cell 1
  have p2 := ((H3.out.2.1.below hb4).alloc (.cells #[.int .i64 r0, .int .i64 r1, .string r2, .slice r3 r4 r5, .slice r6 r7 r8] 28)).cell 2
  have p3 := ((H3.out.2.1.below hb4).alloc (.cells #[.int .i64 r0, .int .i64 r1, .string r2, .slice r3 r4 r5, .slice r6 r7 r8] 28)).cell 3
  have p4 := ((H3.out.2.1.below hb4).alloc (.cells #[.int .i64 r0, .int .i64 r1, .string r2, .slice r3 r4 r5, .slice r6 r7 r8] 28)).cell 4
  clear hb4 hy hk4 hb4a hb34 hQ hW4
  go_wp2_with fail
  (try rw [H4.out.2.2.2.2.2.2])
  (try rw [H4.out.2.2.2.2.2.1])
  clear p0 p1 p2 p3 p4
  refine (show Calls _ _ _ _ _ from vsame_any (ofL l) (ofL l) _ _ _ _ _ H4.out.1 H4.out.2.1).mono ?_
  rintro e w5 ⟨rfl, hb5⟩
  rw [show (cmpO (ofL l) (ofL l) == .eq) = true by rw [cmpO_key _ _ hokl.out hokl.out rfl]; rfl]
  have H5 := Lib.hid (And.intro (H4.out.2.1.later hb5) (And.intro (H4.out.2.2.2.1.below hb5) (H4.out.2.2.2.2.1.trans (hb5.mono H4.out.2.2.2.2.1.size))))
  clear hb5
  have s0 := H5.out.2.1.cell 0
  have s1 := H5.out.2.1.cell 1
  have s2 := H5.out.2.1.cell 2
  have s3 := H5.out.2.1.cell 3
  have s4 := H5.out.2.1.cell 4
  go_wp2_with fail
  clear s0 s1 s2 s3 s4
  refine (show Calls _ _ _ _ _ from vvalid_any (ofL l) _ _ _ H5.out.1 (H.out.2.2.1.below H5.out.2.2) (by have := keyL_of l; omega)).mono ?_
  rintro e w6 ⟨rfl, hb6⟩
  rw [of_valid]
  have H6 := Lib.hid (H5.out.2.2.trans (hb6.mono H5.out.2.2.size))
  clear hb6
  go_wp2
  go_ret
  exact ⟨rfl, H6.out⟩
end Go.Proofs.YthlioinmeimhoaaDoor
