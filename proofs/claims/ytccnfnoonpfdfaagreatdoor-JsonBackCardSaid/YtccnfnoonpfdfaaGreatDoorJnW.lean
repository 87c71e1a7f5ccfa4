/- JsonBack: the law's walk (printed by wip/gen_jnw.py). -/
import Derived.Test.YtccnfnoonpfdfaaGreatDoorJnV
namespace Go.Proofs.YtccnfnoonpfdfaaGreatDoor
open Go.Shelf Go.RowKit Go.Lib

set_option maxHeartbeats 8000000 in
set_option maxRecDepth 100000 in
theorem jback_law (nb : Nat) (w : World) (sv : Value) (l : BL) (hnb : nb ≤ w.heap.size) (h : BRead nb w sv l) (hJ : JW w) :
    Calls Tryz.prog 9 #[sv] w fun e w' => e = .returned (.bool true) ∧ Below w.heap.size w w' := by
  have H := Lib.hid (And.intro hnb (And.intro h hJ))
  clear hnb h hJ
  go_enter Tryz.func9, Tryz.ntmps9
  go_wp2_with fail
  refine (jawake_any _ H.out.2.2.1).mono ?_
  rintro e w1 ⟨rfl, hb1⟩
  have H1 := Lib.hid hb1
  clear hb1
  go_wp2_with fail
  refine (of_any nb w1 sv l (Nat.le_trans H.out.1 H1.out.size) (H.out.2.1.later (H1.out.mono H.out.1)) (H.out.2.2.2.later H1.out)).mono ?_
  rintro e w2 ⟨x, rfl, hx, hb2⟩
  have hokl := Lib.hid hx.ok
  have hx0 : VAt (fun b => w1.heap.size ≤ b ∧ b < w2.heap.size) w2 (ofL l) x := hx
  obtain ⟨q0, q1, q2, q3, q4, q5, q6, q7, q8, rfl⟩ := hx0.shape
  obtain ⟨P, hP⟩ : ∃ P, w2.heap.size = P := ⟨_, rfl⟩
  obtain ⟨W2, hW2⟩ : ∃ W, w2.alloc (.cells #[.int .i64 q0, .int .i64 q1, .string q2, .slice q3 q4 q5, .slice q6 q7 q8] 28) = W := ⟨_, rfl⟩
  have hk2 : Blk W2 P 28 [.int .i64 q0, .int .i64 q1, .string q2, .slice q3 q4 q5, .slice q6 q7 q8] := by rw [← hW2, ← hP]; exact heap_alloc_new w2 _
  have hb2a : Below w2.heap.size w2 W2 := by rw [← hW2]; exact (Below.refl _ w2).alloc (Nat.le_refl _) _
  have H2 := Lib.hid (And.intro (hx0.later hb2a) (And.intro hk2 (And.intro ((H1.out.trans (hb2.mono H1.out.size)).trans (hb2a.mono (Nat.le_trans H1.out.size hb2.size))) (And.intro hP hW2))))
  clear hb2 hx hx0 hk2 hb2a hP hW2
  go_wp2_with fail
  rw [H2.out.2.2.2.2]
  (try rw [H2.out.2.2.2.1])
  refine (show Calls _ _ _ _ _ from print_any (ofL l) _ _ _ H2.out.1 (H.out.2.2.1.below H2.out.2.2.1) (by have := print_size l; omega)).mono ?_
  rintro e w3 ⟨rfl, hb3⟩
  have H3 := Lib.hid (And.intro (H2.out.1.later hb3) (And.intro (H2.out.2.1.below hb3) (H2.out.2.2.1.trans (hb3.mono H2.out.2.2.1.size))))
  clear hb3
  obtain ⟨K, hK⟩ : ∃ K, BA (printV (ofL l)) = K := ⟨_, rfl⟩
  rw [hK]
  go_wp2_with fail
  refine (show Calls _ _ _ _ _ from parse_ok (print_back l hokl.out) K hK _ (H.out.2.2.1.below H3.out.2.2)).mono ?_
  rintro e w4 ⟨r0, r1, r2, r3, r4, r5, r6, r7, r8, rfl, hy, hb4⟩
  have HK := Lib.hid hK
  clear hK
  obtain ⟨Z, hZ⟩ : ∃ Z, w4.heap.size = Z := ⟨_, rfl⟩
  obtain ⟨W4, hW4⟩ : ∃ W, w4.alloc (.cells #[.int .i64 r0, .int .i64 r1, .string r2, .slice r3 r4 r5, .slice r6 r7 r8] 28) = W := ⟨_, rfl⟩
  have hk4 : Blk W4 Z 28 [.int .i64 r0, .int .i64 r1, .string r2, .slice r3 r4 r5, .slice r6 r7 r8] := by rw [← hW4, ← hZ]; exact heap_alloc_new w4 _
  have hb4a : Below w4.heap.size w4 W4 := by rw [← hW4]; exact (Below.refl _ w4).alloc (Nat.le_refl _) _
  have hb34 : Below w3.heap.size w3 W4 := hb4.trans (hb4a.mono hb4.size)
  have H4 := Lib.hid (And.intro (H3.out.1.later hb34) (And.intro (hy.later hb4a) (And.intro (H3.out.2.1.below hb34) (And.intro hk4 (And.intro (H3.out.2.2.trans (hb34.mono H3.out.2.2.size)) (And.intro hZ hW4))))))
  have hq : Blk (w4.alloc (.cells #[.int .i64 r0, .int .i64 r1, .string r2, .slice r3 r4 r5, .slice r6 r7 r8] 28)) P 28 [.int .i64 q0, .int .i64 q1, .string q2, .slice q3 q4 q5, .slice q6 q7 q8] := (H3.out.2.1.below hb4).alloc _
  have p0 := hq.cell 0
  have p1 := hq.cell 1
  have p2 := hq.cell 2
  have p3 := hq.cell 3
  have p4 := hq.cell 4
  clear hb4 hy hk4 hb4a hb34 hZ hW4 hq
  go_wp2_with fail
  (try rw [H4.out.2.2.2.2.2.2])
  (try rw [H4.out.2.2.2.2.2.1])
  clear p0 p1 p2 p3 p4
  refine (show Calls _ _ _ _ _ from vsame_any (ofL l) (ofL l) _ _ _ _ _ H4.out.1 H4.out.2.1).mono ?_
  rintro e w5 ⟨rfl, hb5⟩
  rw [same_refl]
  have H5 := Lib.hid (And.intro (H4.out.2.1.later hb5) (And.intro (H4.out.2.2.2.1.below hb5) (H4.out.2.2.2.2.1.trans (hb5.mono H4.out.2.2.2.2.1.size))))
  clear hb5
  have s0 := H5.out.2.1.cell 0
  have s1 := H5.out.2.1.cell 1
  have s2 := H5.out.2.1.cell 2
  have s3 := H5.out.2.1.cell 3
  have s4 := H5.out.2.1.cell 4
  go_wp2_with fail
  clear s0 s1 s2 s3 s4
  refine (show Calls _ _ _ _ _ from vvalid_any (ofL l) _ _ _ H5.out.1 (H.out.2.2.1.below H5.out.2.2).1.tabs (by have := keyL_of l; omega)).mono ?_
  rintro e w6 ⟨rfl, hb6⟩
  rw [of_valid]
  have H6 := Lib.hid (And.intro (H5.out.1.later hb6) (And.intro (H5.out.2.1.below hb6) (H5.out.2.2.trans (hb6.mono H5.out.2.2.size))))
  clear hb6
  have u0 := H6.out.2.1.cell 0
  have u1 := H6.out.2.1.cell 1
  have u2 := H6.out.2.1.cell 2
  have u3 := H6.out.2.1.cell 3
  have u4 := H6.out.2.1.cell 4
  go_wp2_with fail
  clear u0 u1 u2 u3 u4
  refine (show Calls _ _ _ _ _ from print_any (ofL l) _ _ _ H6.out.1 (H.out.2.2.1.below H6.out.2.2) (by have := print_size l; omega)).mono ?_
  rintro e w7 ⟨rfl, hb7⟩
  rw [HK.out]
  have H7 := Lib.hid (H6.out.2.2.trans (hb7.mono H6.out.2.2.size))
  clear hb7
  go_wp2
  go_ret
  exact ⟨by first | rfl | simp, H7.out⟩
end Go.Proofs.YtccnfnoonpfdfaaGreatDoor
