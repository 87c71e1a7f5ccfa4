/- KeyPuts: the law's walk. -/
import Derived.Test.YthlioinmeimhoaaDoorGD
namespace Go.Proofs.YthlioinmeimhoaaDoor
open Go.Shelf Go.RowKit Go.Lib

/-- a value's five cells in a block. -/
theorem VAt.box {S : Nat → Prop} {w : World} {v : V} {c : List Value} (h : VAt S w v c) : ∃ q0 q1 q2 q3 q4 q5 q6 q7 q8, c = [.int .i64 q0, .int .i64 q1, .string q2, .slice q3 q4 q5, .slice q6 q7 q8] := h.shape
theorem VNew.up {w0 w w2 : World} {v : V} {c : List Value} (h : VNew w0 w v c) (hb : Below w.heap.size w w2) : VNew w0 w2 v c := h.later hb

set_option maxHeartbeats 8000000 in
set_option maxRecDepth 100000 in
theorem kputs_law (nb : Nat) (w : World) (sv : Value) (l : BL) (hnb : nb ≤ w.heap.size) (h : BRead nb w sv l) (hT : Tabs w) (hM : ML w) (hW : Words w) :
    Calls Tryd.prog 3 #[sv] w fun e w' => e = .returned (.bool true) ∧ Below w.heap.size w w' := by
  have H := Lib.hid (And.intro hnb (And.intro h (And.intro hT (And.intro hM hW))))
  clear hnb h hT hM hW
  go_enter Tryd.func3, Tryd.ntmps3
  go_wp2_with fail
  refine (kawake_any _ H.out.2.2.1).mono ?_
  rintro e w1 ⟨rfl, hb1⟩
  have H1 := Lib.hid hb1
  clear hb1
  go_wp2_with fail
  refine (of_any nb w1 sv l (Nat.le_trans H.out.1 H1.out.size) (H.out.2.1.later (H1.out.mono H.out.1)) (H.out.2.2.2.2.later H1.out)).mono ?_
  rintro e w2 ⟨c, rfl, hx, hb2⟩
  obtain ⟨q0, q1, q2, q3, q4, q5, q6, q7, q8, rfl⟩ := hx.shape
  obtain ⟨W3, hW3⟩ : ∃ W3, w2.alloc (.cells #[.int .i64 q0, .int .i64 q1, .string q2, .slice q3 q4 q5, .slice q6 q7 q8] 28) = W3 := ⟨_, rfl⟩
  have hb3 : Below w2.heap.size w2 W3 := by rw [← hW3]; exact (Below.refl _ w2).alloc (Nat.le_refl _) _
  have hk3 : Blk W3 w2.heap.size 28 [.int .i64 q0, .int .i64 q1, .string q2, .slice q3 q4 q5, .slice q6 q7 q8] := by rw [← hW3]; exact heap_alloc_new w2 _
  have hbw : Below w.heap.size w W3.drew := ((H1.out.trans (hb2.mono H1.out.size)).trans (hb3.mono (by have := H1.out.size; have := hb2.size; omega))).drew
  have hx3 : VAt _ W3.drew (ofL l) _ := (hx.later hb3).later ((Below.refl _ W3).drew)
  obtain ⟨K, hK⟩ : ∃ K, BA (keyL (ofL l)) = K := ⟨_, rfl⟩
  have hlen := keyL_of l
  have HX := Lib.hid (And.intro hx3 (And.intro hbw (And.intro (H.out.2.2.2.1.later hbw) (And.intro hlen (And.intro hK hk3)))))
  obtain ⟨P, hP⟩ : ∃ P, w2.heap.size = P := ⟨_, rfl⟩
  rw [hP] at HX hk3
  clear hx hb2 hb3 hbw hx3 hlen hK
  go_wp2_with fail
  (try rw [hW3]); (try rw [hP])
  clear hW3 hP
  have d0 : W3.drew.cell? ⟨P, 0, none⟩ = some (.int .i64 q0) := hk3.cell 0
  have d1 : W3.drew.cell? ⟨P, 1, none⟩ = some (.int .i64 q1) := hk3.cell 1
  have d2 : W3.drew.cell? ⟨P, 2, none⟩ = some (.string q2) := hk3.cell 2
  have d3 : W3.drew.cell? ⟨P, 3, none⟩ = some (.slice q3 q4 q5) := hk3.cell 3
  have d4 : W3.drew.cell? ⟨P, 4, none⟩ = some (.slice q6 q7 q8) := hk3.cell 4
  clear hk3
  have hKK : (K.toList == K.toList) = true := by simp
  go_region_held3 (fun w' => w'.cell? ⟨P, 0, none⟩ = some (.int .i64 q0) ∧ w'.cell? ⟨P, 1, none⟩ = some (.int .i64 q1) ∧ w'.cell? ⟨P, 2, none⟩ = some (.string q2) ∧ w'.cell? ⟨P, 3, none⟩ = some (.slice q3 q4 q5) ∧ w'.cell? ⟨P, 4, none⟩ = some (.slice q6 q7 q8))
    (first | exact ⟨d0, d1, d2, d3, d4⟩ | exact ⟨p0, p1, p2, p3, p4⟩ | exact ⟨r0, r1, r2, r3, r4⟩)
    (first
      | (go_at_call 17; refine (show Calls _ _ _ _ _ from kput_v (ofL l) _ _ _ HX.out.1 HX.out.2.2.1 (by have := HX.out.2.2.2.1; omega)).mono ?_; rintro e w4 ⟨rfl, hb4⟩; have HW4 := Lib.hid (HX.out.2.1.trans (hb4.mono HX.out.2.1.size)); have HX4 := Lib.hid (And.intro (VAt.later HX.out.1 hb4) (ML.later HX.out.2.2.1 hb4)); have p0 := bcell hb4 d0; have p1 := bcell hb4 d1; have p2 := bcell hb4 d2; have p3 := bcell hb4 d3; have p4 := bcell hb4 d4; clear hb4; rw [HX.out.2.2.2.2.1])
      | (go_at_call 18; refine (show Calls _ _ _ _ _ from lput_v (ofL l) _ _ _ HX4.out.1 HX4.out.2 (by have := HX.out.2.2.2.1; omega)).mono ?_; rintro e w5 ⟨rfl, hb5⟩; have HW5 := Lib.hid (HW4.out.trans (hb5.mono HW4.out.size)); have r0 := bcell hb5 p0; have r1 := bcell hb5 p1; have r2 := bcell hb5 p2; have r3 := bcell hb5 p3; have r4 := bcell hb5 p4; clear hb5; rw [HX.out.2.2.2.2.1]))
  all_goals
    go_wp2
    go_ret
    exact ⟨by simp, HW5.out⟩
end Go.Proofs.YthlioinmeimhoaaDoor
