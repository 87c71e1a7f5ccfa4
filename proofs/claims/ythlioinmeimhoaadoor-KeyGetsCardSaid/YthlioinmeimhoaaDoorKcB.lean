/- The law's Cmp: two lists. -/
import Derived.Test.YthlioinmeimhoaaDoorKcA
namespace Go.Proofs.YthlioinmeimhoaaDoor
open Go.Shelf Go.RowKit Go.Lib

def CmpH (f : FuncId) (x : V) : Prop := ∀ (y : V) (S T : Nat → Prop) (w : World) (c d : List Value), VAt S w x c → VAt T w y d → CmpC f w (cmpO x y) c d

theorem cmps_drop (l m : List V) (i : Nat) (h1 : i < l.length) (h2 : i < m.length) : cmpsO (l.drop i) (m.drop i) = (cmpO l[i] m[i]).then (cmpsO (l.drop (i + 1)) (m.drop (i + 1))) := by
  rw [List.drop_eq_getElem_cons h1, List.drop_eq_getElem_cons h2, cmpsO]
theorem cmps_end (l m : List V) (i : Nat) (h0 : i ≤ l.length) (h3 : i ≤ m.length) (h : ¬ (i < l.length ∧ i < m.length)) : cmpsO (l.drop i) (m.drop i) = icmp l.length m.length := by
  rw [cmps_nil _ _ (by simp only [List.length_drop]; omega)]
  simp only [List.length_drop]
  unfold icmp
  by_cases h1 : l.length < m.length
  · rw [if_pos (by omega), if_pos (by omega)]
  · rw [if_neg (by omega)]
    by_cases h2 : m.length < l.length
    · rw [if_pos (by omega), if_neg (by omega), if_pos (by omega)]
    · rw [if_neg (by omega), if_neg (by omega), if_neg (by omega)]
theorem sgn_zero {o : Ordering} (h : sgnO o = 0) : o = .eq := by cases o <;> first | rfl | cases h

set_option maxHeartbeats 8000000 in
set_option maxRecDepth 100000 in
theorem lc_list (l m : List V) (cs ds : List Value) (b c cap cad : Nat) (S T : Nat → Prop) (w : World) (hV : VsAt S w l cs) (hr : ∀ k u, cs[k]? = some u → w.cell? ⟨b, k, none⟩ = some u) (hU : VsAt T w m ds) (hs : ∀ k u, ds[k]? = some u → w.cell? ⟨c, k, none⟩ = some u)
    (hln : l.length ≤ 9223372036854775807) (hmn : m.length ≤ 9223372036854775807) (ih : ∀ x ∈ l, CmpH 20 x) :
    CmpC 20 w (cmpsO l m) [.int .i64 4, .int .i64 0, .string ⟨#[]⟩, .slice (some ⟨b, 0, none⟩) l.length cap, .slice none 0 0] [.int .i64 4, .int .i64 0, .string ⟨#[]⟩, .slice (some ⟨c, 0, none⟩) m.length cad, .slice none 0 0] := by
  have HV := Lib.hid (And.intro hV (And.intro hr (And.intro hU (And.intro hs ih))))
  clear hV hr hU hs ih
  unfold CmpC
  obtain ⟨P, hP⟩ : ∃ P, w.heap.size = P := ⟨_, rfl⟩
  obtain ⟨N1, hN1⟩ : ∃ N, l.length = N := ⟨_, rfl⟩
  obtain ⟨N2, hN2⟩ : ∃ N, m.length = N := ⟨_, rfl⟩
  rw [hN1] at hln
  rw [hN2] at hmn
  rw [hN1, hN2]
  obtain ⟨W0, hW0⟩ : ∃ W0, (w.alloc (.cells #[.int .i64 4, .int .i64 0, .string ⟨#[]⟩, .slice (some ⟨b, 0, none⟩) N1 cap, .slice none 0 0] 28)).alloc (.cells #[.int .i64 4, .int .i64 0, .string ⟨#[]⟩, .slice (some ⟨c, 0, none⟩) N2 cad, .slice none 0 0] 28) = W0 := ⟨_, rfl⟩
  have hb0 : Below w.heap.size w W0 := by rw [← hW0]; exact ((Below.refl _ w).alloc (Nat.le_refl _) _).alloc (by simp) _
  have hk1 : Blk W0 P 28 [.int .i64 4, .int .i64 0, .string ⟨#[]⟩, .slice (some ⟨b, 0, none⟩) N1 cap, .slice none 0 0] := by
    rw [← hW0, ← hP]; exact Blk.alloc (g := w.heap.size) (heap_alloc_new w _) _
  have hk2 : Blk W0 (P + 1) 28 [.int .i64 4, .int .i64 0, .string ⟨#[]⟩, .slice (some ⟨c, 0, none⟩) N2 cad, .slice none 0 0] := by
    rw [← hW0, ← hP]; exact blk_new2 w _ _ _
  have H0 := Lib.hid (And.intro hW0 (And.intro hP (And.intro hb0 (And.intro hk1 (And.intro hk2 (And.intro hN1 hN2))))))
  clear hW0 hP hb0 hk1 hk2 hN1 hN2
  go_enter Tryd.func20, Tryd.ntmps20
  go_wp2_with fail
  rw [H0.out.1, H0.out.2.1]
  go_loopg [5] N1 (fun gk iv wr => ∃ (i : Nat), gk + i = N1 ∧ i ≤ N2 ∧ iv = .int .i64 i ∧ Hid (cmpsO l m = cmpsO (l.drop i) (m.drop i)) ∧ Hid (Below W0.heap.size W0 wr))
  case atStart => exact ⟨0, Nat.add_zero _, Nat.zero_le _, rfl, Lib.hid rfl, Lib.hid (Below.refl _ _)⟩
  case round =>
    obtain ⟨i, hg, hi2, rfl, HC, HB⟩ := hrel
    have HK1 := Lib.hid (H0.out.2.2.2.1.below HB.out)
    have HK2 := Lib.hid (H0.out.2.2.2.2.1.below HB.out)
    by_cases hi : i < N1 ∧ i < N2
    · have hi1 := hi.1
      have hi3 := hi.2
      have hiz : (i : Int) < (N1 : Int) := by omega
      have hiy : (i : Int) < (N2 : Int) := by omega
      have hwK : IntKind.i64.wrap ((i : Int) + 1) = ((i + 1 : Nat) : Int) := by rw [IntWalk.i64_in _ (by omega)]; omega
      have hx1 : i < l.length := by rw [H0.out.2.2.2.2.2.1]; exact hi1
      have hx2 : i < m.length := by rw [H0.out.2.2.2.2.2.2]; exact hi3
      obtain ⟨d0, d1, d2, d3, d4, hx, e0, e1, e2, e3, e4⟩ := HV.out.1.get i hx1
      obtain ⟨q0, q1, q2, q3, q4, q5, q6, q7, q8, hq⟩ := hx.shape
      simp only [List.cons.injEq, and_true] at hq
      obtain ⟨rfl, rfl, rfl, rfl, rfl⟩ := hq
      obtain ⟨d0, d1, d2, d3, d4, hy, f0, f1, f2, f3, f4⟩ := HV.out.2.2.1.get i hx2
      obtain ⟨r0, r1, r2, r3, r4, r5, r6, r7, r8, hq⟩ := hy.shape
      simp only [List.cons.injEq, and_true] at hq
      obtain ⟨rfl, rfl, rfl, rfl, rfl⟩ := hq
      have hbw : Below w.heap.size w wr := H0.out.2.2.1.trans (HB.out.mono H0.out.2.2.1.size)
      have HX := Lib.hid (And.intro (VAt.later (hx.later hbw) ((Below.refl _ wr).drew)) (VAt.later (hy.later hbw) ((Below.refl _ wr).drew)))
      have v3 := HK1.out.cell 3
      have v4 := HK2.out.cell 3
      have HF := Lib.hid (And.intro hbw (And.intro (HV.out.2.1 _ _ e0) (And.intro (HV.out.2.1 _ _ e1) (And.intro (HV.out.2.1 _ _ e2) (And.intro (HV.out.2.1 _ _ e3) (And.intro (HV.out.2.1 _ _ e4) (And.intro (HV.out.2.2.2.1 _ _ f0) (And.intro (HV.out.2.2.2.1 _ _ f1) (And.intro (HV.out.2.2.2.1 _ _ f2) (And.intro (HV.out.2.2.2.1 _ _ f3) (HV.out.2.2.2.1 _ _ f4)))))))))))
      obtain ⟨r, hre⟩ : ∃ r, cmpO l[i] m[i] = r := ⟨_, rfl⟩
      have hnext := cmps_drop l m i hx1 hx2
      rw [hre] at hnext
      have hih := HV.out.2.2.2.2 l[i] (List.getElem_mem hx1) m[i] S T wr.drew _ _ HX.out.1 HX.out.2
      rw [hre] at hih
      have HI := Lib.hid hih
      have HN := Lib.hid (HC.out.trans hnext)
      clear hx hy e0 e1 e2 e3 e4 f0 f1 f2 f3 f4 hre hnext hih hbw hi
      go_wp2_with fail
      clear v3 v4
      have k0 : wr.drew.cell? _ = _ := bcell HF.out.1 HF.out.2.1
      have k1 : wr.drew.cell? _ = _ := bcell HF.out.1 HF.out.2.2.1
      have k2 : wr.drew.cell? _ = _ := bcell HF.out.1 HF.out.2.2.2.1
      have k3 : wr.drew.cell? _ = _ := bcell HF.out.1 HF.out.2.2.2.2.1
      have k4 : wr.drew.cell? _ = _ := bcell HF.out.1 HF.out.2.2.2.2.2.1
      have j0 : wr.drew.cell? _ = _ := bcell HF.out.1 HF.out.2.2.2.2.2.2.1
      have j1 : wr.drew.cell? _ = _ := bcell HF.out.1 HF.out.2.2.2.2.2.2.2.1
      have j2 : wr.drew.cell? _ = _ := bcell HF.out.1 HF.out.2.2.2.2.2.2.2.2.1
      have j3 : wr.drew.cell? _ = _ := bcell HF.out.1 HF.out.2.2.2.2.2.2.2.2.2.1
      have j4 : wr.drew.cell? _ = _ := bcell HF.out.1 HF.out.2.2.2.2.2.2.2.2.2.2
      have b3 : wr.drew.cell? _ = _ := HK1.out.cell 3
      have g3 : wr.drew.cell? _ = _ := HK2.out.cell 3
      go_region_held3 (fun w' => w'.cell? ⟨P, 3, none⟩ = some (.slice (some ⟨b, 0, none⟩) N1 cap) ∧ w'.cell? ⟨P + 1, 3, none⟩ = some (.slice (some ⟨c, 0, none⟩) N2 cad) ∧ w'.cell? ⟨b, i * 5, none⟩ = some (.int .i64 q0) ∧ w'.cell? ⟨b, i * 5 + 1, none⟩ = some (.int .i64 q1) ∧ w'.cell? ⟨b, i * 5 + 2, none⟩ = some (.string q2) ∧ w'.cell? ⟨b, i * 5 + 3, none⟩ = some (.slice q3 q4 q5) ∧ w'.cell? ⟨b, i * 5 + 4, none⟩ = some (.slice q6 q7 q8) ∧ w'.cell? ⟨c, i * 5, none⟩ = some (.int .i64 r0) ∧ w'.cell? ⟨c, i * 5 + 1, none⟩ = some (.int .i64 r1) ∧ w'.cell? ⟨c, i * 5 + 2, none⟩ = some (.string r2) ∧ w'.cell? ⟨c, i * 5 + 3, none⟩ = some (.slice r3 r4 r5) ∧ w'.cell? ⟨c, i * 5 + 4, none⟩ = some (.slice r6 r7 r8))
        (first | exact ⟨b3, g3, k0, k1, k2, k3, k4, j0, j1, j2, j3, j4⟩ | exact ⟨pb, pg, p0, p1, p2, p3, p4, s0, s1, s2, s3, s4⟩)
        (first
          | (go_at_call 20; refine (show Calls _ _ _ _ _ from HI.out).mono ?_; rintro e w4 ⟨rfl, hb4⟩; have HB4 := Lib.hid ((HB.out.drew).trans (hb4.mono HB.out.size)); have pb := bcell hb4 b3; have pg := bcell hb4 g3; have p0 := bcell hb4 k0; have s0 := bcell hb4 j0; have p1 := bcell hb4 k1; have s1 := bcell hb4 j1; have p2 := bcell hb4 k2; have s2 := bcell hb4 j2; have p3 := bcell hb4 k3; have s3 := bcell hb4 j3; have p4 := bcell hb4 k4; have s4 := bcell hb4 j4; clear hb4))
      clear pb pg p0 p1 p2 p3 p4 s0 s1 s2 s3 s4 b3 g3 k0 k1 k2 k3 k4 j0 j1 j2 j3 j4
      obtain ⟨z, hz⟩ : ∃ z, sgnO r = z := ⟨_, rfl⟩
      rw [hz]
      by_cases hz0 : z = 0
      · have hre : r = .eq := sgn_zero (hz.trans hz0)
        have HE := Lib.hid (show cmpsO l m = cmpsO (l.drop (i + 1)) (m.drop (i + 1)) by rw [HN.out, hre]; rfl)
        subst hz0
        clear hz hre
        go_wp2
        go_roundg (gk - 1)
        case rel => exact ⟨i + 1, by omega, by omega, rfl, HE, HB4⟩
        case measure => omega
      · have HE := Lib.hid (show sgnO (cmpsO l m) = z by
          rw [HN.out, ← hz]
          cases r with
          | eq => exact absurd hz.symm hz0
          | lt => rfl
          | gt => rfl)
        clear hz
        go_wp2
        go_ret
        exact ⟨by rw [HE.out]; try rfl, H0.out.2.2.1.trans (HB4.out.mono H0.out.2.2.1.size)⟩
    · have HE := Lib.hid (show cmpsO l m = icmp N1 N2 by
        rw [HC.out, cmps_end l m i (by rw [H0.out.2.2.2.2.2.1]; omega) (by rw [H0.out.2.2.2.2.2.2]; omega) (by rw [H0.out.2.2.2.2.2.1, H0.out.2.2.2.2.2.2]; exact hi), H0.out.2.2.2.2.2.1, H0.out.2.2.2.2.2.2])
      have v3 := HK1.out.cell 3
      have v4 := HK2.out.cell 3
      have hfin : Below w.heap.size w wr := H0.out.2.2.1.trans (HB.out.mono H0.out.2.2.1.size)
      have HFin := Lib.hid hfin
      clear hfin
      by_cases hi1 : i < N1
      · have hi2' : ¬ i < N2 := by omega
        have hiz : (i : Int) < (N1 : Int) := by omega
        have hiy : ¬ (i : Int) < (N2 : Int) := by omega
        clear hi
        go_wp2_with fail
        refine (sign_any _ _ _).mono ?_
        rintro e w2 ⟨rfl, rfl⟩
        go_wp2
        go_ret
        exact ⟨by rw [HE.out]; try rfl, HFin.out⟩
      · have hiz : ¬ (i : Int) < (N1 : Int) := by omega
        clear hi
        go_wp2_with fail
        refine (sign_any _ _ _).mono ?_
        rintro e w2 ⟨rfl, rfl⟩
        go_wp2
        go_ret
        exact ⟨by rw [HE.out]; try rfl, HFin.out⟩
end Go.Proofs.YthlioinmeimhoaaDoor
