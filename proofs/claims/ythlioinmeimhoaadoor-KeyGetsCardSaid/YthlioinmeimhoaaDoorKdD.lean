/- The program's own comparing of values: two objects. -/
import Derived.Test.YthlioinmeimhoaaDoorKdC
namespace Go.Proofs.YthlioinmeimhoaaDoor
open Go.Shelf Go.RowKit Go.Lib

set_option maxHeartbeats 8000000 in
set_option maxRecDepth 100000 in
theorem cf_obj (l m : List (BL × V)) (cs ds : List Value) (p q : Option Addr) (cap cad : Nat) (S T : Nat → Prop) (w : World) (hV : FsAt S w l cs) (hr : 0 < l.length → ∃ b, p = some ⟨b, 0, none⟩ ∧ ∀ k u, cs[k]? = some u → w.cell? ⟨b, k, none⟩ = some u)
    (hU : FsAt T w m ds) (hs : 0 < m.length → ∃ b, q = some ⟨b, 0, none⟩ ∧ ∀ k u, ds[k]? = some u → w.cell? ⟨b, k, none⟩ = some u)
    (hln : l.length ≤ 9223372036854775807) (hmn : m.length ≤ 9223372036854775807) (ih : ∀ x ∈ l, CmpH 45 x.2) :
    Calls Tryd.prog 71 #[.slice p l.length cap, .slice q m.length cad, .func (.func 72) #[] #[]] w fun e w' => e = .returned (.int .i64 (sgnO (cmpfsO l m))) ∧ Below w.heap.size w w' := by
  have HV := Lib.hid (And.intro hV (And.intro hr (And.intro hU (And.intro hs ih))))
  clear hV hr hU hs ih
  obtain ⟨N1, hN1⟩ : ∃ N, l.length = N := ⟨_, rfl⟩
  obtain ⟨N2, hN2⟩ : ∃ N, m.length = N := ⟨_, rfl⟩
  rw [hN1] at hln
  rw [hN2] at hmn
  rw [hN1, hN2]
  have H0 := Lib.hid (And.intro hN1 hN2)
  clear hN1 hN2
  go_enter Tryd.func71, Tryd.ntmps71
  go_wp2_with fail
  go_loopg [13] N1 (fun gk iv wr => ∃ (i : Nat), gk + i = N1 ∧ i ≤ N2 ∧ iv = .int .i64 i ∧ Hid (cmpfsO l m = cmpfsO (l.drop i) (m.drop i)) ∧ Hid (Below w.heap.size w wr))
  case atStart => exact ⟨0, Nat.add_zero _, Nat.zero_le _, rfl, Lib.hid rfl, Lib.hid (Below.refl _ _)⟩
  case round =>
    obtain ⟨i, hg, hi2, rfl, HC, HB⟩ := hrel
    by_cases hi1 : i < N1
    · have hiz : (i : Int) < (N1 : Int) := by omega
      have hwK : IntKind.i64.wrap ((i : Int) + 1) = ((i + 1 : Nat) : Int) := by rw [IntWalk.i64_in _ (by omega)]; omega
      have hx1 : i < l.length := by rw [H0.out.1]; exact hi1
      obtain ⟨b, hpe, hrb⟩ := HV.out.2.1 (by omega)
      subst hpe
      obtain ⟨d0, d1, d2, d3, d4, hx, e5, e0, e1, e2, e3, e4⟩ := HV.out.1.get i hx1
      obtain ⟨q0, q1, q2, q3, q4, q5, q6, q7, q8, hq⟩ := hx.shape
      simp only [List.cons.injEq, and_true] at hq
      obtain ⟨rfl, rfl, rfl, rfl, rfl⟩ := hq
      obtain ⟨nx, hnx⟩ : ∃ n, l[i].1 = n := ⟨_, rfl⟩
      obtain ⟨NX, hNX⟩ : ∃ n, BA nx = n := ⟨_, rfl⟩
      rw [hnx, hNX] at e5
      have a5 := bcell HB.out (hrb _ _ e5)
      have a0 := bcell HB.out (hrb _ _ e0)
      have a1 := bcell HB.out (hrb _ _ e1)
      have a2 := bcell HB.out (hrb _ _ e2)
      have a3 := bcell HB.out (hrb _ _ e3)
      have a4 := bcell HB.out (hrb _ _ e4)
      by_cases hi3 : i < N2
      · have hiy : ¬ (N2 : Int) ≤ (i : Int) := by omega
        have hiw : (i : Int) < (N2 : Int) := by omega
        have hx2 : i < m.length := by rw [H0.out.2]; exact hi3
        obtain ⟨c, hqe, hsb⟩ := HV.out.2.2.2.1 (by omega)
        subst hqe
        obtain ⟨d0, d1, d2, d3, d4, hy, f5, f0, f1, f2, f3, f4⟩ := HV.out.2.2.1.get i hx2
        obtain ⟨r0, r1, r2, r3, r4, r5, r6, r7, r8, hq⟩ := hy.shape
        simp only [List.cons.injEq, and_true] at hq
        obtain ⟨rfl, rfl, rfl, rfl, rfl⟩ := hq
        obtain ⟨ny, hny⟩ : ∃ n, m[i].1 = n := ⟨_, rfl⟩
        obtain ⟨NY, hNY⟩ : ∃ n, BA ny = n := ⟨_, rfl⟩
        rw [hny, hNY] at f5
        obtain ⟨W3, hW3⟩ : ∃ W, wr.alloc (.cells #[.string NX, .int .i64 q0, .int .i64 q1, .string q2, .slice q3 q4 q5, .slice q6 q7 q8] 72) = W := ⟨_, rfl⟩
        have hb13 : Below wr.heap.size wr W3 := by rw [← hW3]; exact (Below.refl _ wr).alloc (Nat.le_refl _) _
        obtain ⟨W4, hW4⟩ : ∃ W, W3.alloc (.cells #[.string NY, .int .i64 r0, .int .i64 r1, .string r2, .slice r3 r4 r5, .slice r6 r7 r8] 72) = W := ⟨_, rfl⟩
        have hb14 : Below wr.heap.size wr W4 := by rw [← hW4]; exact hb13.alloc hb13.size _
        have g5 := bcell (HB.out.trans (hb13.mono HB.out.size)) (hsb _ _ f5)
        have g0 := bcell (HB.out.trans (hb13.mono HB.out.size)) (hsb _ _ f0)
        have g1 := bcell (HB.out.trans (hb13.mono HB.out.size)) (hsb _ _ f1)
        have g2 := bcell (HB.out.trans (hb13.mono HB.out.size)) (hsb _ _ f2)
        have g3 := bcell (HB.out.trans (hb13.mono HB.out.size)) (hsb _ _ f3)
        have g4 := bcell (HB.out.trans (hb13.mono HB.out.size)) (hsb _ _ f4)
        rw [← hW3] at g5 g0 g1 g2 g3 g4
        have hbw4 : Below w.heap.size w W4 := HB.out.trans (hb14.mono HB.out.size)
        have hnext := cmpfs_drop l m i hx1 hx2
        obtain ⟨u, hue⟩ : ∃ u, cmpO l[i].2 m[i].2 = u := ⟨_, rfl⟩
        rw [cmpfO_eq, hue, hnx, hny] at hnext
        have hih0 := fun (W : World) (hb : Below W4.heap.size W4 W) => HV.out.2.2.2.2 l[i] (List.getElem_mem hx1) m[i].2 S T W _ _ (hx.later (hbw4.trans (hb.mono hbw4.size))) (hy.later (hbw4.trans (hb.mono hbw4.size)))
        rw [hue] at hih0
        have hih := byf_any NX NY nx ny hNX hNY _ _ _ _ _ _ _ _ _ _ _ _ _ _ _ _ _ _ u W4 hih0
        obtain ⟨r, hre⟩ : ∃ r, (lcmp nx ny).then u = r := ⟨_, rfl⟩
        rw [hre] at hnext hih
        clear hih0 hue hnx hny hNX hNY
        have HX := Lib.hid (And.intro hih (And.intro hbw4 (And.intro hW3 hW4)))
        have HN := Lib.hid (HC.out.trans hnext)
        clear hx hy e5 e0 e1 e2 e3 e4 f5 f0 f1 f2 f3 f4 hre hnext hih hb13 hb14 hbw4 hrb hsb hW3 hW4
        go_wp2_with fail
        rw [HX.out.2.2.1, HX.out.2.2.2]
        refine (show Calls _ _ _ _ _ from HX.out.1).mono ?_
        rintro e w4 ⟨rfl, hb4⟩
        have HB4 := Lib.hid (HX.out.2.1.trans (hb4.mono HX.out.2.1.size))
        clear hb4 a5 a0 a1 a2 a3 a4 g5 g0 g1 g2 g3 g4
        obtain ⟨z, hz⟩ : ∃ z, sgnO r = z := ⟨_, rfl⟩
        rw [hz]
        by_cases hz0 : z = 0
        · have hre : r = .eq := sgn_zero (hz.trans hz0)
          have HE := Lib.hid (show cmpfsO l m = cmpfsO (l.drop (i + 1)) (m.drop (i + 1)) by rw [HN.out, hre]; rfl)
          subst hz0
          clear hz hre
          go_wp2
          go_roundg (gk - 1)
          case rel => exact ⟨i + 1, by omega, by omega, rfl, HE, HB4⟩
          case measure => omega
        · have HE := Lib.hid (show sgnO (cmpfsO l m) = z by
            rw [HN.out, ← hz]
            cases r with
            | eq => exact absurd hz.symm hz0
            | lt => rfl
            | gt => rfl)
          clear hz
          go_wp2
          go_ret
          exact ⟨by rw [HE.out]; try rfl, HB4.out⟩
      · have hiy : (N2 : Int) ≤ (i : Int) := by omega
        have HE := Lib.hid (show sgnO (cmpfsO l m) = 1 by
          rw [HC.out, cmpfs_end l m i (by rw [H0.out.1]; omega) (by rw [H0.out.2]; omega) (by rw [H0.out.1, H0.out.2]; omega), H0.out.1, H0.out.2]
          unfold icmp
          rw [if_neg (by omega), if_pos (by omega)]; rfl)
        have HB4 := Lib.hid (HB.out.alloc (o := .cells #[.string NX, .int .i64 q0, .int .i64 q1, .string q2, .slice q3 q4 q5, .slice q6 q7 q8] 72) HB.out.size)
        clear hx e5 e0 e1 e2 e3 e4 hrb hnx hNX
        go_wp2
        go_ret
        exact ⟨by rw [HE.out]; try rfl, HB4.out⟩
    · have hiz : ¬ (i : Int) < (N1 : Int) := by omega
      have hE := cmpfs_end l m i (by rw [H0.out.1]; omega) (by rw [H0.out.2]; omega) (by rw [H0.out.1, H0.out.2]; omega)
      rw [← HC.out, H0.out.1, H0.out.2] at hE
      by_cases hi3 : N1 < N2
      · have hiy : (N1 : Int) < (N2 : Int) := by omega
        have HE := Lib.hid (show sgnO (cmpfsO l m) = -1 by
          rw [hE]
          unfold icmp
          rw [if_pos (by omega)]; rfl)
        clear hE
        go_wp2
        go_ret
        exact ⟨by rw [HE.out]; try rfl, HB.out⟩
      · have hiy : ¬ (N1 : Int) < (N2 : Int) := by omega
        have HE := Lib.hid (show sgnO (cmpfsO l m) = 0 by
          rw [hE]
          unfold icmp
          rw [if_neg (by omega), if_neg (by omega)]; rfl)
        clear hE
        go_wp2
        go_ret
        exact ⟨by rw [HE.out]; try rfl, HB.out⟩
end Go.Proofs.YthlioinmeimhoaaDoor
