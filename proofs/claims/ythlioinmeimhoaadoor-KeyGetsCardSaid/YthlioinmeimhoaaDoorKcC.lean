/- The law's Cmp: two objects; any two values. -/
import Derived.Test.YthlioinmeimhoaaDoorKcB
namespace Go.Proofs.YthlioinmeimhoaaDoor
open Go.Shelf Go.RowKit Go.Lib

theorem cmpfO_eq (f g : BL × V) : cmpfO f g = (lcmp f.1 g.1).then (cmpO f.2 g.2) := by
  obtain ⟨n, x⟩ := f
  obtain ⟨k, y⟩ := g
  rw [cmpfO]
theorem cmpfs_drop (l m : List (BL × V)) (i : Nat) (h1 : i < l.length) (h2 : i < m.length) : cmpfsO (l.drop i) (m.drop i) = (cmpfO l[i] m[i]).then (cmpfsO (l.drop (i + 1)) (m.drop (i + 1))) := by
  rw [List.drop_eq_getElem_cons h1, List.drop_eq_getElem_cons h2, cmpfsO]
theorem cmpfs_end (l m : List (BL × V)) (i : Nat) (h0 : i ≤ l.length) (h3 : i ≤ m.length) (h : ¬ (i < l.length ∧ i < m.length)) : cmpfsO (l.drop i) (m.drop i) = icmp l.length m.length := by
  rw [cmpfs_nil _ _ (by simp only [List.length_drop]; omega)]
  simp only [List.length_drop]
  unfold icmp
  by_cases h1 : l.length < m.length
  · rw [if_pos (by omega), if_pos (by omega)]
  · rw [if_neg (by omega)]
    by_cases h2 : m.length < l.length
    · rw [if_pos (by omega), if_neg (by omega), if_pos (by omega)]
    · rw [if_neg (by omega), if_neg (by omega), if_neg (by omega)]
theorem texts_bel (X Y : ByteArray) (w : World) : Calls Tryd.prog 19 #[.string X, .string Y] w fun e w' => e = .returned (.int .i64 (sgnO (lcmp X.toList Y.toList))) ∧ Below w.heap.size w w' :=
  (texts_any X Y w).mono fun e w' h => ⟨h.1, by rw [← h.2]; exact Below.refl _ _⟩

set_option maxHeartbeats 8000000 in
set_option maxRecDepth 100000 in
theorem lc_obj (l m : List (BL × V)) (cs ds : List Value) (b c cap cad : Nat) (S T : Nat → Prop) (w : World) (hV : FsAt S w l cs) (hr : ∀ k u, cs[k]? = some u → w.cell? ⟨b, k, none⟩ = some u) (hU : FsAt T w m ds) (hs : ∀ k u, ds[k]? = some u → w.cell? ⟨c, k, none⟩ = some u)
    (hln : l.length ≤ 9223372036854775807) (hmn : m.length ≤ 9223372036854775807) (ih : ∀ x ∈ l, CmpH 20 x.2) :
    CmpC 20 w (cmpfsO l m) [.int .i64 5, .int .i64 0, .string ⟨#[]⟩, .slice none 0 0, .slice (some ⟨b, 0, none⟩) l.length cap] [.int .i64 5, .int .i64 0, .string ⟨#[]⟩, .slice none 0 0, .slice (some ⟨c, 0, none⟩) m.length cad] := by
  have HV := Lib.hid (And.intro hV (And.intro hr (And.intro hU (And.intro hs ih))))
  clear hV hr hU hs ih
  unfold CmpC
  obtain ⟨P, hP⟩ : ∃ P, w.heap.size = P := ⟨_, rfl⟩
  obtain ⟨N1, hN1⟩ : ∃ N, l.length = N := ⟨_, rfl⟩
  obtain ⟨N2, hN2⟩ : ∃ N, m.length = N := ⟨_, rfl⟩
  rw [hN1] at hln
  rw [hN2] at hmn
  rw [hN1, hN2]
  obtain ⟨W0, hW0⟩ : ∃ W0, (w.alloc (.cells #[.int .i64 5, .int .i64 0, .string ⟨#[]⟩, .slice none 0 0, .slice (some ⟨b, 0, none⟩) N1 cap] 28)).alloc (.cells #[.int .i64 5, .int .i64 0, .string ⟨#[]⟩, .slice none 0 0, .slice (some ⟨c, 0, none⟩) N2 cad] 28) = W0 := ⟨_, rfl⟩
  have hb0 : Below w.heap.size w W0 := by rw [← hW0]; exact ((Below.refl _ w).alloc (Nat.le_refl _) _).alloc (by simp) _
  have hk1 : Blk W0 P 28 [.int .i64 5, .int .i64 0, .string ⟨#[]⟩, .slice none 0 0, .slice (some ⟨b, 0, none⟩) N1 cap] := by
    rw [← hW0, ← hP]; exact Blk.alloc (g := w.heap.size) (heap_alloc_new w _) _
  have hk2 : Blk W0 (P + 1) 28 [.int .i64 5, .int .i64 0, .string ⟨#[]⟩, .slice none 0 0, .slice (some ⟨c, 0, none⟩) N2 cad] := by
    rw [← hW0, ← hP]; exact blk_new2 w _ _ _
  have H0 := Lib.hid (And.intro hW0 (And.intro hP (And.intro hb0 (And.intro hk1 (And.intro hk2 (And.intro hN1 hN2))))))
  clear hW0 hP hb0 hk1 hk2 hN1 hN2
  go_enter Tryd.func20, Tryd.ntmps20
  go_wp2_with fail
  rw [H0.out.1, H0.out.2.1]
  go_loopg [7] N1 (fun gk iv wr => ∃ (i : Nat), gk + i = N1 ∧ i ≤ N2 ∧ iv = .int .i64 i ∧ Hid (cmpfsO l m = cmpfsO (l.drop i) (m.drop i)) ∧ Hid (Below W0.heap.size W0 wr))
  case atStart => exact ⟨0, Nat.add_zero _, Nat.zero_le _, rfl, Lib.hid rfl, Lib.hid (Below.refl _ _)⟩
  case round =>
    obtain ⟨i, hg, hi2, rfl, HC, HB⟩ := hrel
    have HK1 := Lib.hid (H0.out.2.2.2.1.below HB.out)
    have HK2 := Lib.hid (H0.out.2.2.2.2.1.below HB.out)
    by_cases hi : i < N1 ∧ i < N2
    · have hi1 := hi.1
      have hi3 := hi.2
      have hiz : (i : Int) < (N1 : Int) := by omega
      have hiy : (i : Int) < (N2 : Int) := by omega
      have hwK : IntKind.i64.wrap ((i : Int) + 1) = ((i + 1 : Nat) : Int) := by rw [IntWalk.i64_in _ (by omega)]; omega
      have hx1 : i < l.length := by rw [H0.out.2.2.2.2.2.1]; exact hi1
      have hx2 : i < m.length := by rw [H0.out.2.2.2.2.2.2]; exact hi3
      obtain ⟨d0, d1, d2, d3, d4, hx, e5, e0, e1, e2, e3, e4⟩ := HV.out.1.get i hx1
      obtain ⟨q0, q1, q2, q3, q4, q5, q6, q7, q8, hq⟩ := hx.shape
      simp only [List.cons.injEq, and_true] at hq
      obtain ⟨rfl, rfl, rfl, rfl, rfl⟩ := hq
      obtain ⟨d0, d1, d2, d3, d4, hy, f5, f0, f1, f2, f3, f4⟩ := HV.out.2.2.1.get i hx2
      obtain ⟨r0, r1, r2, r3, r4, r5, r6, r7, r8, hq⟩ := hy.shape
      simp only [List.cons.injEq, and_true] at hq
      obtain ⟨rfl, rfl, rfl, rfl, rfl⟩ := hq
      have hbw : Below w.heap.size w wr := H0.out.2.2.1.trans (HB.out.mono H0.out.2.2.1.size)
      obtain ⟨nx, hnx⟩ : ∃ n, l[i].1 = n := ⟨_, rfl⟩
      obtain ⟨ny, hny⟩ : ∃ n, m[i].1 = n := ⟨_, rfl⟩
      obtain ⟨NX, hNX⟩ : ∃ n, BA nx = n := ⟨_, rfl⟩
      obtain ⟨NY, hNY⟩ : ∃ n, BA ny = n := ⟨_, rfl⟩
      rw [hnx, hNX] at e5
      rw [hny, hNY] at f5
      have HX := Lib.hid (And.intro (hx.later hbw) (hy.later hbw))
      have v3 := HK1.out.cell 4
      have v4 := HK2.out.cell 4
      have HF := Lib.hid (And.intro hbw (And.intro (HV.out.2.1 _ _ e0) (And.intro (HV.out.2.1 _ _ e1) (And.intro (HV.out.2.1 _ _ e2) (And.intro (HV.out.2.1 _ _ e3) (And.intro (HV.out.2.1 _ _ e4) (And.intro (HV.out.2.2.2.1 _ _ f0) (And.intro (HV.out.2.2.2.1 _ _ f1) (And.intro (HV.out.2.2.2.1 _ _ f2) (And.intro (HV.out.2.2.2.1 _ _ f3) (And.intro (HV.out.2.2.2.1 _ _ f4) (And.intro (HV.out.2.1 _ _ e5) (HV.out.2.2.2.1 _ _ f5)))))))))))))
      obtain ⟨r, hre⟩ : ∃ r, cmpO l[i].2 m[i].2 = r := ⟨_, rfl⟩
      have hnext := cmpfs_drop l m i hx1 hx2
      rw [cmpfO_eq, hre, hnx, hny, show lcmp nx ny = lcmp NX.toList NY.toList by rw [← hNX, ← hNY, ba_tl, ba_tl]] at hnext
      obtain ⟨r9, hr9⟩ : ∃ r, lcmp NX.toList NY.toList = r := ⟨_, rfl⟩
      rw [hr9] at hnext
      have hih := fun (W : World) (hb : Below wr.heap.size wr W) => HV.out.2.2.2.2 l[i] (List.getElem_mem hx1) m[i].2 S T W _ _ (HX.out.1.later hb) (HX.out.2.later hb)
      rw [hre] at hih
      have HI := Lib.hid hih
      have HN := Lib.hid (And.intro (HC.out.trans hnext) hr9)
      clear hx hy e0 e1 e2 e3 e4 e5 f0 f1 f2 f3 f4 f5 hre hnext hih hbw hi hnx hny hNX hNY hr9
      go_wp2_with fail
      clear v3 v4
      have k5 : wr.drew.cell? _ = _ := bcell HF.out.1 HF.out.2.2.2.2.2.2.2.2.2.2.2.1
      have j5 : wr.drew.cell? _ = _ := bcell HF.out.1 HF.out.2.2.2.2.2.2.2.2.2.2.2.2
      have b3 : wr.drew.cell? _ = _ := HK1.out.cell 4
      have g3 : wr.drew.cell? _ = _ := HK2.out.cell 4
      go_region_held3 (fun w' => w'.cell? ⟨P, 4, none⟩ = some (.slice (some ⟨b, 0, none⟩) N1 cap) ∧ w'.cell? ⟨P + 1, 4, none⟩ = some (.slice (some ⟨c, 0, none⟩) N2 cad) ∧ w'.cell? ⟨b, i * 6, none⟩ = some (.string NX) ∧ w'.cell? ⟨c, i * 6, none⟩ = some (.string NY))
        (first | exact ⟨b3, g3, k5, j5⟩ | exact ⟨pb, pg, p0, p1⟩)
        (first
          | (go_at_call 19; refine (texts_bel NX NY _).mono ?_; rintro e w3 ⟨rfl, hb3⟩; have HB3 := Lib.hid ((Below.refl wr.heap.size wr).drew.trans hb3); have pb := bcell hb3 b3; have pg := bcell hb3 g3; have p0 := bcell hb3 k5; have p1 := bcell hb3 j5; clear hb3))
      clear pb pg p0 p1 b3 g3 k5 j5
      rw [HN.out.2]
      obtain ⟨z9, hz9⟩ : ∃ z, sgnO r9 = z := ⟨_, rfl⟩
      rw [hz9]
      by_cases hz1 : z9 = 0
      · have hre9 : r9 = .eq := sgn_zero (hz9.trans hz1)
        have HN2 := Lib.hid (show cmpfsO l m = r.then (cmpfsO (l.drop (i + 1)) (m.drop (i + 1))) by rw [HN.out.1, hre9]; rfl)
        subst hz1
        clear hz9 hre9
        go_wp2_with fail
        have hbx := HF.out.1.trans (HB3.out.mono HF.out.1.size)
        have k0 : w3.drew.cell? _ = _ := bcell hbx HF.out.2.1
        have k1 : w3.drew.cell? _ = _ := bcell hbx HF.out.2.2.1
        have k2 : w3.drew.cell? _ = _ := bcell hbx HF.out.2.2.2.1
        have k3 : w3.drew.cell? _ = _ := bcell hbx HF.out.2.2.2.2.1
        have k4 : w3.drew.cell? _ = _ := bcell hbx HF.out.2.2.2.2.2.1
        have j0 : w3.drew.cell? _ = _ := bcell hbx HF.out.2.2.2.2.2.2.1
        have j1 : w3.drew.cell? _ = _ := bcell hbx HF.out.2.2.2.2.2.2.2.1
        have j2 : w3.drew.cell? _ = _ := bcell hbx HF.out.2.2.2.2.2.2.2.2.1
        have j3 : w3.drew.cell? _ = _ := bcell hbx HF.out.2.2.2.2.2.2.2.2.2.1
        have j4 : w3.drew.cell? _ = _ := bcell hbx HF.out.2.2.2.2.2.2.2.2.2.2.1
        have b3 : w3.drew.cell? _ = _ := bcell HB3.out (HK1.out.cell 4)
        have g3 : w3.drew.cell? _ = _ := bcell HB3.out (HK2.out.cell 4)
        clear hbx
        go_region_held3 (fun w' => w'.cell? ⟨P, 4, none⟩ = some (.slice (some ⟨b, 0, none⟩) N1 cap) ∧ w'.cell? ⟨P + 1, 4, none⟩ = some (.slice (some ⟨c, 0, none⟩) N2 cad) ∧ w'.cell? ⟨b, i * 6 + 1, none⟩ = some (.int .i64 q0) ∧ w'.cell? ⟨b, i * 6 + 2, none⟩ = some (.int .i64 q1) ∧ w'.cell? ⟨b, i * 6 + 3, none⟩ = some (.string q2) ∧ w'.cell? ⟨b, i * 6 + 4, none⟩ = some (.slice q3 q4 q5) ∧ w'.cell? ⟨b, i * 6 + 5, none⟩ = some (.slice q6 q7 q8) ∧ w'.cell? ⟨c, i * 6 + 1, none⟩ = some (.int .i64 r0) ∧ w'.cell? ⟨c, i * 6 + 2, none⟩ = some (.int .i64 r1) ∧ w'.cell? ⟨c, i * 6 + 3, none⟩ = some (.string r2) ∧ w'.cell? ⟨c, i * 6 + 4, none⟩ = some (.slice r3 r4 r5) ∧ w'.cell? ⟨c, i * 6 + 5, none⟩ = some (.slice r6 r7 r8))
          (first | exact ⟨b3, g3, k0, k1, k2, k3, k4, j0, j1, j2, j3, j4⟩ | exact ⟨pb, pg, p0, p1, p2, p3, p4, s0, s1, s2, s3, s4⟩)
          (first
            | (go_at_call 20; refine (show Calls _ _ _ _ _ from HI.out _ HB3.out.drew).mono ?_; rintro e w4 ⟨rfl, hb4⟩; have HB4 := Lib.hid ((HB.out.trans (HB3.out.drew.mono HB.out.size)).trans (hb4.mono (Nat.le_trans HB.out.size HB3.out.size))); have pb := bcell hb4 b3; have pg := bcell hb4 g3; have p0 := bcell hb4 k0; have s0 := bcell hb4 j0; have p1 := bcell hb4 k1; have s1 := bcell hb4 j1; have p2 := bcell hb4 k2; have s2 := bcell hb4 j2; have p3 := bcell hb4 k3; have s3 := bcell hb4 j3; have p4 := bcell hb4 k4; have s4 := bcell hb4 j4; clear hb4))
        clear pb pg p0 p1 p2 p3 p4 s0 s1 s2 s3 s4 b3 g3 k0 k1 k2 k3 k4 j0 j1 j2 j3 j4
        obtain ⟨z, hz⟩ : ∃ z, sgnO r = z := ⟨_, rfl⟩
        rw [hz]
        by_cases hz0 : z = 0
        · have hre : r = .eq := sgn_zero (hz.trans hz0)
          have HE := Lib.hid (show cmpfsO l m = cmpfsO (l.drop (i + 1)) (m.drop (i + 1)) by rw [HN2.out, hre]; rfl)
          subst hz0
          clear hz hre
          go_wp2
          go_roundg (gk - 1)
          case rel => exact ⟨i + 1, by omega, by omega, rfl, HE, HB4⟩
          case measure => omega
        · have HE := Lib.hid (show sgnO (cmpfsO l m) = z by
            rw [HN2.out, ← hz]
            cases r with
            | eq => exact absurd hz.symm hz0
            | lt => rfl
            | gt => rfl)
          clear hz
          go_wp2
          go_ret
          exact ⟨by rw [HE.out]; try rfl, H0.out.2.2.1.trans (HB4.out.mono H0.out.2.2.1.size)⟩
      · have HE := Lib.hid (show sgnO (cmpfsO l m) = z9 by
          rw [HN.out.1, ← hz9]
          cases r9 with
          | eq => exact absurd hz9.symm hz1
          | lt => rfl
          | gt => rfl)
        have HB4 := Lib.hid (HB.out.trans (HB3.out.mono HB.out.size))
        clear hz9
        go_wp2
        go_ret
        exact ⟨by rw [HE.out]; try rfl, H0.out.2.2.1.trans (HB4.out.mono H0.out.2.2.1.size)⟩
    · have HE := Lib.hid (show cmpfsO l m = icmp N1 N2 by
        rw [HC.out, cmpfs_end l m i (by rw [H0.out.2.2.2.2.2.1]; omega) (by rw [H0.out.2.2.2.2.2.2]; omega) (by rw [H0.out.2.2.2.2.2.1, H0.out.2.2.2.2.2.2]; exact hi), H0.out.2.2.2.2.2.1, H0.out.2.2.2.2.2.2])
      have v3 := HK1.out.cell 4
      have v4 := HK2.out.cell 4
      have hfin : Below w.heap.size w wr := H0.out.2.2.1.trans (HB.out.mono H0.out.2.2.1.size)
      have HFin := Lib.hid hfin
      clear hfin
      by_cases hi1 : i < N1
      · have hi2' : ¬ i < N2 := by omega
        have hiz : (i : Int) < (N1 : Int) := by omega
        have hiy : ¬ (i : Int) < (N2 : Int) := by omega
        clear hi
        go_wp2_with fail
        refine (sign_any _ _ _).mono ?_
        rintro e w2 ⟨rfl, rfl⟩
        go_wp2
        go_ret
        exact ⟨by rw [HE.out]; try rfl, HFin.out⟩
      · have hiz : ¬ (i : Int) < (N1 : Int) := by omega
        clear hi
        go_wp2_with fail
        refine (sign_any _ _ _).mono ?_
        rintro e w2 ⟨rfl, rfl⟩
        go_wp2
        go_ret
        exact ⟨by rw [HE.out]; try rfl, HFin.out⟩

theorem VAt.kind {S : Nat → Prop} {w : World} {v : V} {c : List Value} (h : VAt S w v c) : ∃ n s p1 l1 c1 p2 l2 c2, c = [.int .i64 (kindV v), .int .i64 n, .string s, .slice p1 l1 c1, .slice p2 l2 c2] := by
  obtain ⟨k, n, s, p1, l1, c1, p2, l2, c2, rfl⟩ := h.shape
  have hk : k = kindV v := by cases h <;> rfl
  rw [hk]
  exact ⟨n, s, p1, l1, c1, p2, l2, c2, rfl⟩
theorem cmpO_kind (x y : V) (h : kindV x ≠ kindV y) : cmpO x y = icmp (kindV x) (kindV y) := by
  cases x <;> cases y <;> first | (exact absurd rfl h) | simp [cmpO]
theorem lc_kinds (x y : V) (S T : Nat → Prop) (w : World) (c d : List Value) (hx : VAt S w x c) (hy : VAt T w y d) (h : kindV x ≠ kindV y) : CmpC 20 w (cmpO x y) c d := by
  obtain ⟨n, s, p1, l1, c1, p2, l2, c2, rfl⟩ := hx.kind
  obtain ⟨n', s', p1', l1', c1', p2', l2', c2', rfl⟩ := hy.kind
  rw [cmpO_kind x y h]
  exact lc_diff _ _ _ _ _ _ _ _ _ _ _ _ _ _ _ _ _ _ (by omega) w
/-- the law's Cmp tells how any two values stand. -/
theorem lc_any (x : V) : CmpH 20 x := by
  refine V_kids ?_ ?_ ?_ ?_ ?_ ?_ x
  · intro l ih y S T w c d hx hy
    by_cases hk : kindV (V.list l) = kindV y
    · cases y with
      | list m =>
        cases hx with
        | list l cs sl hV hr => cases hy with
          | list m ds sm hU hs =>
            rw [show cmpO (V.list l) (V.list m) = cmpsO l m by rw [cmpO]]
            rcases hr.2 with ⟨h0, rfl⟩ | ⟨b, cap, rfl, _, hc⟩
            · rcases hs.2 with ⟨h1, rfl⟩ | ⟨b2, cap2, rfl, _, hc2⟩
              · rw [cmps_nil l m (.inl h0), h0, h1]
                exact lc_list0 none none 0 0 0 0 (.inl rfl) w
              · rw [cmps_nil l m (.inl h0), h0]
                exact lc_list0 none (some ⟨b2, 0, none⟩) 0 m.length 0 cap2 (.inl rfl) w
            · rcases hs.2 with ⟨h1, rfl⟩ | ⟨b2, cap2, rfl, _, hc2⟩
              · rw [cmps_nil l m (.inr h1), h1]
                exact lc_list0 (some ⟨b, 0, none⟩) none l.length 0 cap 0 (.inr rfl) w
              · exact lc_list l m cs ds b b2 cap cap2 S T w hV hc hU hc2 hr.1 hs.1 ih
      | _ => simp [kindV] at hk
    · exact lc_kinds _ _ S T w c d hx hy hk
  · intro l ih y S T w c d hx hy
    by_cases hk : kindV (V.obj l) = kindV y
    · cases y with
      | obj m =>
        cases hx with
        | obj l cs sl hV hr => cases hy with
          | obj m ds sm hU hs =>
            rw [show cmpO (V.obj l) (V.obj m) = cmpfsO l m by rw [cmpO]]
            rcases hr.2 with ⟨h0, rfl⟩ | ⟨b, cap, rfl, _, hc⟩
            · rcases hs.2 with ⟨h1, rfl⟩ | ⟨b2, cap2, rfl, _, hc2⟩
              · rw [cmpfs_nil l m (.inl h0), h0, h1]
                exact lc_obj0 none none 0 0 0 0 (.inl rfl) w
              · rw [cmpfs_nil l m (.inl h0), h0]
                exact lc_obj0 none (some ⟨b2, 0, none⟩) 0 m.length 0 cap2 (.inl rfl) w
            · rcases hs.2 with ⟨h1, rfl⟩ | ⟨b2, cap2, rfl, _, hc2⟩
              · rw [cmpfs_nil l m (.inr h1), h1]
                exact lc_obj0 (some ⟨b, 0, none⟩) none l.length 0 cap 0 (.inr rfl) w
              · exact lc_obj l m cs ds b b2 cap cap2 S T w hV hc hU hc2 hr.1 hs.1 ih
      | _ => simp [kindV] at hk
    · exact lc_kinds _ _ S T w c d hx hy hk
  · intro y S T w c d hx hy
    by_cases hk : kindV V.null = kindV y
    · cases y with
      | null => cases hx; cases hy; rw [show cmpO V.null V.null = .eq by rw [cmpO]]; exact lc_null w
      | _ => simp [kindV] at hk
    · exact lc_kinds _ _ S T w c d hx hy hk
  · intro n y S T w c d hx hy
    by_cases hk : kindV (V.bool n) = kindV y
    · cases y with
      | bool m => cases hx; cases hy; rw [show cmpO (V.bool n) (V.bool m) = icmp n m by rw [cmpO]]; exact lc_num 1 n m (.inl rfl) w
      | _ => simp [kindV] at hk
    · exact lc_kinds _ _ S T w c d hx hy hk
  · intro n y S T w c d hx hy
    by_cases hk : kindV (V.int n) = kindV y
    · cases y with
      | int m => cases hx; cases hy; rw [show cmpO (V.int n) (V.int m) = icmp n m by rw [cmpO]]; exact lc_num 2 n m (.inr rfl) w
      | _ => simp [kindV] at hk
    · exact lc_kinds _ _ S T w c d hx hy hk
  · intro s y S T w c d hx hy
    by_cases hk : kindV (V.text s) = kindV y
    · cases y with
      | text t => cases hx; cases hy; rw [show cmpO (V.text s) (V.text t) = lcmp s t by rw [cmpO]]; exact lc_text s t w
      | _ => simp [kindV] at hk
    · exact lc_kinds _ _ S T w c d hx hy hk
end Go.Proofs.YthlioinmeimhoaaDoor
