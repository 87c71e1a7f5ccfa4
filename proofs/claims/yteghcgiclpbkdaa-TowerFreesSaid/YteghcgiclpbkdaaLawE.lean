/- TowerSafe: what is asked behind each deed. -/
import Derived.Test.YteghcgiclpbkdaaLawD
import Derived.Test.YteghcgiclpbkdaaPureM
namespace Go.Proofs.Yteghcgiclpbkdaa
open Go.RowKit

theorem reach_ok : ReachOK := fun _ h => ⟨(reach_inv h).wf, (reach_inv h).wi⟩
theorem true_isC1 : IsC (.func (.func 18) #[] #[]) := by
  refine ⟨_, rfl, fun args w1 => by kernel_rfl, fun σ F t w1 _ _ => ?_⟩
  unfold ptrV
  go_enter Try.func18, Try.ntmps18
  go_wp2
  go_ret
  exact ⟨rfl, Below.refl _ _⟩
theorem true_isC2 : IsC (.func (.func 20) #[] #[]) := by
  refine ⟨_, rfl, fun args w1 => by kernel_rfl, fun σ F t w1 _ _ => ?_⟩
  unfold ptrV
  go_enter Try.func20, Try.ntmps20
  go_wp2
  go_ret
  exact ⟨rfl, Below.refl _ _⟩

theorem index_things64 (v0 v1 v2 v3 v4 v5 : Value) (w : World) :
    (Instr.index 28 (.agg #[v0, v1, v2, v3, v4, v5]) (.int .i64 0)).run Try.prog w = .ok v0 w ∧ (Instr.index 28 (.agg #[v0, v1, v2, v3, v4, v5]) (.int .i64 1)).run Try.prog w = .ok v1 w ∧
    (Instr.index 28 (.agg #[v0, v1, v2, v3, v4, v5]) (.int .i64 2)).run Try.prog w = .ok v2 w ∧ (Instr.index 28 (.agg #[v0, v1, v2, v3, v4, v5]) (.int .i64 3)).run Try.prog w = .ok v3 w ∧
    (Instr.index 28 (.agg #[v0, v1, v2, v3, v4, v5]) (.int .i64 4)).run Try.prog w = .ok v4 w ∧ (Instr.index 28 (.agg #[v0, v1, v2, v3, v4, v5]) (.int .i64 5)).run Try.prog w = .ok v5 w := by
  refine ⟨?_, ?_, ?_, ?_, ?_, ?_⟩ <;> kernel_rfl
def thingK (k : Nat) : List ByteArray := thingsL.getD k []
theorem thingK_mem {k : Nat} (h : k < 6) : thingK k ∈ thingsL := by
  have : k = 0 ∨ k = 1 ∨ k = 2 ∨ k = 3 ∨ k = 4 ∨ k = 5 := by omega
  rcases this with rfl | rfl | rfl | rfl | rfl | rfl <;> simp [thingK, thingsL]
theorem index_at {v0 v1 v2 v3 v4 v5 : Value} {w : World} (k : Nat) (h6 : (k : Int) < 6) (hb : SRead w v0 [] ∧ SRead w v1 [dS] ∧ SRead w v2 [eS] ∧ SRead w v3 [dS, cS] ∧ SRead w v4 [dS, kS] ∧ SRead w v5 [eS, cS]) :
    ∃ v, (∀ W, (Instr.index 28 (.agg #[v0, v1, v2, v3, v4, v5]) (.int .i64 (k : Int))).run Try.prog W = .ok v W) ∧ SRead w v (thingK k) := by
  have a := index_things64 v0 v1 v2 v3 v4 v5
  obtain ⟨b0, b1, b2, b3, b4, b5⟩ := hb
  have : k = 0 ∨ k = 1 ∨ k = 2 ∨ k = 3 ∨ k = 4 ∨ k = 5 := by omega
  rcases this with rfl | rfl | rfl | rfl | rfl | rfl
  · exact ⟨v0, fun W => (a W).1, b0⟩
  · exact ⟨v1, fun W => (a W).2.1, b1⟩
  · exact ⟨v2, fun W => (a W).2.2.1, b2⟩
  · exact ⟨v3, fun W => (a W).2.2.2.1, b3⟩
  · exact ⟨v4, fun W => (a W).2.2.2.2.1, b4⟩
  · exact ⟨v5, fun W => (a W).2.2.2.2.2, b5⟩

theorem head_eq' : ∀ k < 6, ∀ j < 6, (((thingK j).getD 0 ⟨#[]⟩).toList == ((thingK k).getD 0 ⟨#[]⟩).toList) = decide ((thingK j).getD 0 ⟨#[]⟩ = (thingK k).getD 0 ⟨#[]⟩) := by decide +kernel
theorem head_eq (k : Nat) (hk : k < 6) (j : Nat) (hj : j < 6) {h1 : 0 < (thingK j).length} {h2 : 0 < (thingK k).length} : ((thingK j)[0].toList == (thingK k)[0].toList) = decide ((thingK j)[0]? = (thingK k)[0]?) := by
  have := head_eq' k hk j hj
  rw [List.getElem?_eq_getElem h1, List.getElem?_eq_getElem h2]
  simp only [List.getD_eq_getElem?_getD, List.getElem?_eq_getElem h1, List.getElem?_eq_getElem h2, Option.getD_some] at this
  rw [this]; simp
theorem own_cap {w : World} {b : Nat} {e : TypeId} {size n m : Nat} {a : Option Addr} {cap : Nat} {xs : List Value} (h : w.ownsRow b e size (.slice a m cap) n xs) : n ≤ cap ∧ cap ≤ maxLen := by
  rcases ownsRow_cases h with ⟨h1, h0, _⟩ | ⟨g, cap2, h1⟩
  · simp only [Value.slice.injEq] at h1
    have := h1.2.2
    unfold maxLen; omega
  · simp only [Value.slice.injEq] at h1
    obtain ⟨rfl, rfl, rfl⟩ := h1
    obtain ⟨_, _, _, _, hn, hc⟩ := blk_of_ownsRow h
    exact ⟨hn, hc⟩

set_option maxRecDepth 100000 in
set_option maxHeartbeats 4000000 in
theorem safe_isC : IsC (.func (.func 9) #[] #[]) := by
  refine ⟨_, rfl, fun args w1 => by kernel_rfl, fun σ F t w1 hr hT => ?_⟩
  have HI := Lib.hid (reach_inv hr)
  have HT := Lib.hid hT
  clear hr hT
  unfold ptrV
  go_enter Try.func9, Try.ntmps9
  go_wp2_with fail
  refine (things_any _).mono ?_
  rintro e w2 ⟨v0, v1, v2, v3, v4, v5, rfl, hb, hs⟩
  have HS := Lib.hid (And.intro hb hs)
  clear hb hs
  go_wp2
  go_loopg [14] 6 (fun m kv wr => ∃ k : Nat, kv = .int .i64 (k : Int) ∧ k + m = 6 ∧ Below w2.heap.size w2 wr)
  case atStart => exact ⟨0, rfl, rfl, Below.refl _ _⟩
  case round =>
    obtain ⟨k, rfl, hkm, hbr⟩ := hrel
    cases gk with
    | zero =>
      have hkn : ¬ ((k : Int) < (6 : Int)) := by omega
      go_wp2
      go_ret
      exact ⟨rfl, HS.out.1.trans (hbr.mono HS.out.1.size)⟩
    | succ m =>
      have hkn : (k : Int) < (6 : Int) := by omega
      have hk0 : (0 : Int) ≤ (k : Int) := by omega
      obtain ⟨vx, hix', hsx⟩ := index_at k hkn HS.out.2
      have hix := hix' wr
      clear hix'
      have HX := Lib.hid (hsx.below hbr)
      have HB := Lib.hid hbr
      clear hsx hbr
      go_wp2_with fail
      have hlen : (σ.heldL (thingOf (thingK k))).length ≤ 1048576 := by
        have := (HI.out.wf.q (thingOf (thingK k))).len
        have h12 : I12.length = 12 := rfl
        unfold TS.heldL; omega
      obtain ⟨mq, mw, tag, qb, cb, hTA⟩ := HT.out.below (HS.out.1.trans (HB.out.mono HS.out.1.size))
      refine (held_tower vx (thingK k) hTA HX.out hlen).mono ?_
      rintro e w3 ⟨vh, rfl, hvh, hb3⟩
      have hgr := gread_of_ownsRow hvh
      have HX3 := Lib.hid (HX.out.below hb3)
      have HB3 := Lib.hid (HB.out.trans (hb3.mono HB.out.size))
      obtain ⟨L, hL⟩ : ∃ L, L = σ.heldL (thingOf (thingK k)) := ⟨_, rfl⟩
      rw [← hL] at hgr hlen hvh
      have HL := Lib.hid hL
      obtain ⟨_, a5, c5, rfl, hc5⟩ := hgr
      have hcap5 := (own_cap hvh).1
      have H5 := Lib.hid hc5
      obtain ⟨_, ax, cx, rfl, _⟩ := HX3.out
      clear hTA hvh hb3 HX hL hc5 HB hix
      go_wp2
      go_loopg [23] L.length (fun m kv wr => ∃ k2 : Nat, kv = .int .i64 (k2 : Int) ∧ k2 + m = L.length ∧ Below w3.heap.size w3 wr)
      case atStart => exact ⟨0, rfl, by omega, Below.refl _ _⟩
      case round =>
        obtain ⟨k2, rfl, hkm2, hbr2⟩ := hrel
        cases gk with
        | zero =>
          have hkn2 : ¬ ((k2 : Int) < (L.length : Int)) := by omega
          have HB4 := Lib.hid hbr2
          clear hbr2
          go_wp2
          go_roundg m
          case measure => omega
          case rel => exact ⟨k + 1, by go_num, by omega, HB3.out.trans (HB4.out.mono HB3.out.size)⟩
        | succ m2 =>
          have hkn2 : (k2 : Int) < (L.length : Int) := by omega
          have hk20 : (0 : Int) ≤ (k2 : Int) := by omega
          have HB4 := Lib.hid hbr2
          clear hbr2
          have hk2c : k2 ≤ c5 := by omega
          obtain ⟨b5, o5, rfl, hc⟩ := H5.out (by omega)
          go_wp2
          go_loopg [30] k2 (fun m kv wr => ∃ j : Nat, kv = .int .i64 (j : Int) ∧ j + m = k2 ∧ Below w3.heap.size w3 wr)
          case atStart => exact ⟨0, rfl, by omega, HB4.out⟩
          case round =>
            obtain ⟨j, rfl, hjm, hbr3⟩ := hrel
            cases gk with
            | zero =>
              have hjn : ¬ ((j : Int) < (k2 : Int)) := by omega
              have HB5 := Lib.hid hbr3
              clear hbr3
              go_wp2_with fail
              refine (things_any _).mono ?_
              rintro e w4 ⟨z0, z1, z2, z3, z4, z5, rfl, hb6, hs6⟩
              have HB6 := Lib.hid (And.intro (HB5.out.trans (hb6.mono HB5.out.size)) hs6)
              clear hb6 hs6
              go_wp2
              go_loopg [47] 6 (fun m kv wr => ∃ j : Nat, kv = .int .i64 (j : Int) ∧ j + m = 6 ∧ Below w4.heap.size w4 wr)
              case atStart => exact ⟨0, rfl, rfl, Below.refl _ _⟩
              case round =>
                obtain ⟨j2, rfl, hjm2, hbr4⟩ := hrel
                cases gk with
                | zero =>
                  have hjn2 : ¬ ((j2 : Int) < (6 : Int)) := by omega
                  have HB7 := Lib.hid hbr4
                  clear hbr4
                  go_wp2
                  go_roundg m2
                  case measure => omega
                  case rel => exact ⟨k2 + 1, by go_num, by omega, HB6.out.1.trans (HB7.out.mono HB6.out.1.size)⟩
                | succ m4 =>
                  have hjn2 : (j2 : Int) < (6 : Int) := by omega
                  have hj20 : (0 : Int) ≤ (j2 : Int) := by omega
                  obtain ⟨vy, hiy', hsy⟩ := index_at j2 hjn2 HB6.out.2
                  have hiy := hiy' wr
                  have HB7 := Lib.hid hbr4
                  have HY := Lib.hid (hsy.below hbr4)
                  have HY4 := Lib.hid hsy
                  clear hbr4 hsy hiy'
                  obtain ⟨_, ay, cy, rfl, _⟩ := HY.out
                  go_upto_region 17 with fail
                  go_cut [10, 47] from 47 to 112 (fun c i wx => c = .bool (decide (j2 ≠ k) && insideB (thingK k) (thingK j2)) ∧ i = .int .i64 (j2 : Int) ∧ Below w4.heap.size w4 wx)
                  case first =>
                    clear hiy
                    by_cases hjk : j2 = k
                    · have e1 : ((j2 : Int) != (k : Int)) = false := by simp [hjk]
                      have HK := Lib.hid hjk
                      clear hjk
                      go_quiet (fail)
                      go_wp2
                      go_meet
                      exact ⟨by simp [HK.out], rfl, pwDrewN HB7.out _⟩
                    · have e1 : ((j2 : Int) != (k : Int)) = true := by simp; omega
                      have HK := Lib.hid hjk
                      clear hjk
                      by_cases hl : (thingK k).length < (thingK j2).length
                      · have e2 : decide ((thingK j2).length > (thingK k).length) = true := by simpa using hl
                        have e3 : ((thingK k).length : Int) < ((thingK j2).length : Int) := by omega
                        have HL2 := Lib.hid hl
                        clear hl
                        by_cases h0 : (thingK k).length = 0
                        · have e4 : (((thingK k).length : Int) == 0) = true := by simp [h0]
                          have H0 := Lib.hid h0
                          clear h0
                          go_quiet (fail)
                          go_wp2
                          go_meet
                          exact ⟨by simp only [insideB, H0.out, HK.out, decide_true, Bool.true_or, Bool.and_true, ne_eq, not_false_iff, Bool.true_and]; have := HL2.out; congr 1; symm; rw [decide_eq_true_iff]; omega, rfl, pwDrewN HB7.out _⟩
                        · have e4 : (((thingK k).length : Int) == 0) = false := by simp [h0]
                          have H0 := Lib.hid h0
                          clear h0
                          have hYc := HY.out
                          have hXc := HX3.out.below (HB6.out.1.trans (HB7.out.mono HB6.out.1.size))
                          obtain ⟨_, _, _, e6, _, _, _, hcy0⟩ := hYc
                          obtain ⟨by1, oy, e7, hcy⟩ := hcy0 (by have := HL2.out; omega)
                          obtain ⟨_, _, _, e8, _, _, _, hcx0⟩ := hXc
                          obtain ⟨bx, ox, e9, hcx⟩ := hcx0 (by have := H0.out; omega)
                          simp only [Value.slice.injEq, true_and] at e6 e8
                          obtain ⟨rfl, rfl⟩ := e6
                          obtain ⟨rfl, rfl⟩ := e8
                          subst e7 e9
                          obtain ⟨Y0, hY0⟩ : ∃ s, s = (thingK j2)[0]'(by have h := HL2.out; exact Nat.lt_of_le_of_lt (Nat.zero_le _) h) := ⟨_, rfl⟩
                          obtain ⟨X0, hX0⟩ : ∃ s, s = (thingK k)[0]'(by have h := H0.out; exact Nat.pos_of_ne_zero h) := ⟨_, rfl⟩
                          have f1 : wr.cell? ⟨by1, oy, none⟩ = some (.string Y0) := by rw [hY0]; exact hcy 0 (by have := HL2.out; omega)
                          have f2 : wr.cell? ⟨bx, ox, none⟩ = some (.string X0) := by rw [hX0]; exact hcx 0 (by have := H0.out; omega)
                          have HE := Lib.hid (And.intro hY0 hX0)
                          clear hY0 hX0 hcy hcx hcy0 hcx0
                          have e10 : (0 : Int) < ((thingK j2).length : Int) := by have := HL2.out; omega
                          have e11 : (0 : Int) < ((thingK k).length : Int) := by have := H0.out; omega
                          go_quiet (fail)
                          go_wp2
                          go_meet
                          exact ⟨by
                            rw [HE.out.1, HE.out.2, head_eq k (by omega) j2 (by omega)]
                            have := H0.out; have := HK.out; have := HL2.out; simp [insideB, *], rfl, pwDrewN HB7.out _⟩
                      · have e2 : ¬ ((thingK k).length : Int) < ((thingK j2).length : Int) := by omega
                        have HL2 := Lib.hid hl
                        clear hl
                        go_quiet (fail)
                        go_wp2
                        go_meet
                        exact ⟨by have := HL2.out; simp [insideB, this], rfl, pwDrewN HB7.out _⟩
                  case rest =>
                    obtain ⟨rfl, rfl, hb8⟩ := hcut
                    have HB8 := Lib.hid hb8
                    clear hb8 hiy
                    obtain ⟨bi, hbi⟩ : ∃ bi, bi = (decide (j2 ≠ k) && insideB (thingK k) (thingK j2)) := ⟨_, rfl⟩
                    rw [← hbi]
                    have HBI := Lib.hid hbi
                    clear hbi
                    cases bi with
                    | false =>
                      go_wp2
                      go_roundg m4
                      case measure => omega
                      case rel => exact ⟨j2 + 1, by go_num, by omega, HB8.out⟩
                    | true =>
                      have x0 : wc.cell? ⟨b5, o5 + k2 * 2, none⟩ = some (.int .i64 L[k2].1) := bcell (HB6.out.1.trans (HB8.out.mono HB6.out.1.size)) (hc k2 (by omega)).1
                      have x1 : wc.cell? ⟨b5, o5 + k2 * 2 + 1, none⟩ = some (.int .i64 L[k2].2) := bcell (HB6.out.1.trans (HB8.out.mono HB6.out.1.size)) (hc k2 (by omega)).2
                      obtain ⟨g1, hg1⟩ : ∃ g1, g1 = L[k2].1 := ⟨_, rfl⟩
                      obtain ⟨g2, hg2⟩ : ∃ g2, g2 = L[k2].2 := ⟨_, rfl⟩
                      rw [← hg1] at x0
                      rw [← hg2] at x1
                      have HG := Lib.hid (And.intro hg1 hg2)
                      clear hg1 hg2 hc
                      go_wp2_with fail
                      obtain ⟨mq4, mw4, tag4, qb4, cb4, hTB⟩ := HT.out.below (HS.out.1.trans ((HB3.out.trans ((HB6.out.1.trans (HB8.out.mono HB6.out.1.size)).mono HB3.out.size)).mono HS.out.1.size))
                      refine (whole_tower g1 hTB).mono ?_
                      rintro e w5 ⟨rfl, rfl⟩
                      cases hwh : σ.wholeB g1 with
                      | false =>
                        go_wp2
                        go_roundg m4
                        case measure => omega
                        case rel => exact ⟨j2 + 1, by go_num, by omega, HB8.out⟩
                      | true =>
                        by_cases h4 : g2 = 4
                        · have e4 : (g2 != 4) = false := by simp [h4]
                          have H4 := Lib.hid h4
                          clear h4 hwh
                          go_wp2_with fail
                          have hleny : (σ.heldL (thingOf (thingK j2))).length ≤ 1048576 := by
                            have := (HI.out.wf.q (thingOf (thingK j2))).len
                            have h12 : I12.length = 12 := rfl
                            unfold TS.heldL; omega
                          refine (held_tower _ (thingK j2) hTB (HY4.out.below HB8.out) hleny).mono ?_
                          rintro e w6 ⟨vg, rfl, hvg, hb9⟩
                          have hgr6 := gread_of_ownsRow hvg
                          have hin : ∀ i (h : i < (σ.heldL (thingOf (thingK j2))).length), ((σ.heldL (thingOf (thingK j2)))[i].1 != g1) = false := fun i hi => by
                            have h1 := HG.out.1
                            have h2 := HG.out.2
                            have h3 := HL.out
                            subst h3
                            have hbi := HBI.out
                            simp only [Bool.true_eq, Bool.and_eq_true] at hbi
                            have := safe_in HI.out (thingK_mem (show k < 6 by omega)) (thingK_mem (show j2 < 6 by omega)) hbi.2 (List.getElem_mem (show k2 < _ by omega)) (by rw [← h2]; exact H4.out) (List.getElem_mem hi)
                            rw [this, h1]; simp
                          have HIN := Lib.hid hin
                          obtain ⟨M, hM⟩ : ∃ M, M = σ.heldL (thingOf (thingK j2)) := ⟨_, rfl⟩
                          rw [← hM] at hgr6 hleny HIN
                          obtain ⟨_, a6, c6, rfl, hc6⟩ := hgr6
                          have H6 := Lib.hid hc6
                          have x0' : w6.cell? ⟨b5, o5 + k2 * 2, none⟩ = some (.int .i64 g1) := bcell hb9 x0
                          have HB9 := Lib.hid (HB8.out.trans (hb9.mono HB8.out.size))
                          clear hM hc6 hvg hb9 hin x0 x1 e4 hTB
                          go_wp2
                          go_loopg [99] M.length (fun m kv wr => ∃ i : Nat, kv = .int .i64 (i : Int) ∧ i + m = M.length ∧ Below w6.heap.size w6 wr)
                          case atStart => exact ⟨0, rfl, by omega, Below.refl _ _⟩
                          case round =>
                            obtain ⟨i, rfl, him, hbr5⟩ := hrel
                            have HB10 := Lib.hid hbr5
                            clear hbr5
                            cases gk with
                            | zero =>
                              have hin : ¬ ((i : Int) < (M.length : Int)) := by omega
                              go_wp2
                              go_roundg m4
                              case measure => omega
                              case rel => exact ⟨j2 + 1, by go_num, by omega, HB9.out.trans (HB10.out.mono HB9.out.size)⟩
                            | succ m5 =>
                              have hin : (i : Int) < (M.length : Int) := by omega
                              have hi0 : (0 : Int) ≤ (i : Int) := by omega
                              obtain ⟨b6, o6, rfl, hc6⟩ := H6.out (by omega)
                              have p0 : wr.cell? ⟨b6, o6 + i * 2, none⟩ = some (.int .i64 M[i].1) := bcell HB10.out (hc6 i (by omega)).1
                              have p1 : wr.cell? ⟨b6, o6 + i * 2 + 1, none⟩ = some (.int .i64 M[i].2) := bcell HB10.out (hc6 i (by omega)).2
                              have hne := HIN.out i (by omega)
                              obtain ⟨n1, hn1⟩ : ∃ n1, n1 = M[i].1 := ⟨_, rfl⟩
                              obtain ⟨n2, hn2⟩ : ∃ n2, n2 = M[i].2 := ⟨_, rfl⟩
                              rw [← hn1] at p0 hne
                              rw [← hn2] at p1
                              clear hn1 hn2 hc6
                              have q0 := bcell HB10.out x0'
                              go_wp2
                              have q1 : (wr.alloc (.cells #[.int .i64 n1, .int .i64 n2] 35)).cell? ⟨b5, o5 + k2 * 2, none⟩ = some (.int .i64 g1) := bcell ((Below.refl _ _).alloc (Nat.le_refl _) _) q0
                              go_quiet (fail)
                              go_wp2
                              go_roundg m5
                              case measure => omega
                              case rel => exact ⟨i + 1, by go_num, by omega, pwDrewN (HB10.out.alloc HB10.out.size _) _⟩
                        · have e4 : (g2 != 4) = true := by simp [h4]
                          clear h4
                          go_wp2
                          go_roundg m4
                          case measure => omega
                          case rel => exact ⟨j2 + 1, by go_num, by omega, HB8.out⟩
            | succ m3 =>
              have hjn : (j : Int) < (k2 : Int) := by omega
              have hj0 : (0 : Int) ≤ (j : Int) := by omega
              have hjl : (j : Int) < (L.length : Int) := by omega
              have HB5 := Lib.hid hbr3
              clear hbr3
              have y1 : wr.cell? ⟨b5, o5 + k2 * 2 + 1, none⟩ = some (.int .i64 L[k2].2) := bcell HB5.out (hc k2 (by omega)).2
              have y2 : wr.cell? ⟨b5, o5 + j * 2 + 1, none⟩ = some (.int .i64 L[j].2) := bcell HB5.out (hc j (by omega)).2
              obtain ⟨mk, hmk⟩ : ∃ mk, mk = L[k2].2 := ⟨_, rfl⟩
              obtain ⟨mj, hmj⟩ : ∃ mj, mj = L[j].2 := ⟨_, rfl⟩
              rw [← hmk] at y1
              rw [← hmj] at y2
              have hfits : fitsB mk mj = true := by rw [hmk, hmj]; have := HL.out; subst this; exact safe_goes HI.out _ (by omega) (by omega)
              clear hmk hmj hc
              go_wp2
              have d1 : wr.drew.cell? ⟨b5, o5 + k2 * 2 + 1, none⟩ = some (.int .i64 mk) := y1
              have d2 : wr.drew.cell? ⟨b5, o5 + j * 2 + 1, none⟩ = some (.int .i64 mj) := y2
              go_region_held3 (fun w' => w'.cell? ⟨b5, o5 + k2 * 2 + 1, none⟩ = some (.int .i64 mk) ∧ w'.cell? ⟨b5, o5 + j * 2 + 1, none⟩ = some (.int .i64 mj))
                (first | go_keep | exact ⟨d1, d2⟩ | exact ⟨g1, g2⟩)
                ((go_at_call 12; refine (goes_any _ _ _).mono ?_; rintro e w6 ⟨rfl, hb6⟩; have g1 := bcell hb6 d1; have g2 := bcell hb6 d2; rw [hfits]))
              all_goals
                have HB6 := Lib.hid (HB5.out.trans ((undrew hb6).mono HB5.out.size))
                clear hb6 g1 g2 d1 d2 y1 y2
                go_wp2
                go_roundg m3
                case measure => omega
                case rel => exact ⟨j + 1, by go_num, by omega, HB6.out⟩
end Go.Proofs.Yteghcgiclpbkdaa
