/- TowerWhole: what is asked behind each deed. -/
import Derived.Test.YteghcgiclpbkdaaLawE
namespace Go.Proofs.Yteghcgiclpbkdaa
open Go.RowKit

theorem has_pos {l : List (Int × Int)} (h : ∀ g ∈ l, 1 ≤ g.2) (id : Int) : decide (hasI l id > 0) = inB l id := by
  unfold hasI
  cases hf : l.find? (fun g => g.1 == id) with
  | none =>
    symm
    simp only [inB, gt_iff_lt, Int.lt_irrefl, decide_false]
    rw [List.any_eq_false]
    intro g hg
    exact List.find?_eq_none.1 hf g hg
  | some g =>
    have h1 := List.find?_some hf
    have h2 := h g (List.mem_of_find?_eq_some hf)
    simp only
    rw [decide_eq_true (by omega)]
    symm
    exact List.any_eq_true.2 ⟨g, List.mem_of_find?_eq_some hf, h1⟩
theorem take_step {k : Nat} (h : k < 6) : thingsL.take (k + 1) = thingsL.take k ++ [thingK k] := by
  have : k = 0 ∨ k = 1 ∨ k = 2 ∨ k = 3 ∨ k = 4 ∨ k = 5 := by omega
  rcases this with rfl | rfl | rfl | rfl | rfl | rfl <;> rfl
theorem heldN_step (σ : TS) (id : Int) {k : Nat} (h : k < 6) : heldN σ id (thingsL.take (k + 1)) = heldN σ id (thingsL.take k) + if inB (σ.heldL (thingOf (thingK k))) id then 1 else 0 := by
  rw [take_step h]
  unfold heldN
  rw [List.filter_append, List.length_append]
  congr 1
  cases hb : inB (σ.heldL (thingOf (thingK k))) id <;> simp [hb]
theorem waitsN_step (σ : TS) (id : Int) {k : Nat} (h : k < 6) : waitsN σ id (thingsL.take (k + 1)) = waitsN σ id (thingsL.take k) + if inB (σ.waitL (thingOf (thingK k))) id then 1 else 0 := by
  rw [take_step h]
  unfold waitsN
  rw [List.filter_append, List.length_append]
  congr 1
  cases hb : inB (σ.waitL (thingOf (thingK k))) id <;> simp [hb]
theorem heldN_le (σ : TS) (id : Int) (k : Nat) : heldN σ id (thingsL.take k) ≤ 6 := Nat.le_trans (List.length_filter_le _ _) (by rw [List.length_take]; exact Nat.min_le_right _ _)
theorem waitsN_le (σ : TS) (id : Int) (k : Nat) : waitsN σ id (thingsL.take k) ≤ 6 := Nat.le_trans (List.length_filter_le _ _) (by rw [List.length_take]; exact Nat.min_le_right _ _)
theorem InvS.heldLen {σ : TS} (h : InvS σ) (x : Thing) : (σ.heldL x).length ≤ 1048576 := by
  have := (h.wf.q x).len
  have h12 : I12.length = 12 := rfl
  unfold TS.heldL; omega
theorem InvS.waitLen {σ : TS} (h : InvS σ) (x : Thing) : (σ.waitL x).length ≤ 1048576 := by
  have := (h.wf.q x).len
  have h12 : I12.length = 12 := rfl
  unfold TS.waitL; omega

set_option maxRecDepth 100000 in
set_option maxHeartbeats 4000000 in
theorem whole_isC : IsC (.func (.func 14) #[] #[]) := by
  refine ⟨_, rfl, fun args w1 => by kernel_rfl, fun σ F t w1 hr hT => ?_⟩
  have HI := Lib.hid (reach_inv hr)
  have HT := Lib.hid hT
  clear hr hT
  unfold ptrV
  go_enter Try.func14, Try.ntmps14
  go_wp2_with fail
  go_loopg [3] 12 (fun m kv wr => ∃ k : Nat, kv = .int .i64 (k : Int) ∧ k + m = 12 ∧ Below w1.heap.size w1 wr)
  case atStart => exact ⟨0, rfl, rfl, Below.refl _ _⟩
  case round =>
    obtain ⟨k, rfl, hkm, hbr⟩ := hrel
    have HB := Lib.hid hbr
    clear hbr
    cases gk with
    | zero =>
      have hkn : ¬ ((k : Int) < (12 : Int)) := by omega
      go_wp2
      go_ret
      exact ⟨rfl, HB.out⟩
    | succ m =>
      have hkn : (k : Int) < (12 : Int) := by omega
      have hk0 : (0 : Int) ≤ (k : Int) := by omega
      go_wp2_with fail
      refine (things_any _).mono ?_
      rintro e w2 ⟨v0, v1, v2, v3, v4, v5, rfl, hb, hs⟩
      have HS := Lib.hid (And.intro (HB.out.trans (hb.mono HB.out.size)) hs)
      clear hb hs
      go_wp2
      go_loopg [13, 4, 5] 6 (fun m kv hv wv wr => ∃ j h wt : Nat, kv = .int .i64 (j : Int) ∧ hv = .int .i64 (h : Int) ∧ wv = .int .i64 (wt : Int) ∧ j + m = 6 ∧ h = heldN σ (k : Int) (thingsL.take j) ∧ wt = waitsN σ (k : Int) (thingsL.take j) ∧ Below w2.heap.size w2 wr)
      case atStart => exact ⟨0, 0, 0, rfl, rfl, rfl, rfl, rfl, rfl, Below.refl _ _⟩
      case round =>
        obtain ⟨j, h, wt, rfl, rfl, rfl, hjm, hh, hw, hbr2⟩ := hrel
        have HB2 := Lib.hid hbr2
        have hh6 : h ≤ 6 := by rw [hh]; exact heldN_le _ _ _
        have hw6 : wt ≤ 6 := by rw [hw]; exact waitsN_le _ _ _
        have HN := Lib.hid (And.intro hh hw)
        clear hbr2 hh hw
        cases gk with
        | zero =>
          have hjn : ¬ ((j : Int) < (6 : Int)) := by omega
          have hj6 : thingsL.take j = thingsL := by rw [show j = 6 by omega]; rfl
          have hh2 : h = heldN σ (k : Int) thingsL := by rw [← hj6]; exact HN.out.1
          have hw2 : wt = waitsN σ (k : Int) thingsL := by rw [← hj6]; exact HN.out.2
          obtain ⟨mq, mw, tag, qb, cb, hTA⟩ := HT.out.below (HS.out.1.trans (HB2.out.mono HS.out.1.size))
          clear hj6
          cases hth : σ.there (k : Int) with
          | false =>
            have hz := not_there_n HI.out hth
            have hs : ¬ ((h : Int) + (wt : Int) > 0) := by rw [← hh2] at hz; rw [← hw2] at hz; omega
            have h1 : ¬ ((wt : Int) > 1) := by omega
            have hwh : σ.wholeB (k : Int) = false := by
              cases hb : σ.wholeB (k : Int) with
              | false => rfl
              | true => rw [whole_there hb] at hth; simp at hth
            have HTH := Lib.hid hth
            have HWH := Lib.hid hwh
            clear hz hth hwh hh2 hw2
            go_wp2_with fail
            refine (there_tower (k : Int) hTA).mono ?_
            rintro e w4 ⟨rfl, rfl⟩
            rw [HTH.out]
            go_wp2_with fail
            refine (there_tower (k : Int) hTA).mono ?_
            rintro e w4 ⟨rfl, rfl⟩
            rw [HTH.out]
            go_wp2_with fail
            refine (whole_tower (k : Int) hTA).mono ?_
            rintro e w4 ⟨rfl, rfl⟩
            rw [HWH.out]
            go_wp2_with fail
            refine (there_tower (k : Int) hTA).mono ?_
            rintro e w4 ⟨rfl, rfl⟩
            rw [HTH.out]
            go_wp2_with fail
            refine (whole_tower (k : Int) hTA).mono ?_
            rintro e w4 ⟨rfl, rfl⟩
            rw [HWH.out]
            go_wp2
            go_roundg m
            case measure => omega
            case rel => exact ⟨k + 1, by go_num, by omega, HS.out.1.trans (HB2.out.mono HS.out.1.size)⟩
          | true =>
            have hz := whole_waits HI.out hth
            have hle := waits_one HI.out (k : Int)
            rw [← hw2] at hz hle
            have h1 : ¬ ((wt : Int) > 1) := by omega
            have HTH := Lib.hid hth
            clear hle hth
            cases hwh : σ.wholeB (k : Int) with
            | false =>
              have hw0 : ((wt : Int) == 0) = false := by rw [hwh] at hz; simp at hz; simp; omega
              have HWH := Lib.hid hwh
              clear hz hwh hh2 hw2
              go_wp2_with fail
              refine (there_tower (k : Int) hTA).mono ?_
              rintro e w4 ⟨rfl, rfl⟩
              rw [HTH.out]
              go_wp2_with fail
              refine (there_tower (k : Int) hTA).mono ?_
              rintro e w4 ⟨rfl, rfl⟩
              rw [HTH.out]
              go_wp2_with fail
              refine (whole_tower (k : Int) hTA).mono ?_
              rintro e w4 ⟨rfl, rfl⟩
              rw [HWH.out]
              go_wp2_with fail
              refine (whole_tower (k : Int) hTA).mono ?_
              rintro e w4 ⟨rfl, rfl⟩
              rw [HWH.out]
              go_wp2_with fail
              refine (there_tower (k : Int) hTA).mono ?_
              rintro e w4 ⟨rfl, rfl⟩
              rw [HTH.out]
              go_wp2
              go_roundg m
              case measure => omega
              case rel => exact ⟨k + 1, by go_num, by omega, HS.out.1.trans (HB2.out.mono HS.out.1.size)⟩
            | true =>
              have hw0 : ((wt : Int) == 0) = true := by rw [hwh] at hz; simp at hz; simp; omega
              have hro := whole_root HI.out hwh
              have hhp := has_pos (l := σ.heldL (thingOf [])) (fun g hg => (HI.out.mode (List.mem_append_left _ hg)).1) (k : Int)
              rw [hro] at hhp
              have hne : (hasI (σ.heldL (thingOf [])) (k : Int) == 0) = false := by simp at hhp; simp; omega
              have HWH := Lib.hid hwh
              clear hz hwh hh2 hw2 hro hhp
              go_wp2_with fail
              refine (there_tower (k : Int) hTA).mono ?_
              rintro e w4 ⟨rfl, rfl⟩
              rw [HTH.out]
              go_wp2_with fail
              refine (there_tower (k : Int) hTA).mono ?_
              rintro e w4 ⟨rfl, rfl⟩
              rw [HTH.out]
              go_wp2_with fail
              refine (whole_tower (k : Int) hTA).mono ?_
              rintro e w4 ⟨rfl, rfl⟩
              rw [HWH.out]
              go_wp2_with fail
              refine (whole_tower (k : Int) hTA).mono ?_
              rintro e w4 ⟨rfl, rfl⟩
              rw [HWH.out]
              go_wp2_with fail
              refine (held_tower (.slice none 0 0) [] hTA (sread_nil _) (HI.out.heldLen _)).mono ?_
              rintro e w4 ⟨vh, rfl, hvh, hb4⟩
              have HG4 := Lib.hid (And.intro (gread_of_ownsRow hvh) (HB2.out.trans (hb4.mono HB2.out.size)))
              clear hvh hb4 hTA
              go_wp2_with fail
              refine (has_any vh _ (k : Int) w4 HG4.out.1).mono ?_
              rintro e w5 ⟨rfl, hb5⟩
              have HB5 := Lib.hid (HG4.out.2.trans (hb5.mono HG4.out.2.size))
              clear hb5
              obtain ⟨mq, mw, tag, qb, cb, hTA⟩ := HT.out.below (HS.out.1.trans (HB5.out.mono HS.out.1.size))
              go_wp2_with fail
              refine (there_tower (k : Int) hTA).mono ?_
              rintro e w4 ⟨rfl, rfl⟩
              rw [HTH.out]
              go_wp2
              go_roundg m
              case measure => omega
              case rel => exact ⟨k + 1, by go_num, by omega, HS.out.1.trans (HB5.out.mono HS.out.1.size)⟩
        | succ m2 =>
          have hjn : (j : Int) < (6 : Int) := by omega
          have hj0 : (0 : Int) ≤ (j : Int) := by omega
          obtain ⟨vx, hix', hsx⟩ := index_at j hjn HS.out.2
          have hix := hix' wr
          have HX := Lib.hid (hsx.below HB2.out)
          clear hsx hix'
          go_wp2_with fail
          obtain ⟨mq, mw, tag, qb, cb, hTA⟩ := HT.out.below (HS.out.1.trans (HB2.out.mono HS.out.1.size))
          refine (held_tower vx (thingK j) hTA HX.out (HI.out.heldLen _)).mono ?_
          rintro e w3 ⟨vh, rfl, hvh, hb3⟩
          have HG3 := Lib.hid (And.intro (gread_of_ownsRow hvh) hb3)
          clear hvh hb3 hix
          go_wp2_with fail
          refine (has_any vh _ (k : Int) w3 HG3.out.1).mono ?_
          rintro e w4 ⟨rfl, hb4⟩
          have hb34 := HG3.out.2.trans (hb4.mono HG3.out.2.size)
          have HX4 := Lib.hid (HX.out.below hb34)
          have HB4 := Lib.hid (HB2.out.trans (hb34.mono HB2.out.size))
          have hhp := has_pos (l := σ.heldL (thingOf (thingK j))) (fun g hg => (HI.out.mode (List.mem_append_left _ hg)).1) (k : Int)
          clear hb4 hb34 hTA
          obtain ⟨mq, mw, tag, qb, cb, hTA⟩ := HT.out.below (HS.out.1.trans (HB4.out.mono HS.out.1.size))
          cases hbh : inB (σ.heldL (thingOf (thingK j))) (k : Int) with
          | false =>
            rw [hbh] at hhp
            have hhp2 : ¬ hasI (σ.heldL (thingOf (thingK j))) (k : Int) > 0 := by simpa using hhp
            have HH := Lib.hid hbh
            clear hbh hhp
            go_wp2_with fail
            refine (waits_tower vx (thingK j) hTA HX4.out (HI.out.waitLen _)).mono ?_
            rintro e w5 ⟨vw, rfl, hvw, hb5⟩
            have HG5 := Lib.hid (And.intro (gread_of_ownsRow hvw) (HB4.out.trans (hb5.mono HB4.out.size)))
            clear hvw hb5 hTA
            go_wp2_with fail
            refine (has_any vw _ (k : Int) w5 HG5.out.1).mono ?_
            rintro e w6 ⟨rfl, hb6⟩
            have HB6 := Lib.hid (HG5.out.2.trans (hb6.mono HG5.out.2.size))
            have hwp := has_pos (l := σ.waitL (thingOf (thingK j))) (fun g hg => (HI.out.mode (List.mem_append_right _ hg)).1) (k : Int)
            clear hb6
            cases hbw : inB (σ.waitL (thingOf (thingK j))) (k : Int) with
            | false =>
              rw [hbw] at hwp
              have hwp2 : ¬ hasI (σ.waitL (thingOf (thingK j))) (k : Int) > 0 := by simpa using hwp
              have HW := Lib.hid hbw
              clear hbw hwp
              go_wp2
              go_roundg m2
              case measure => omega
              case rel => exact ⟨j + 1, h, wt, by go_num, by go_num, rfl, by omega, by rw [heldN_step _ _ (by omega), HH.out, HN.out.1]; rfl, by rw [waitsN_step _ _ (by omega), HW.out, HN.out.2]; rfl, HB6.out⟩
            | true =>
              rw [hbw] at hwp
              have hwp2 : hasI (σ.waitL (thingOf (thingK j))) (k : Int) > 0 := by simpa using hwp
              have HW := Lib.hid hbw
              clear hbw hwp
              go_wp2
              go_roundg m2
              case measure => omega
              case rel => exact ⟨j + 1, h, wt + 1, by go_num, by go_num, by go_num, by omega, by rw [heldN_step _ _ (by omega), HH.out, HN.out.1]; rfl, by rw [waitsN_step _ _ (by omega), HW.out, HN.out.2]; rfl, HB6.out⟩
          | true =>
            rw [hbh] at hhp
            have hhp2 : hasI (σ.heldL (thingOf (thingK j))) (k : Int) > 0 := by simpa using hhp
            have HH := Lib.hid hbh
            clear hbh hhp
            go_wp2_with fail
            refine (waits_tower vx (thingK j) hTA HX4.out (HI.out.waitLen _)).mono ?_
            rintro e w5 ⟨vw, rfl, hvw, hb5⟩
            have HG5 := Lib.hid (And.intro (gread_of_ownsRow hvw) (HB4.out.trans (hb5.mono HB4.out.size)))
            clear hvw hb5 hTA
            go_wp2_with fail
            refine (has_any vw _ (k : Int) w5 HG5.out.1).mono ?_
            rintro e w6 ⟨rfl, hb6⟩
            have HB6 := Lib.hid (HG5.out.2.trans (hb6.mono HG5.out.2.size))
            have hwp := has_pos (l := σ.waitL (thingOf (thingK j))) (fun g hg => (HI.out.mode (List.mem_append_right _ hg)).1) (k : Int)
            clear hb6
            cases hbw : inB (σ.waitL (thingOf (thingK j))) (k : Int) with
            | false =>
              rw [hbw] at hwp
              have hwp2 : ¬ hasI (σ.waitL (thingOf (thingK j))) (k : Int) > 0 := by simpa using hwp
              have HW := Lib.hid hbw
              clear hbw hwp
              go_wp2
              go_roundg m2
              case measure => omega
              case rel => exact ⟨j + 1, h + 1, wt, by go_num, by go_num, rfl, by omega, by rw [heldN_step _ _ (by omega), HH.out, HN.out.1]; rfl, by rw [waitsN_step _ _ (by omega), HW.out, HN.out.2]; rfl, HB6.out⟩
            | true =>
              rw [hbw] at hwp
              have hwp2 : hasI (σ.waitL (thingOf (thingK j))) (k : Int) > 0 := by simpa using hwp
              have HW := Lib.hid hbw
              clear hbw hwp
              go_wp2
              go_roundg m2
              case measure => omega
              case rel => exact ⟨j + 1, h + 1, wt + 1, by go_num, by go_num, by go_num, by omega, by rw [heldN_step _ _ (by omega), HH.out, HN.out.1]; rfl, by rw [waitsN_step _ _ (by omega), HW.out, HN.out.2]; rfl, HB6.out⟩
end Go.Proofs.Yteghcgiclpbkdaa
