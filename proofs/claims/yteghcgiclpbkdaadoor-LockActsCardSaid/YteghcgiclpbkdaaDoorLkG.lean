/- LockGone: the law's walk. -/
import Derived.Test.YteghcgiclpbkdaaDoorLkT
import Derived.Test.YteghcgiclpbkdaaDoorLkU
namespace Go.Proofs.YteghcgiclpbkdaaDoor
open Go.RowKit

set_option maxHeartbeats 400000 in
theorem lgone_isC : IsCL (.func (.func 31) #[] #[]) := by
  refine ⟨_, rfl, fun args w1 => by kernel_rfl, fun s B T q w1 hr hq => ?_⟩
  clear hr hq
  go_enter Tryd.func31, Tryd.ntmps31
  go_wp2
  go_ret
  exact ⟨rfl, Below.refl _ _⟩
set_option maxHeartbeats 400000 in
theorem lfair_isC : IsCL (.func (.func 30) #[] #[]) := by
  refine ⟨_, rfl, fun args w1 => by kernel_rfl, fun s B T q w1 hr hq => ?_⟩
  clear hr hq
  go_enter Tryd.func30, Tryd.ntmps30
  go_wp2
  go_ret
  exact ⟨rfl, Below.refl _ _⟩

theorem own_stay {B T base n size : Nat} {w w1 : World} {e : TypeId} {v : Value} {xs : List Value} (h : w.ownsRow base e size v n xs) (ho : Only (fun b => B ≤ b ∧ b < T) w w1) (hT : T ≤ base) : w1.ownsRow base e size v n xs :=
  own_only h ho (fun g hg hs => by have := own_blk_ge h hg; omega)

set_option maxHeartbeats 4000000 in
theorem lgone_law (v : Value) (l : List LDeed) (id : Int) (w : World) (hv : LRead w v l) (hg : ErrT w) :
    Calls Tryd.prog 8 #[v, .int .i64 id] w fun e w' => e = .returned (.bool true) ∧ Below w.heap.size w w' := by
  have HV := Lib.hid hv
  have HG := Lib.hid hg
  clear hv hg
  go_enter Tryd.func8, Tryd.ntmps8
  go_wp2_with fail
  refine (lawake_any _ HG.out).mono ?_
  rintro e w1 ⟨rfl, hb⟩
  have HB := Lib.hid hb
  clear hb
  go_wp2_with fail
  refine (lplay_any v _ l w1 (HV.out.below HB.out) lgone_isC).mono ?_
  rintro e w2 ⟨q, rfl, hq, hr, hb2⟩
  obtain ⟨s, hs⟩ : ∃ s, s = runL (l.take 80) := ⟨_, rfl⟩
  rw [← hs] at hq hr
  have HI := Lib.hid (reachL_inv hr)
  have hlen := reachL_len hr
  have H2 := Lib.hid (And.intro hq (HB.out.trans (hb2.mono HB.out.size)))
  clear hs hq hr hb2
  go_wp2_with fail
  refine (held_any H2.out.1.1 (by omega)).mono ?_
  rintro e w3 ⟨vh, rfl, hvh, hb3⟩
  obtain ⟨_, a3, c3, rfl, _⟩ := gread_of_ownsRow hvh
  have H3 := Lib.hid (And.intro (H2.out.1.below hb3) (And.intro (H2.out.2.trans (hb3.mono H2.out.2.size)) (And.intro hvh hb3.size)))
  clear hvh hb3
  go_wp2_with fail
  refine (waits_any H3.out.1.1 (by omega)).mono ?_
  rintro e w4 ⟨vw, rfl, hvw, hb4⟩
  obtain ⟨_, a4, c4, rfl, _⟩ := gread_of_ownsRow hvw
  have H4 := Lib.hid (And.intro (H3.out.1.below hb4) (And.intro (H3.out.2.1.trans (hb4.mono H3.out.2.1.size)) (And.intro (own_below H3.out.2.2.1 hb4) hvw)))
  clear hvw hb4
  go_wp2_with fail
  refine (lthere_any _ _ _ _ id _ (gread_of_ownsRow H4.out.2.2.1) (gread_of_ownsRow H4.out.2.2.2) (by omega)).mono ?_
  rintro e w5 ⟨rfl, hb5⟩
  have H5 := Lib.hid (And.intro (H4.out.1.below hb5) (And.intro (H4.out.2.1.trans (hb5.mono H4.out.2.1.size)) (And.intro (own_below H4.out.2.2.1 hb5) (own_below H4.out.2.2.2 hb5))))
  clear hb5
  obtain ⟨th, hth⟩ : ∃ th, th = thereB s.1 s.2 id := ⟨_, rfl⟩
  rw [← hth]
  have HTH := Lib.hid hth
  clear hth
  go_wp2_with fail
  refine (lq_free id H5.out.1 (by omega)).mono ?_
  rintro e w6 ⟨v6, rfl, hv6, hq6, hO6⟩
  have hg6 := goneL s id
  obtain ⟨s6, hs6⟩ : ∃ s6, s6 = freeS s id := ⟨_, rfl⟩
  rw [← hs6] at hq6 hg6
  have hlen6 : s6.1.length + s6.2.length ≤ s.1.length + s.2.length := by
    rw [hs6]
    have h1 := congrArg List.length (promote_append (stay id s.2) (stay id s.1))
    simp only [List.length_append] at h1
    have h2 : (stay id s.1).length ≤ s.1.length := List.length_filter_le _ _
    have h3 : (stay id s.2).length ≤ s.2.length := List.length_filter_le _ _
    show (promote (stay id s.1) (stay id s.2)).1.length + (promote (stay id s.1) (stay id s.2)).2.1.length ≤ _
    omega
  have hb26 : Below w1.heap.size w5 w6 := hO6.lq H5.out.1.ge
  have H6 := Lib.hid (And.intro hq6 (And.intro (H5.out.2.1.trans (hb26.mono HB.out.size)) (And.intro (own_stay H5.out.2.2.1 hO6 (Nat.le_refl _)) (And.intro (own_stay H5.out.2.2.2 hO6 H3.out.2.2.2) hv6))))
  have HS6 := Lib.hid (And.intro hs6 hg6)
  obtain ⟨_, a6, c6, rfl, _⟩ := iread_of_own hv6
  clear hv6 hq6 hO6 hg6 hs6 hb26
  go_wp2_with fail
  refine (held_any H6.out.1.1 (by omega)).mono ?_
  rintro e w7 ⟨vk, rfl, hvk, hb7⟩
  obtain ⟨_, a7, c7, rfl, _⟩ := gread_of_ownsRow hvk
  have H7 := Lib.hid (And.intro (H6.out.1.below hb7) (And.intro (H6.out.2.1.trans (hb7.mono H6.out.2.1.size)) (And.intro (own_below H6.out.2.2.1 hb7) (And.intro (own_below H6.out.2.2.2.1 hb7) hvk))))
  clear hvk hb7
  go_wp2_with fail
  refine (waits_any H7.out.1.1 (by omega)).mono ?_
  rintro e w8 ⟨vl, rfl, hvl, hb8⟩
  obtain ⟨_, a8, c8, rfl, _⟩ := gread_of_ownsRow hvl
  have H8 := Lib.hid (And.intro (H7.out.1.below hb8) (And.intro (H7.out.2.1.trans (hb8.mono H7.out.2.1.size)) (And.intro (own_below H7.out.2.2.1 hb8) (And.intro (own_below H7.out.2.2.2.1 hb8) (And.intro (own_below H7.out.2.2.2.2 hb8) hvl)))))
  clear hvl hb8
  go_wp2_with fail
  refine (lthere_any _ _ _ _ id _ (gread_of_ownsRow H8.out.2.2.2.2.1) (gread_of_ownsRow H8.out.2.2.2.2.2) (by omega)).mono ?_
  rintro e w9 ⟨rfl, hb9⟩
  rw [HS6.out.2]
  have H9 := Lib.hid (And.intro (H8.out.1.below hb9) (And.intro (H8.out.2.1.trans (hb9.mono H8.out.2.1.size)) (And.intro (own_below H8.out.2.2.1 hb9) (own_below H8.out.2.2.2.1 hb9))))
  clear hb9
  cases th with
  | true =>
    go_wp2
    go_ret
    exact ⟨rfl, H9.out.2.1⟩
  | false =>
    have hfree := goneL_none HI.out HTH.out.symm
    have hso : freeQ s.1 s.2 id = (s6.1, s6.2, []) := by rw [HS6.out.1]; unfold freeS; rw [hfree]
    have hs1 : s6.1 = s.1 := by rw [hfree] at hso; exact (Prod.mk.inj hso).1.symm
    have hs2 : s6.2 = s.2 := by rw [hfree] at hso; exact (Prod.mk.inj (Prod.mk.inj hso).2).1.symm
    have hl0 : (((freeQ s.1 s.2 id).2.2.length : Int) == 0) = true := by rw [hfree]; rfl
    have HF := Lib.hid (And.intro hs1 hs2)
    clear hfree hso hs1 hs2
    go_wp2_with fail
    refine (held_any H9.out.1.1 (by omega)).mono ?_
    rintro e w10 ⟨vm, rfl, hvm, hb10⟩
    rw [HF.out.1] at hvm
    have H10 := Lib.hid (And.intro (H9.out.1.below hb10) (And.intro (H9.out.2.1.trans (hb10.mono H9.out.2.1.size)) (And.intro (own_below H9.out.2.2.1 hb10) (And.intro (own_below H9.out.2.2.2 hb10) hvm))))
    clear hvm hb10
    go_wp2_with fail
    refine (gsame_any _ _ s.1 s.1 _ (gread_of_ownsRow H10.out.2.2.1) (gread_of_ownsRow H10.out.2.2.2.2)).mono ?_
    rintro e w11 ⟨rfl, hb11⟩
    rw [decide_eq_true (rfl : s.1 = s.1)]
    have H11 := Lib.hid (And.intro (H10.out.1.below hb11) (And.intro (H10.out.2.1.trans (hb11.mono H10.out.2.1.size)) (own_below H10.out.2.2.2.1 hb11)))
    clear hb11
    go_wp2_with fail
    refine (waits_any H11.out.1.1 (by omega)).mono ?_
    rintro e w12 ⟨vn, rfl, hvn, hb12⟩
    rw [HF.out.2] at hvn
    have H12 := Lib.hid (And.intro (H11.out.2.1.trans (hb12.mono H11.out.2.1.size)) (And.intro (own_below H11.out.2.2 hb12) hvn))
    clear hvn hb12
    go_wp2_with fail
    refine (gsame_any _ _ s.2 s.2 _ (gread_of_ownsRow H12.out.2.1) (gread_of_ownsRow H12.out.2.2)).mono ?_
    rintro e w13 ⟨rfl, hb13⟩
    rw [decide_eq_true (rfl : s.2 = s.2)]
    have H13 := Lib.hid (H12.out.1.trans (hb13.mono H12.out.1.size))
    clear hb13
    go_wp2
    go_ret
    exact ⟨rfl, H13.out⟩
end Go.Proofs.YteghcgiclpbkdaaDoor
