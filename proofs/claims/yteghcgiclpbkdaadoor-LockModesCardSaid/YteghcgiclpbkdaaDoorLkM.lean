/- LockModes: the law's walk. -/
import Derived.Test.YteghcgiclpbkdaaDoorLkA
import Derived.Test.YteghcgiclpbkdaaDoorLawG
namespace Go.Proofs.YteghcgiclpbkdaaDoor
open Go.RowKit

set_option maxHeartbeats 4000000 in
theorem modes_law (a b : Int) (w : World) (hg : ErrT w) :
    Calls Tryd.prog 3 #[.int .i64 a, .int .i64 b] w fun e w' => e = .returned (.bool true) ∧ Below w.heap.size w w' := by
  have HG := Lib.hid hg
  clear hg
  obtain ⟨i0, hi0⟩ : ∃ i0, i0 = intentI a := ⟨_, rfl⟩
  have hII := intent_intent a
  rw [← hi0] at hII
  have HII := Lib.hid hII
  have hmod := modesL a b
  rw [← hi0] at hmod
  have HMO := Lib.hid hmod
  have HI := Lib.hid hi0
  have hsy := fitsB_symm b a
  have HSY := Lib.hid hsy
  clear hII hmod hi0 hsy
  go_enter Tryd.func3, Tryd.ntmps3
  go_wp2_with fail
  refine (lawake_any w HG.out).mono ?_
  rintro e w1 ⟨rfl, hb⟩
  have HB := Lib.hid hb
  clear hb
  have hee : (i0 == i0) = true := by simp
  by_cases ha : a = 1
  · have hv : (i0 == 1) = true := by have := HI.out; rw [ha] at this; simp [this, intentI]
    have e1 : (a == 1) = true := by simp [ha]
    have e3 : (a == 3) = false := by simp [ha]
    have e2 : (a == 2) = false := by simp [ha]
    have e4 : (a == 4) = false := by simp [ha]
    have HA := Lib.hid ha
    clear ha
    cases hff : fitsB a b with
    | true =>
      have HFF := Lib.hid hff
      clear hff
      go_wp2_with fail
      refine (intent_any a _).mono ?_
      rintro e w2 ⟨rfl, rfl⟩
      rw [← HI.out]
      go_wp2_with fail
      refine (compat_any a b _).mono ?_
      rintro e w2 ⟨rfl, rfl⟩
      rw [HFF.out]
      go_wp2_with fail
      refine (goes_any a b _).mono ?_
      rintro e w2 ⟨rfl, hb2⟩
      have H2 := Lib.hid (HB.out.trans (hb2.mono HB.out.size))
      clear hb2
      rw [HFF.out]
      go_wp2_with fail
      refine (compat_any b a _).mono ?_
      rintro e w3 ⟨rfl, rfl⟩
      rw [HSY.out, HFF.out]
      go_wp2_with fail
      refine (goes_any a b _).mono ?_
      rintro e w3 ⟨rfl, hb3⟩
      have H3 := Lib.hid (H2.out.trans (hb3.mono H2.out.size))
      clear hb3
      rw [HFF.out]
      go_wp2_with fail
      refine (goes_any a b _).mono ?_
      rintro e w4 ⟨rfl, hb4⟩
      have H4 := Lib.hid (H3.out.trans (hb4.mono H3.out.size))
      clear hb4
      rw [HFF.out]
      go_wp2_with fail
      refine (compat_any i0 b _).mono ?_
      rintro e w5 ⟨rfl, rfl⟩
      rw [HMO.out HFF.out]
      go_wp2_with fail
      refine (intent_any i0 _).mono ?_
      rintro e w5 ⟨rfl, rfl⟩
      rw [HII.out]
      go_wp2
      go_ret
      exact ⟨rfl, H4.out⟩
    | false =>
      have HFF := Lib.hid hff
      clear hff
      go_wp2_with fail
      refine (intent_any a _).mono ?_
      rintro e w2 ⟨rfl, rfl⟩
      rw [← HI.out]
      go_wp2_with fail
      refine (compat_any a b _).mono ?_
      rintro e w2 ⟨rfl, rfl⟩
      rw [HFF.out]
      go_wp2_with fail
      refine (goes_any a b _).mono ?_
      rintro e w2 ⟨rfl, hb2⟩
      have H2 := Lib.hid (HB.out.trans (hb2.mono HB.out.size))
      clear hb2
      rw [HFF.out]
      go_wp2_with fail
      refine (compat_any b a _).mono ?_
      rintro e w3 ⟨rfl, rfl⟩
      rw [HSY.out, HFF.out]
      go_wp2_with fail
      refine (goes_any a b _).mono ?_
      rintro e w3 ⟨rfl, hb3⟩
      have H3 := Lib.hid (H2.out.trans (hb3.mono H2.out.size))
      clear hb3
      rw [HFF.out]
      go_wp2_with fail
      refine (goes_any a b _).mono ?_
      rintro e w4 ⟨rfl, hb4⟩
      have H4 := Lib.hid (H3.out.trans (hb4.mono H3.out.size))
      clear hb4
      rw [HFF.out]
      go_wp2_with fail
      refine (intent_any i0 _).mono ?_
      rintro e w5 ⟨rfl, rfl⟩
      rw [HII.out]
      go_wp2
      go_ret
      exact ⟨rfl, H4.out⟩
  have n1 := ha
  clear ha
  by_cases ha : a = 3
  · have hv : (i0 == 1) = true := by have := HI.out; rw [ha] at this; simp [this, intentI]
    have e1 : (a == 1) = false := by simp [ha]
    have e3 : (a == 3) = true := by simp [ha]
    have e2 : (a == 2) = false := by simp [ha]
    have e4 : (a == 4) = false := by simp [ha]
    have HA := Lib.hid ha
    clear ha
    cases hff : fitsB a b with
    | true =>
      have HFF := Lib.hid hff
      clear hff
      go_wp2_with fail
      refine (intent_any a _).mono ?_
      rintro e w2 ⟨rfl, rfl⟩
      rw [← HI.out]
      go_wp2_with fail
      refine (compat_any a b _).mono ?_
      rintro e w2 ⟨rfl, rfl⟩
      rw [HFF.out]
      go_wp2_with fail
      refine (goes_any a b _).mono ?_
      rintro e w2 ⟨rfl, hb2⟩
      have H2 := Lib.hid (HB.out.trans (hb2.mono HB.out.size))
      clear hb2
      rw [HFF.out]
      go_wp2_with fail
      refine (compat_any b a _).mono ?_
      rintro e w3 ⟨rfl, rfl⟩
      rw [HSY.out, HFF.out]
      go_wp2_with fail
      refine (goes_any a b _).mono ?_
      rintro e w3 ⟨rfl, hb3⟩
      have H3 := Lib.hid (H2.out.trans (hb3.mono H2.out.size))
      clear hb3
      rw [HFF.out]
      go_wp2_with fail
      refine (goes_any a b _).mono ?_
      rintro e w4 ⟨rfl, hb4⟩
      have H4 := Lib.hid (H3.out.trans (hb4.mono H3.out.size))
      clear hb4
      rw [HFF.out]
      go_wp2_with fail
      refine (compat_any i0 b _).mono ?_
      rintro e w5 ⟨rfl, rfl⟩
      rw [HMO.out HFF.out]
      go_wp2_with fail
      refine (intent_any i0 _).mono ?_
      rintro e w5 ⟨rfl, rfl⟩
      rw [HII.out]
      go_wp2
      go_ret
      exact ⟨rfl, H4.out⟩
    | false =>
      have HFF := Lib.hid hff
      clear hff
      go_wp2_with fail
      refine (intent_any a _).mono ?_
      rintro e w2 ⟨rfl, rfl⟩
      rw [← HI.out]
      go_wp2_with fail
      refine (compat_any a b _).mono ?_
      rintro e w2 ⟨rfl, rfl⟩
      rw [HFF.out]
      go_wp2_with fail
      refine (goes_any a b _).mono ?_
      rintro e w2 ⟨rfl, hb2⟩
      have H2 := Lib.hid (HB.out.trans (hb2.mono HB.out.size))
      clear hb2
      rw [HFF.out]
      go_wp2_with fail
      refine (compat_any b a _).mono ?_
      rintro e w3 ⟨rfl, rfl⟩
      rw [HSY.out, HFF.out]
      go_wp2_with fail
      refine (goes_any a b _).mono ?_
      rintro e w3 ⟨rfl, hb3⟩
      have H3 := Lib.hid (H2.out.trans (hb3.mono H2.out.size))
      clear hb3
      rw [HFF.out]
      go_wp2_with fail
      refine (goes_any a b _).mono ?_
      rintro e w4 ⟨rfl, hb4⟩
      have H4 := Lib.hid (H3.out.trans (hb4.mono H3.out.size))
      clear hb4
      rw [HFF.out]
      go_wp2_with fail
      refine (intent_any i0 _).mono ?_
      rintro e w5 ⟨rfl, rfl⟩
      rw [HII.out]
      go_wp2
      go_ret
      exact ⟨rfl, H4.out⟩
  have n3 := ha
  clear ha
  by_cases ha : a = 2
  · have hv : (i0 == 2) = true := by have := HI.out; rw [ha] at this; simp [this, intentI]
    have e1 : (a == 1) = false := by simp [ha]
    have e3 : (a == 3) = false := by simp [ha]
    have e2 : (a == 2) = true := by simp [ha]
    have e4 : (a == 4) = false := by simp [ha]
    have HA := Lib.hid ha
    clear ha
    cases hff : fitsB a b with
    | true =>
      have HFF := Lib.hid hff
      clear hff
      go_wp2_with fail
      refine (intent_any a _).mono ?_
      rintro e w2 ⟨rfl, rfl⟩
      rw [← HI.out]
      go_wp2_with fail
      refine (compat_any a b _).mono ?_
      rintro e w2 ⟨rfl, rfl⟩
      rw [HFF.out]
      go_wp2_with fail
      refine (goes_any a b _).mono ?_
      rintro e w2 ⟨rfl, hb2⟩
      have H2 := Lib.hid (HB.out.trans (hb2.mono HB.out.size))
      clear hb2
      rw [HFF.out]
      go_wp2_with fail
      refine (compat_any b a _).mono ?_
      rintro e w3 ⟨rfl, rfl⟩
      rw [HSY.out, HFF.out]
      go_wp2_with fail
      refine (goes_any a b _).mono ?_
      rintro e w3 ⟨rfl, hb3⟩
      have H3 := Lib.hid (H2.out.trans (hb3.mono H2.out.size))
      clear hb3
      rw [HFF.out]
      go_wp2_with fail
      refine (goes_any a b _).mono ?_
      rintro e w4 ⟨rfl, hb4⟩
      have H4 := Lib.hid (H3.out.trans (hb4.mono H3.out.size))
      clear hb4
      rw [HFF.out]
      go_wp2_with fail
      refine (compat_any i0 b _).mono ?_
      rintro e w5 ⟨rfl, rfl⟩
      rw [HMO.out HFF.out]
      go_wp2_with fail
      refine (intent_any i0 _).mono ?_
      rintro e w5 ⟨rfl, rfl⟩
      rw [HII.out]
      go_wp2
      go_ret
      exact ⟨rfl, H4.out⟩
    | false =>
      have HFF := Lib.hid hff
      clear hff
      go_wp2_with fail
      refine (intent_any a _).mono ?_
      rintro e w2 ⟨rfl, rfl⟩
      rw [← HI.out]
      go_wp2_with fail
      refine (compat_any a b _).mono ?_
      rintro e w2 ⟨rfl, rfl⟩
      rw [HFF.out]
      go_wp2_with fail
      refine (goes_any a b _).mono ?_
      rintro e w2 ⟨rfl, hb2⟩
      have H2 := Lib.hid (HB.out.trans (hb2.mono HB.out.size))
      clear hb2
      rw [HFF.out]
      go_wp2_with fail
      refine (compat_any b a _).mono ?_
      rintro e w3 ⟨rfl, rfl⟩
      rw [HSY.out, HFF.out]
      go_wp2_with fail
      refine (goes_any a b _).mono ?_
      rintro e w3 ⟨rfl, hb3⟩
      have H3 := Lib.hid (H2.out.trans (hb3.mono H2.out.size))
      clear hb3
      rw [HFF.out]
      go_wp2_with fail
      refine (goes_any a b _).mono ?_
      rintro e w4 ⟨rfl, hb4⟩
      have H4 := Lib.hid (H3.out.trans (hb4.mono H3.out.size))
      clear hb4
      rw [HFF.out]
      go_wp2_with fail
      refine (intent_any i0 _).mono ?_
      rintro e w5 ⟨rfl, rfl⟩
      rw [HII.out]
      go_wp2
      go_ret
      exact ⟨rfl, H4.out⟩
  have n2 := ha
  clear ha
  by_cases ha : a = 4
  · have hv : (i0 == 2) = true := by have := HI.out; rw [ha] at this; simp [this, intentI]
    have e1 : (a == 1) = false := by simp [ha]
    have e3 : (a == 3) = false := by simp [ha]
    have e2 : (a == 2) = false := by simp [ha]
    have e4 : (a == 4) = true := by simp [ha]
    have HA := Lib.hid ha
    clear ha
    cases hff : fitsB a b with
    | true =>
      have HFF := Lib.hid hff
      clear hff
      go_wp2_with fail
      refine (intent_any a _).mono ?_
      rintro e w2 ⟨rfl, rfl⟩
      rw [← HI.out]
      go_wp2_with fail
      refine (compat_any a b _).mono ?_
      rintro e w2 ⟨rfl, rfl⟩
      rw [HFF.out]
      go_wp2_with fail
      refine (goes_any a b _).mono ?_
      rintro e w2 ⟨rfl, hb2⟩
      have H2 := Lib.hid (HB.out.trans (hb2.mono HB.out.size))
      clear hb2
      rw [HFF.out]
      go_wp2_with fail
      refine (compat_any b a _).mono ?_
      rintro e w3 ⟨rfl, rfl⟩
      rw [HSY.out, HFF.out]
      go_wp2_with fail
      refine (goes_any a b _).mono ?_
      rintro e w3 ⟨rfl, hb3⟩
      have H3 := Lib.hid (H2.out.trans (hb3.mono H2.out.size))
      clear hb3
      rw [HFF.out]
      go_wp2_with fail
      refine (goes_any a b _).mono ?_
      rintro e w4 ⟨rfl, hb4⟩
      have H4 := Lib.hid (H3.out.trans (hb4.mono H3.out.size))
      clear hb4
      rw [HFF.out]
      go_wp2_with fail
      refine (compat_any i0 b _).mono ?_
      rintro e w5 ⟨rfl, rfl⟩
      rw [HMO.out HFF.out]
      go_wp2_with fail
      refine (intent_any i0 _).mono ?_
      rintro e w5 ⟨rfl, rfl⟩
      rw [HII.out]
      go_wp2
      go_ret
      exact ⟨rfl, H4.out⟩
    | false =>
      have HFF := Lib.hid hff
      clear hff
      go_wp2_with fail
      refine (intent_any a _).mono ?_
      rintro e w2 ⟨rfl, rfl⟩
      rw [← HI.out]
      go_wp2_with fail
      refine (compat_any a b _).mono ?_
      rintro e w2 ⟨rfl, rfl⟩
      rw [HFF.out]
      go_wp2_with fail
      refine (goes_any a b _).mono ?_
      rintro e w2 ⟨rfl, hb2⟩
      have H2 := Lib.hid (HB.out.trans (hb2.mono HB.out.size))
      clear hb2
      rw [HFF.out]
      go_wp2_with fail
      refine (compat_any b a _).mono ?_
      rintro e w3 ⟨rfl, rfl⟩
      rw [HSY.out, HFF.out]
      go_wp2_with fail
      refine (goes_any a b _).mono ?_
      rintro e w3 ⟨rfl, hb3⟩
      have H3 := Lib.hid (H2.out.trans (hb3.mono H2.out.size))
      clear hb3
      rw [HFF.out]
      go_wp2_with fail
      refine (goes_any a b _).mono ?_
      rintro e w4 ⟨rfl, hb4⟩
      have H4 := Lib.hid (H3.out.trans (hb4.mono H3.out.size))
      clear hb4
      rw [HFF.out]
      go_wp2_with fail
      refine (intent_any i0 _).mono ?_
      rintro e w5 ⟨rfl, rfl⟩
      rw [HII.out]
      go_wp2
      go_ret
      exact ⟨rfl, H4.out⟩
  have n4 := ha
  clear ha
  have hv : (i0 == 0) = true := by have := HI.out; simp [this, intentI, n1, n2, n3, n4]
  have e1 : (a == 1) = false := by simpa using n1
  have e3 : (a == 3) = false := by simpa using n3
  have e2 : (a == 2) = false := by simpa using n2
  have e4 : (a == 4) = false := by simpa using n4
  clear n1 n2 n3 n4
  cases hff : fitsB a b with
  | true =>
    have HFF := Lib.hid hff
    clear hff
    go_wp2_with fail
    refine (intent_any a _).mono ?_
    rintro e w2 ⟨rfl, rfl⟩
    rw [← HI.out]
    go_wp2_with fail
    refine (compat_any a b _).mono ?_
    rintro e w2 ⟨rfl, rfl⟩
    rw [HFF.out]
    go_wp2_with fail
    refine (goes_any a b _).mono ?_
    rintro e w2 ⟨rfl, hb2⟩
    have H2 := Lib.hid (HB.out.trans (hb2.mono HB.out.size))
    clear hb2
    rw [HFF.out]
    go_wp2_with fail
    refine (compat_any b a _).mono ?_
    rintro e w3 ⟨rfl, rfl⟩
    rw [HSY.out, HFF.out]
    go_wp2_with fail
    refine (goes_any a b _).mono ?_
    rintro e w3 ⟨rfl, hb3⟩
    have H3 := Lib.hid (H2.out.trans (hb3.mono H2.out.size))
    clear hb3
    rw [HFF.out]
    go_wp2_with fail
    refine (goes_any a b _).mono ?_
    rintro e w4 ⟨rfl, hb4⟩
    have H4 := Lib.hid (H3.out.trans (hb4.mono H3.out.size))
    clear hb4
    rw [HFF.out]
    go_wp2_with fail
    refine (compat_any i0 b _).mono ?_
    rintro e w5 ⟨rfl, rfl⟩
    rw [HMO.out HFF.out]
    go_wp2_with fail
    refine (intent_any i0 _).mono ?_
    rintro e w5 ⟨rfl, rfl⟩
    rw [HII.out]
    go_wp2
    go_ret
    exact ⟨rfl, H4.out⟩
  | false =>
    have HFF := Lib.hid hff
    clear hff
    go_wp2_with fail
    refine (intent_any a _).mono ?_
    rintro e w2 ⟨rfl, rfl⟩
    rw [← HI.out]
    go_wp2_with fail
    refine (compat_any a b _).mono ?_
    rintro e w2 ⟨rfl, rfl⟩
    rw [HFF.out]
    go_wp2_with fail
    refine (goes_any a b _).mono ?_
    rintro e w2 ⟨rfl, hb2⟩
    have H2 := Lib.hid (HB.out.trans (hb2.mono HB.out.size))
    clear hb2
    rw [HFF.out]
    go_wp2_with fail
    refine (compat_any b a _).mono ?_
    rintro e w3 ⟨rfl, rfl⟩
    rw [HSY.out, HFF.out]
    go_wp2_with fail
    refine (goes_any a b _).mono ?_
    rintro e w3 ⟨rfl, hb3⟩
    have H3 := Lib.hid (H2.out.trans (hb3.mono H2.out.size))
    clear hb3
    rw [HFF.out]
    go_wp2_with fail
    refine (goes_any a b _).mono ?_
    rintro e w4 ⟨rfl, hb4⟩
    have H4 := Lib.hid (H3.out.trans (hb4.mono H3.out.size))
    clear hb4
    rw [HFF.out]
    go_wp2_with fail
    refine (intent_any i0 _).mono ?_
    rintro e w5 ⟨rfl, rfl⟩
    rw [HII.out]
    go_wp2
    go_ret
    exact ⟨rfl, H4.out⟩
end Go.Proofs.YteghcgiclpbkdaaDoor
