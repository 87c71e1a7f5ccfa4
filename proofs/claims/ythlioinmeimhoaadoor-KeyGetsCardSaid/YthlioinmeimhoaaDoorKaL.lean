/- KeyApart: the law's walk. -/
import Derived.Test.YthlioinmeimhoaaDoorKaP
namespace Go.Proofs.YthlioinmeimhoaaDoor
open Go.Shelf Go.RowKit Go.Lib

theorem kget_none (s : BL) (w : World) (hT : Tabs w) (hs : s.length ≤ 1000000) (hg : getL s = none) : Calls Tryd.prog 21 #[.string (BA s)] w fun e w' => e = .returned (.tuple #[.agg #[.int .i64 0, .int .i64 0, .string ⟨#[]⟩, .slice none 0 0, .slice none 0 0], .bool false]) ∧ Below w.heap.size w w' := by
  refine (kget_any s w hT hs).mono ?_
  intro e w' h
  unfold GetPost at h
  rw [hg] at h
  exact h
theorem ba_app (s t : BL) : BA s ++ BA t = BA (s ++ t) := by
  apply ByteArray.ext
  simp
theorem ba_inj {s t : BL} (h : BA s = BA t) : s = t := by rw [← ba_tlx s, h, ba_tlx]

set_option maxHeartbeats 8000000 in
set_option maxRecDepth 100000 in
theorem kapart_law (nb : Nat) (w : World) (sv tv : Value) (l m : BL) (c : Nat) (hc : c < 256) (hnb : nb ≤ w.heap.size) (h : BRead nb w sv l) (g : BRead nb w tv m) (hT : Tabs w) (hM : ML w) (hW : Words w) :
    Calls Tryd.prog 7 #[sv, tv, .int .u8 c] w fun e w' => e = .returned (.bool true) ∧ Below w.heap.size w w' := by
  have H := Lib.hid (And.intro hnb (And.intro h (And.intro hT (And.intro hM (And.intro hW g)))))
  clear hnb h hT hM hW g
  go_enter Tryd.func7, Tryd.ntmps7
  go_wp2_with fail
  refine (kawake_any _ H.out.2.2.1).mono ?_
  rintro e w1 ⟨rfl, hb1⟩
  have H1 := Lib.hid hb1
  clear hb1
  go_wp2_with fail
  refine (of_any nb w1 sv l (Nat.le_trans H.out.1 H1.out.size) (H.out.2.1.later (H1.out.mono H.out.1)) (H.out.2.2.2.2.1.later H1.out)).mono ?_
  rintro e w2 ⟨x, rfl, hx, hb2⟩
  have H2 := Lib.hid (And.intro hx (H1.out.trans (hb2.mono H1.out.size)))
  have hokl := Lib.hid hx.ok
  clear hb2 hx
  go_wp2_with fail
  refine (show Calls _ _ _ _ _ from kput_v (ofL l) _ _ _ H2.out.1 (ML.later H.out.2.2.2.1 H2.out.2) (by have := keyL_of l; omega)).mono ?_
  rintro e w3 ⟨rfl, hb3⟩
  have H3 := Lib.hid (H2.out.2.trans (hb3.mono H2.out.2.size))
  clear hb3
  obtain ⟨K, hK⟩ : ∃ K, BA (keyL (ofL l)) = K := ⟨_, rfl⟩
  rw [hK]
  go_wp2_with fail
  refine (of_any nb w3 tv m (Nat.le_trans H.out.1 H3.out.size) (H.out.2.2.2.2.2.later (H3.out.mono H.out.1)) (H.out.2.2.2.2.1.later H3.out)).mono ?_
  rintro e w4 ⟨y, rfl, hy, hb4⟩
  have H4 := Lib.hid (And.intro hy (H3.out.trans (hb4.mono H3.out.size)))
  have hokm := Lib.hid hy.ok
  clear hb4 hy
  go_wp2_with fail
  refine (show Calls _ _ _ _ _ from kput_v (ofL m) _ _ _ H4.out.1 (ML.later H.out.2.2.2.1 H4.out.2) (by have := keyL_of m; omega)).mono ?_
  rintro e w5 ⟨rfl, hb5⟩
  have H5 := Lib.hid (H4.out.2.trans (hb5.mono H4.out.2.size))
  clear hb5
  obtain ⟨L, hL⟩ : ∃ L, BA (keyL (ofL m)) = L := ⟨_, rfl⟩
  rw [hL]
  obtain ⟨n, hn⟩ : ∃ n, (keyL (ofL l)).length = n := ⟨_, rfl⟩
  have hKs : K.size = n := by rw [← hK, ba_size]; exact hn
  have hn1 : 1 ≤ n := by rw [← hn]; exact keyL_one _
  have hn2 : n ≤ 5000 := by rw [← hn]; exact keyL_of l
  have hn0 : ¬ (n : Int) = 0 := by omega
  have hrm : Int.tmod (c : Int) (n : Int) = ((c % n : Nat) : Int) := by rw [Int.tmod_eq_emod_of_nonneg (by omega)]; omega
  obtain ⟨r, hr⟩ : ∃ r, c % n = r := ⟨_, rfl⟩
  have hrn : r < n := by rw [← hr]; exact Nat.mod_lt _ (by omega)
  rw [hr] at hrm
  have hwr : IntKind.i64.wrap (r : Int) = (r : Int) := by rw [IntWalk.i64_in _ (by omega)]
  have hwc : IntKind.i64.wrap (c : Int) = (c : Int) := by rw [IntWalk.i64_in _ (by omega)]
  have hr0 : (0 : Int) ≤ (r : Int) := by omega
  have hrz : (r : Int) ≤ (n : Int) := by omega
  have HX := Lib.hid (And.intro hK (And.intro hL (And.intro hn (And.intro hr hrn))))
  clear hK hL hn hr hrn
  go_wp2_with fail
  have hKr : K.extract 0 r = BA ((keyL (ofL l)).take r) := by rw [← HX.out.1, ba_take]
  rw [hKr]
  refine (kget_none _ _ (H.out.2.2.1.below H5.out) (by rw [List.length_take]; have := keyL_of l; omega) (getL_cut _ hokl.out r (by rw [HX.out.2.2.1]; exact HX.out.2.2.2.2))).mono ?_
  rintro e w6 ⟨rfl, hb6⟩
  obtain ⟨q, hq⟩ : ∃ q, (keyL (ofL m)).length = q := ⟨_, rfl⟩
  have hLs : L.size = q := by rw [← HX.out.2.1, ba_size]; exact hq
  have hq2 : q ≤ 5000 := by rw [← hq]; exact keyL_of m
  have HQ := Lib.hid hq
  clear hq
  have hs1 : n + q ≤ 9223372036854775807 := by omega
  have hs2 : ¬ 9223372036854775807 < n + q := by omega
  have hs3 : K.size + L.size ≤ 9223372036854775807 := by omega
  have H6 := Lib.hid (H5.out.trans (hb6.mono H5.out.size))
  clear hb6 hKr
  go_wp2_with fail
  obtain ⟨W6, hW6⟩ : ∃ W, w6.alloc (.cells #[.int .i64 0, .int .i64 0, .string ⟨#[]⟩, .slice none 0 0, .slice none 0 0] 28) = W := ⟨_, rfl⟩
  have H7 := Lib.hid (show Below w.heap.size w W6 by rw [← hW6]; exact H6.out.alloc H6.out.size _)
  (try rw [hW6])
  clear hW6
  have hKL : K ++ L = BA (keyL (ofL l) ++ keyL (ofL m)) := by rw [← HX.out.1, ← HX.out.2.1, ba_app]
  rw [hKL]
  refine (kget_none _ _ (H.out.2.2.1.below H7.out) (by rw [List.length_append]; have := keyL_of l; have := keyL_of m; omega) (getL_two _ _ hokl.out)).mono ?_
  rintro e w8 ⟨rfl, hb8⟩
  have H8 := Lib.hid (H7.out.trans (hb8.mono H7.out.size))
  clear hb8 hKL
  have hz0 : (0 : Int) ≤ (n : Int) := by omega
  by_cases hgt : q < n
  · have hgz : (q : Int) < (n : Int) := by omega
    go_wp2
    go_ret
    exact ⟨rfl, H8.out.trans (((Below.refl _ w8).alloc (Nat.le_refl _) _).mono H8.out.size)⟩
  · have hgz : ¬ (q : Int) < (n : Int) := by omega
    have hgy : (n : Int) ≤ (q : Int) := by omega
    by_cases hp : L.extract 0 n = K
    · have hKL : K = L := by
        have h1 : (keyL (ofL m)).take (keyL (ofL l)).length = keyL (ofL l) := by
          apply ba_inj
          rw [← ba_take, HX.out.1, HX.out.2.1, HX.out.2.2.1]; exact hp
        rw [← HX.out.1, ← HX.out.2.1, key_begins _ _ hokl.out hokm.out h1]
      subst hKL
      go_wp2
      all_goals
        go_ret
        exact ⟨by simp, H8.out.trans (((Below.refl _ w8).alloc (Nat.le_refl _) _).mono H8.out.size)⟩
    · have hp1 : ((L.extract 0 n).toList == K.toList) = false := by
        rw [beq_eq_false_iff_ne]
        intro e
        rw [Lib.toList_data, Lib.toList_data] at e
        exact hp (ByteArray.ext (Array.toList_inj.mp e))
      go_wp2
      go_ret
      exact ⟨rfl, H8.out.trans (((Below.refl _ w8).alloc (Nat.le_refl _) _).mono H8.out.size)⟩
theorem kapart_int (nb : Nat) (w : World) (sv tv : Value) (l m : BL) (n : Int) (hn : (Lit.int .u8 n).wf = true) (hnb : nb ≤ w.heap.size) (h : BRead nb w sv l) (g : BRead nb w tv m) (hT : Tabs w) (hM : ML w) (hW : Words w) :
    Calls Tryd.prog 7 #[sv, tv, .int .u8 n] w fun e w' => e = .returned (.bool true) ∧ Below w.heap.size w w' := by
  have hr : 0 ≤ n ∧ n ≤ 255 := by simpa [Lit.wf, IntKind.min, IntKind.max, IntKind.signed, IntKind.bits] using hn
  obtain ⟨c, rfl⟩ : ∃ c : Nat, n = c := ⟨n.toNat, by omega⟩
  exact kapart_law nb w sv tv l m c (by omega) hnb h g hT hM hW
end Go.Proofs.YthlioinmeimhoaaDoor
