/- The law's char. -/
import Derived.Test.YthlioinmeimhoaaDoorTxZ
import Derived.Lib.SlBytesConst
import Derived.Lib.SmallJoins
namespace Go.Proofs.YthlioinmeimhoaaDoor
open Go.Shelf Go.RowKit Go.Lib

theorem ret_pair {a b : Int} {c d : Int} (h : a = c) (k : b = d) : Ending.returned (.tuple #[.int .i32 a, .int .i64 b]) = .returned (.tuple #[.int .i32 c, .int .i64 d]) := by rw [h, k]
theorem escL_none (b : UInt8) (h0 : ¬ b = 34) (h1 : ¬ b = 92) (h2 : ¬ b = 47) (h3 : ¬ b = 98) (h4 : ¬ b = 102) (h5 : ¬ b = 110) (h6 : ¬ b = 114) (h7 : ¬ b = 116) : escL b.toNat = 0 := by
  have n : ∀ k : UInt8, ¬ b = k → ¬ b.toNat = k.toNat := fun k h e => h (UInt8.toNat_inj.1 e)
  have a0 : ¬ b.toNat = 34 := n 34 h0
  have a1 : ¬ b.toNat = 92 := n 92 h1
  have a2 : ¬ b.toNat = 47 := n 47 h2
  have a3 : ¬ b.toNat = 98 := n 98 h3
  have a4 : ¬ b.toNat = 102 := n 102 h4
  have a5 : ¬ b.toNat = 110 := n 110 h5
  have a6 : ¬ b.toNat = 114 := n 114 h6
  have a7 : ¬ b.toNat = 116 := n 116 h7
  unfold escL
  rw [if_neg a0, if_neg a1, if_neg a2, if_neg a3, if_neg a4, if_neg a5, if_neg a6, if_neg a7]
theorem char_x (D : BL) (h : (decodeL D).1 = 92) (hx : escL (D.getD 1 0).toNat ≠ 0) : charL D = ((escL (D.getD 1 0).toNat : Int), 2) := by
  unfold charL
  rw [if_neg (by omega), if_neg (by omega), if_pos hx]
theorem char_n (D : BL) (h : (decodeL D).1 = 92) (hx : escL (D.getD 1 0).toNat = 0) (hu : D.getD 1 0 ≠ 117) : charL D = (0, 0) := by
  unfold charL
  rw [if_neg (by omega), if_neg (by omega), if_neg (by omega), if_pos hu]
theorem char_w (D : BL) (h : (decodeL D).1 = 92) (hu : D.getD 1 0 = 117) : charL D = if (wideL (D.drop 2)).2 = 0 then (0, 0) else ((wideL (D.drop 2)).1, (wideL (D.drop 2)).2 + 2) := by
  unfold charL
  rw [if_neg (by omega), if_neg (by omega), if_neg (by rw [hu]; decide), if_neg (by rw [hu]; decide)]

set_option maxHeartbeats 8000000 in
set_option maxRecDepth 100000 in
theorem char_plain (s : ByteArray) (at_ : Nat) (w : World) (_hs : s.size ≤ 1099511627000) (hat : at_ < s.size) (h92 : (decodeL (s.data.toList.drop at_)).1 ≠ 92) :
    Calls Tryd.prog 54 #[.string s, .int .i64 at_] w fun e w' => e = .returned (.tuple #[.int .i32 (charL (s.data.toList.drop at_)).1, .int .i64 (charL (s.data.toList.drop at_)).2]) ∧ Below w.heap.size w w' := by
  obtain ⟨L, hL⟩ : ∃ L, s.data.toList = L := ⟨_, rfl⟩
  have hLs : L.length = s.size := by rw [← hL, ← size_eq]
  have hgL : ∀ i, s.get! i = L.getD i 0 := fun i => by rw [← getD_get!', hL]
  have cU := fun n (hn : n ≤ 1099511627776) W => unit_law s n W hn
  simp only [hL] at cU; rw [hL] at h92
  obtain ⟨D, hD⟩ : ∃ D, L.drop at_ = D := ⟨_, rfl⟩
  have hDl : D.length = s.size - at_ := by rw [← hD, List.length_drop]; omega
  have hDne : D ≠ [] := fun e => by rw [e] at hDl; simp at hDl; omega
  have hgD : ∀ j, D.getD j 0 = s.get! (at_ + j) := fun j => by rw [← hD, getD_drop0, hgL]
  have hdd : ∀ j, L.drop (at_ + j) = D.drop j := fun j => by rw [← hD, List.drop_drop]
  obtain ⟨X, hX⟩ : ∃ X, s.extract at_ s.size = X := ⟨_, rfl⟩
  have hXD : X.data.toList = D := by rw [← hX, drop_ba s at_ (by omega), hL, hD]
  have cF : ∀ W, Calls Tryd.prog 35 #[.string X] W _ := fun W => first_any X W
  simp only [hXD, firstL, if_neg hDne] at cF
  rw [hL, hD]
  rw [hD] at h92
  have hKw := decodeL_width D
  have hatz : (at_ : Int) ≤ (s.size : Int) := by omega
  have ce := char_err D; have cl := char_low D; have cs := char_self D; have cx := char_x D; have cn := char_n D; have cw := char_w D
  obtain ⟨R, hR⟩ : ∃ R, (decodeL D).1 = R := ⟨_, rfl⟩
  obtain ⟨K, hK⟩ : ∃ K, (decodeL D).2 = K := ⟨_, rfl⟩
  simp only [hR, hK] at cF ce cl cs cx cn cw h92
  rw [hK] at hKw
  clear hL hXD hR hK
  clear cU cx cn cw hgL hgD hdd
  by_cases h1 : R < 32
  · rw [cl h1]
    have hd1 : decide ((R : Int) < 32) = true := decide_eq_true (by omega)
    clear ce cl cs h92
    go_enter Tryd.func54, Tryd.ntmps54
    go_wp2_with fail
    refine (cF _).mono ?_
    rintro e w1 ⟨rfl, hb1⟩
    have HB := Lib.hid hb1
    clear hb1
    go_wp2
    go_ret2
    exact ⟨rfl, HB.out⟩
  have hd1 : decide ((R : Int) < 32) = false := decide_eq_false (by omega)
  by_cases h2 : R = 65533 ∧ K = 1
  · rw [ce h2.1 h2.2]
    obtain ⟨rfl, rfl⟩ := h2
    clear ce cl cs h92 hd1 h1
    go_enter Tryd.func54, Tryd.ntmps54
    go_wp2_with fail
    refine (cF _).mono ?_
    rintro e w1 ⟨rfl, hb1⟩
    have HB := Lib.hid hb1
    clear hb1
    go_wp2
    go_ret2
    exact ⟨rfl, HB.out⟩
  rw [cs h1 h2 h92]
  have z1 : ((R : Int) == 92) = false := beq_eq_false_iff_ne.2 (by omega)
  have z2 : ((R : Int) != 92) = true := by simp [bne, z1]
  by_cases h65 : R = 65533
  · have hK1 : ((K : Int) == 1) = false := beq_eq_false_iff_ne.2 (fun h => h2 ⟨h65, by omega⟩)
    have h65z : (R : Int) = 65533 := by omega
    rw [h65z] at cF
    rw [h65z]
    clear ce cl cs h92 hd1 h1 h2 h65 h65z z1 z2
    go_enter Tryd.func54, Tryd.ntmps54
    go_wp2_with fail
    refine (cF _).mono ?_
    rintro e w1 ⟨rfl, hb1⟩
    have HB := Lib.hid hb1
    clear hb1
    go_wp2
    go_ret2
    exact ⟨rfl, HB.out⟩
  · have h65z : ((R : Int) == 65533) = false := beq_eq_false_iff_ne.2 (by omega)
    clear ce cl cs h92 h1 h2 h65
    go_enter Tryd.func54, Tryd.ntmps54
    go_wp2_with fail
    refine (cF _).mono ?_
    rintro e w1 ⟨rfl, hb1⟩
    have HB := Lib.hid hb1
    clear hb1
    go_wp2
    go_ret2
    exact ⟨rfl, HB.out⟩

set_option maxHeartbeats 8000000 in
set_option maxRecDepth 100000 in
theorem char_back (s : ByteArray) (at_ : Nat) (w : World) (hs : s.size ≤ 1099511627000) (hat : at_ < s.size) (h92 : (decodeL (s.data.toList.drop at_)).1 = 92) :
    Calls Tryd.prog 54 #[.string s, .int .i64 at_] w fun e w' => e = .returned (.tuple #[.int .i32 (charL (s.data.toList.drop at_)).1, .int .i64 (charL (s.data.toList.drop at_)).2]) ∧ Below w.heap.size w w' := by
  obtain ⟨L, hL⟩ : ∃ L, s.data.toList = L := ⟨_, rfl⟩
  have hLs : L.length = s.size := by rw [← hL, ← size_eq]
  have hgL : ∀ i, s.get! i = L.getD i 0 := fun i => by rw [← getD_get!', hL]
  have cU := fun n (hn : n ≤ 1099511627776) W => unit_law s n W hn
  simp only [hL] at cU; rw [hL] at h92
  obtain ⟨D, hD⟩ : ∃ D, L.drop at_ = D := ⟨_, rfl⟩
  have hDl : D.length = s.size - at_ := by rw [← hD, List.length_drop]; omega
  have hDne : D ≠ [] := fun e => by rw [e] at hDl; simp at hDl; omega
  have hgD : ∀ j, D.getD j 0 = s.get! (at_ + j) := fun j => by rw [← hD, getD_drop0, hgL]
  have hdd : ∀ j, L.drop (at_ + j) = D.drop j := fun j => by rw [← hD, List.drop_drop]
  obtain ⟨X, hX⟩ : ∃ X, s.extract at_ s.size = X := ⟨_, rfl⟩
  have hXD : X.data.toList = D := by rw [← hX, drop_ba s at_ (by omega), hL, hD]
  have cF : ∀ W, Calls Tryd.prog 35 #[.string X] W _ := fun W => first_any X W
  simp only [hXD, firstL, if_neg hDne] at cF
  rw [hL, hD]
  rw [hD] at h92
  have hKw := decodeL_width D
  have hatz : (at_ : Int) ≤ (s.size : Int) := by omega
  have ce := char_err D; have cl := char_low D; have cs := char_self D; have cx := char_x D; have cn := char_n D; have cw := char_w D
  obtain ⟨R, hR⟩ : ∃ R, (decodeL D).1 = R := ⟨_, rfl⟩
  obtain ⟨K, hK⟩ : ∃ K, (decodeL D).2 = K := ⟨_, rfl⟩
  simp only [hR, hK] at cF ce cl cs cx cn cw h92
  rw [hK] at hKw
  clear hL hXD hR hK
  clear ce cl cs
  subst h92
  have w1e : IntKind.i64.wrap ((at_ : Int) + 1) = ((at_ + 1 : Nat) : Int) := by rw [IntWalk.i64_in _ (by omega)]; omega
  have w2e : IntKind.i64.wrap ((at_ : Int) + 2) = ((at_ + 2 : Nat) : Int) := by rw [IntWalk.i64_in _ (by omega)]; omega
  have w6e : IntKind.i64.wrap ((at_ : Int) + 6) = ((at_ + 6 : Nat) : Int) := by rw [IntWalk.i64_in _ (by omega)]; omega
  have w7e : IntKind.i64.wrap ((at_ : Int) + 7) = ((at_ + 7 : Nat) : Int) := by rw [IntWalk.i64_in _ (by omega)]; omega
  have w8e : IntKind.i64.wrap ((at_ : Int) + 8) = ((at_ + 8 : Nat) : Int) := by rw [IntWalk.i64_in _ (by omega)]; omega
  obtain ⟨I1, hI1⟩ : ∃ I, at_ + 1 = I := ⟨_, rfl⟩
  rw [hI1] at w1e
  by_cases h1 : I1 < s.size
  · have h1z : ¬ (s.size : Int) ≤ (I1 : Int) := by omega
    have h1y : (I1 : Int) < (s.size : Int) := by omega
    obtain ⟨b, hb⟩ : ∃ b, s[I1]'h1 = b := ⟨_, rfl⟩
    have hbD : D.getD 1 0 = b := by rw [hgD, hI1, Utf8W.get!_of_lt s I1 h1, hb]
    rw [hbD] at cx cn cw
    by_cases hx0 : b = 34
    · subst hx0
      rw [cx rfl (by decide), show (escL ((34 : UInt8)).toNat : Int) = 34 from rfl]
      clear cx cn cw cU hgL hgD hdd hbD
      go_enter Tryd.func54, Tryd.ntmps54
      go_wp2_with fail
      refine (cF _).mono ?_
      rintro e w1 ⟨rfl, hb1⟩
      have HB := Lib.hid hb1
      clear hb1
      have hconv : (convert 22 22 (.slice (some ⟨w1.heap.size, 0, none⟩) 8 8)).run Tryd.prog (w1.alloc (.cells #[.int .u8 34, .int .u8 92, .int .u8 47, .int .u8 98, .int .u8 102, .int .u8 110, .int .u8 114, .int .u8 116] 5)) = .ok (.slice (some ⟨w1.heap.size, 0, none⟩) 8 8) (w1.alloc (.cells #[.int .u8 34, .int .u8 92, .int .u8 47, .int .u8 98, .int .u8 102, .int .u8 110, .int .u8 114, .int .u8 116] 5 (8, 9))) :=
        Lib.run_convert_bytes_const w1 _ _ _ 8 8 Tryd.underlying22 Tryd.underlying5
      have hcm := fun j => World.cell?_alloc_mark w1 #[.int .u8 34, .int .u8 92, .int .u8 47, .int .u8 98, .int .u8 102, .int .u8 110, .int .u8 114, .int .u8 116] 5 (8, 9) j
      go_wp2
      refine wp_loop_rounds 1 ?_
      rw [rounds_succ]
      go_wp2
      go_ret2
      exact ⟨rfl, (HB.out.alloc HB.out.size _).alloc (by have := HB.out.size; simp; omega) _⟩
    by_cases hx1 : b = 92
    · subst hx1
      rw [cx rfl (by decide), show (escL ((92 : UInt8)).toNat : Int) = 92 from rfl]
      clear cx cn cw cU hgL hgD hdd hbD
      go_enter Tryd.func54, Tryd.ntmps54
      go_wp2_with fail
      refine (cF _).mono ?_
      rintro e w1 ⟨rfl, hb1⟩
      have HB := Lib.hid hb1
      clear hb1
      have hconv : (convert 22 22 (.slice (some ⟨w1.heap.size, 0, none⟩) 8 8)).run Tryd.prog (w1.alloc (.cells #[.int .u8 34, .int .u8 92, .int .u8 47, .int .u8 98, .int .u8 102, .int .u8 110, .int .u8 114, .int .u8 116] 5)) = .ok (.slice (some ⟨w1.heap.size, 0, none⟩) 8 8) (w1.alloc (.cells #[.int .u8 34, .int .u8 92, .int .u8 47, .int .u8 98, .int .u8 102, .int .u8 110, .int .u8 114, .int .u8 116] 5 (8, 9))) :=
        Lib.run_convert_bytes_const w1 _ _ _ 8 8 Tryd.underlying22 Tryd.underlying5
      have hcm := fun j => World.cell?_alloc_mark w1 #[.int .u8 34, .int .u8 92, .int .u8 47, .int .u8 98, .int .u8 102, .int .u8 110, .int .u8 114, .int .u8 116] 5 (8, 9) j
      go_wp2
      refine wp_loop_rounds 2 ?_
      rw [rounds_succ]
      go_wp2
      rw [rounds_succ]
      go_wp2
      go_ret2
      exact ⟨rfl, (HB.out.alloc HB.out.size _).alloc (by have := HB.out.size; simp; omega) _⟩
    by_cases hx2 : b = 47
    · subst hx2
      rw [cx rfl (by decide), show (escL ((47 : UInt8)).toNat : Int) = 47 from rfl]
      clear cx cn cw cU hgL hgD hdd hbD
      go_enter Tryd.func54, Tryd.ntmps54
      go_wp2_with fail
      refine (cF _).mono ?_
      rintro e w1 ⟨rfl, hb1⟩
      have HB := Lib.hid hb1
      clear hb1
      have hconv : (convert 22 22 (.slice (some ⟨w1.heap.size, 0, none⟩) 8 8)).run Tryd.prog (w1.alloc (.cells #[.int .u8 34, .int .u8 92, .int .u8 47, .int .u8 98, .int .u8 102, .int .u8 110, .int .u8 114, .int .u8 116] 5)) = .ok (.slice (some ⟨w1.heap.size, 0, none⟩) 8 8) (w1.alloc (.cells #[.int .u8 34, .int .u8 92, .int .u8 47, .int .u8 98, .int .u8 102, .int .u8 110, .int .u8 114, .int .u8 116] 5 (8, 9))) :=
        Lib.run_convert_bytes_const w1 _ _ _ 8 8 Tryd.underlying22 Tryd.underlying5
      have hcm := fun j => World.cell?_alloc_mark w1 #[.int .u8 34, .int .u8 92, .int .u8 47, .int .u8 98, .int .u8 102, .int .u8 110, .int .u8 114, .int .u8 116] 5 (8, 9) j
      go_wp2
      refine wp_loop_rounds 3 ?_
      rw [rounds_succ]
      go_wp2
      rw [rounds_succ]
      go_wp2
      rw [rounds_succ]
      go_wp2
      go_ret2
      exact ⟨rfl, (HB.out.alloc HB.out.size _).alloc (by have := HB.out.size; simp; omega) _⟩
    by_cases hx3 : b = 98
    · subst hx3
      rw [cx rfl (by decide), show (escL ((98 : UInt8)).toNat : Int) = 8 from rfl]
      clear cx cn cw cU hgL hgD hdd hbD
      go_enter Tryd.func54, Tryd.ntmps54
      go_wp2_with fail
      refine (cF _).mono ?_
      rintro e w1 ⟨rfl, hb1⟩
      have HB := Lib.hid hb1
      clear hb1
      have hconv : (convert 22 22 (.slice (some ⟨w1.heap.size, 0, none⟩) 8 8)).run Tryd.prog (w1.alloc (.cells #[.int .u8 34, .int .u8 92, .int .u8 47, .int .u8 98, .int .u8 102, .int .u8 110, .int .u8 114, .int .u8 116] 5)) = .ok (.slice (some ⟨w1.heap.size, 0, none⟩) 8 8) (w1.alloc (.cells #[.int .u8 34, .int .u8 92, .int .u8 47, .int .u8 98, .int .u8 102, .int .u8 110, .int .u8 114, .int .u8 116] 5 (8, 9))) :=
        Lib.run_convert_bytes_const w1 _ _ _ 8 8 Tryd.underlying22 Tryd.underlying5
      have hcm := fun j => World.cell?_alloc_mark w1 #[.int .u8 34, .int .u8 92, .int .u8 47, .int .u8 98, .int .u8 102, .int .u8 110, .int .u8 114, .int .u8 116] 5 (8, 9) j
      go_wp2
      refine wp_loop_rounds 4 ?_
      rw [rounds_succ]
      go_wp2
      rw [rounds_succ]
      go_wp2
      rw [rounds_succ]
      go_wp2
      rw [rounds_succ]
      go_wp2
      go_ret2
      exact ⟨rfl, (HB.out.alloc HB.out.size _).alloc (by have := HB.out.size; simp; omega) _⟩
    by_cases hx4 : b = 102
    · subst hx4
      rw [cx rfl (by decide), show (escL ((102 : UInt8)).toNat : Int) = 12 from rfl]
      clear cx cn cw cU hgL hgD hdd hbD
      go_enter Tryd.func54, Tryd.ntmps54
      go_wp2_with fail
      refine (cF _).mono ?_
      rintro e w1 ⟨rfl, hb1⟩
      have HB := Lib.hid hb1
      clear hb1
      have hconv : (convert 22 22 (.slice (some ⟨w1.heap.size, 0, none⟩) 8 8)).run Tryd.prog (w1.alloc (.cells #[.int .u8 34, .int .u8 92, .int .u8 47, .int .u8 98, .int .u8 102, .int .u8 110, .int .u8 114, .int .u8 116] 5)) = .ok (.slice (some ⟨w1.heap.size, 0, none⟩) 8 8) (w1.alloc (.cells #[.int .u8 34, .int .u8 92, .int .u8 47, .int .u8 98, .int .u8 102, .int .u8 110, .int .u8 114, .int .u8 116] 5 (8, 9))) :=
        Lib.run_convert_bytes_const w1 _ _ _ 8 8 Tryd.underlying22 Tryd.underlying5
      have hcm := fun j => World.cell?_alloc_mark w1 #[.int .u8 34, .int .u8 92, .int .u8 47, .int .u8 98, .int .u8 102, .int .u8 110, .int .u8 114, .int .u8 116] 5 (8, 9) j
      go_wp2
      refine wp_loop_rounds 5 ?_
      rw [rounds_succ]
      go_wp2
      rw [rounds_succ]
      go_wp2
      rw [rounds_succ]
      go_wp2
      rw [rounds_succ]
      go_wp2
      rw [rounds_succ]
      go_wp2
      go_ret2
      exact ⟨rfl, (HB.out.alloc HB.out.size _).alloc (by have := HB.out.size; simp; omega) _⟩
    by_cases hx5 : b = 110
    · subst hx5
      rw [cx rfl (by decide), show (escL ((110 : UInt8)).toNat : Int) = 10 from rfl]
      clear cx cn cw cU hgL hgD hdd hbD
      go_enter Tryd.func54, Tryd.ntmps54
      go_wp2_with fail
      refine (cF _).mono ?_
      rintro e w1 ⟨rfl, hb1⟩
      have HB := Lib.hid hb1
      clear hb1
      have hconv : (convert 22 22 (.slice (some ⟨w1.heap.size, 0, none⟩) 8 8)).run Tryd.prog (w1.alloc (.cells #[.int .u8 34, .int .u8 92, .int .u8 47, .int .u8 98, .int .u8 102, .int .u8 110, .int .u8 114, .int .u8 116] 5)) = .ok (.slice (some ⟨w1.heap.size, 0, none⟩) 8 8) (w1.alloc (.cells #[.int .u8 34, .int .u8 92, .int .u8 47, .int .u8 98, .int .u8 102, .int .u8 110, .int .u8 114, .int .u8 116] 5 (8, 9))) :=
        Lib.run_convert_bytes_const w1 _ _ _ 8 8 Tryd.underlying22 Tryd.underlying5
      have hcm := fun j => World.cell?_alloc_mark w1 #[.int .u8 34, .int .u8 92, .int .u8 47, .int .u8 98, .int .u8 102, .int .u8 110, .int .u8 114, .int .u8 116] 5 (8, 9) j
      go_wp2
      refine wp_loop_rounds 6 ?_
      rw [rounds_succ]
      go_wp2
      rw [rounds_succ]
      go_wp2
      rw [rounds_succ]
      go_wp2
      rw [rounds_succ]
      go_wp2
      rw [rounds_succ]
      go_wp2
      rw [rounds_succ]
      go_wp2
      go_ret2
      exact ⟨rfl, (HB.out.alloc HB.out.size _).alloc (by have := HB.out.size; simp; omega) _⟩
    by_cases hx6 : b = 114
    · subst hx6
      rw [cx rfl (by decide), show (escL ((114 : UInt8)).toNat : Int) = 13 from rfl]
      clear cx cn cw cU hgL hgD hdd hbD
      go_enter Tryd.func54, Tryd.ntmps54
      go_wp2_with fail
      refine (cF _).mono ?_
      rintro e w1 ⟨rfl, hb1⟩
      have HB := Lib.hid hb1
      clear hb1
      have hconv : (convert 22 22 (.slice (some ⟨w1.heap.size, 0, none⟩) 8 8)).run Tryd.prog (w1.alloc (.cells #[.int .u8 34, .int .u8 92, .int .u8 47, .int .u8 98, .int .u8 102, .int .u8 110, .int .u8 114, .int .u8 116] 5)) = .ok (.slice (some ⟨w1.heap.size, 0, none⟩) 8 8) (w1.alloc (.cells #[.int .u8 34, .int .u8 92, .int .u8 47, .int .u8 98, .int .u8 102, .int .u8 110, .int .u8 114, .int .u8 116] 5 (8, 9))) :=
        Lib.run_convert_bytes_const w1 _ _ _ 8 8 Tryd.underlying22 Tryd.underlying5
      have hcm := fun j => World.cell?_alloc_mark w1 #[.int .u8 34, .int .u8 92, .int .u8 47, .int .u8 98, .int .u8 102, .int .u8 110, .int .u8 114, .int .u8 116] 5 (8, 9) j
      go_wp2
      refine wp_loop_rounds 7 ?_
      rw [rounds_succ]
      go_wp2
      rw [rounds_succ]
      go_wp2
      rw [rounds_succ]
      go_wp2
      rw [rounds_succ]
      go_wp2
      rw [rounds_succ]
      go_wp2
      rw [rounds_succ]
      go_wp2
      rw [rounds_succ]
      go_wp2
      go_ret2
      exact ⟨rfl, (HB.out.alloc HB.out.size _).alloc (by have := HB.out.size; simp; omega) _⟩
    by_cases hx7 : b = 116
    · subst hx7
      rw [cx rfl (by decide), show (escL ((116 : UInt8)).toNat : Int) = 9 from rfl]
      clear cx cn cw cU hgL hgD hdd hbD
      go_enter Tryd.func54, Tryd.ntmps54
      go_wp2_with fail
      refine (cF _).mono ?_
      rintro e w1 ⟨rfl, hb1⟩
      have HB := Lib.hid hb1
      clear hb1
      have hconv : (convert 22 22 (.slice (some ⟨w1.heap.size, 0, none⟩) 8 8)).run Tryd.prog (w1.alloc (.cells #[.int .u8 34, .int .u8 92, .int .u8 47, .int .u8 98, .int .u8 102, .int .u8 110, .int .u8 114, .int .u8 116] 5)) = .ok (.slice (some ⟨w1.heap.size, 0, none⟩) 8 8) (w1.alloc (.cells #[.int .u8 34, .int .u8 92, .int .u8 47, .int .u8 98, .int .u8 102, .int .u8 110, .int .u8 114, .int .u8 116] 5 (8, 9))) :=
        Lib.run_convert_bytes_const w1 _ _ _ 8 8 Tryd.underlying22 Tryd.underlying5
      have hcm := fun j => World.cell?_alloc_mark w1 #[.int .u8 34, .int .u8 92, .int .u8 47, .int .u8 98, .int .u8 102, .int .u8 110, .int .u8 114, .int .u8 116] 5 (8, 9) j
      go_wp2
      refine wp_loop_rounds 8 ?_
      rw [rounds_succ]
      go_wp2
      rw [rounds_succ]
      go_wp2
      rw [rounds_succ]
      go_wp2
      rw [rounds_succ]
      go_wp2
      rw [rounds_succ]
      go_wp2
      rw [rounds_succ]
      go_wp2
      rw [rounds_succ]
      go_wp2
      rw [rounds_succ]
      go_wp2
      go_ret2
      exact ⟨rfl, (HB.out.alloc HB.out.size _).alloc (by have := HB.out.size; simp; omega) _⟩
    have he0 : escL b.toNat = 0 := escL_none b hx0 hx1 hx2 hx3 hx4 hx5 hx6 hx7
    have p0 : ((b.toNat : Int) == 34) = false := beq_eq_false_iff_ne.2 (fun e => hx0 (UInt8.toNat_inj.1 (by show b.toNat = 34; omega)))
    have o0 : ¬ (b.toNat : Int) = 34 := fun e => hx0 (UInt8.toNat_inj.1 (by show b.toNat = 34; omega))
    have p1 : ((b.toNat : Int) == 92) = false := beq_eq_false_iff_ne.2 (fun e => hx1 (UInt8.toNat_inj.1 (by show b.toNat = 92; omega)))
    have o1 : ¬ (b.toNat : Int) = 92 := fun e => hx1 (UInt8.toNat_inj.1 (by show b.toNat = 92; omega))
    have p2 : ((b.toNat : Int) == 47) = false := beq_eq_false_iff_ne.2 (fun e => hx2 (UInt8.toNat_inj.1 (by show b.toNat = 47; omega)))
    have o2 : ¬ (b.toNat : Int) = 47 := fun e => hx2 (UInt8.toNat_inj.1 (by show b.toNat = 47; omega))
    have p3 : ((b.toNat : Int) == 98) = false := beq_eq_false_iff_ne.2 (fun e => hx3 (UInt8.toNat_inj.1 (by show b.toNat = 98; omega)))
    have o3 : ¬ (b.toNat : Int) = 98 := fun e => hx3 (UInt8.toNat_inj.1 (by show b.toNat = 98; omega))
    have p4 : ((b.toNat : Int) == 102) = false := beq_eq_false_iff_ne.2 (fun e => hx4 (UInt8.toNat_inj.1 (by show b.toNat = 102; omega)))
    have o4 : ¬ (b.toNat : Int) = 102 := fun e => hx4 (UInt8.toNat_inj.1 (by show b.toNat = 102; omega))
    have p5 : ((b.toNat : Int) == 110) = false := beq_eq_false_iff_ne.2 (fun e => hx5 (UInt8.toNat_inj.1 (by show b.toNat = 110; omega)))
    have o5 : ¬ (b.toNat : Int) = 110 := fun e => hx5 (UInt8.toNat_inj.1 (by show b.toNat = 110; omega))
    have p6 : ((b.toNat : Int) == 114) = false := beq_eq_false_iff_ne.2 (fun e => hx6 (UInt8.toNat_inj.1 (by show b.toNat = 114; omega)))
    have o6 : ¬ (b.toNat : Int) = 114 := fun e => hx6 (UInt8.toNat_inj.1 (by show b.toNat = 114; omega))
    have p7 : ((b.toNat : Int) == 116) = false := beq_eq_false_iff_ne.2 (fun e => hx7 (UInt8.toNat_inj.1 (by show b.toNat = 116; omega)))
    have o7 : ¬ (b.toNat : Int) = 116 := fun e => hx7 (UInt8.toNat_inj.1 (by show b.toNat = 116; omega))
    have cA := cU (at_ + 2) (by omega)
    rw [hdd] at cA
    have hA := fourL_range (D.drop 2)
    obtain ⟨A, hAe⟩ : ∃ A, fourL (D.drop 2) = A := ⟨_, rfl⟩
    simp only [hAe] at cA
    rw [hAe] at hA
    clear hx0 hx1 hx2 hx3 hx4 hx5 hx6 hx7
    by_cases hu : b = 117
    · subst hu
      have cw2 := cw rfl rfl
      clear cx cn cw he0
      by_cases hA0 : A < 0
      · have hz : wideL (D.drop 2) = (0, 0) := by unfold wideL; rw [hAe]; rw [if_pos hA0]
        rw [hz, if_pos rfl] at cw2
        rw [cw2]
        clear cw2 hz cU hgL hgD hdd hbD hAe
        have d0 : decide (A < 0) = true := decide_eq_true (by omega)
        have e0 : (A < 0) := by omega
        clear hA0
        go_enter Tryd.func54, Tryd.ntmps54
        go_wp2_with fail
        refine (cF _).mono ?_
        rintro e w1 ⟨rfl, hb1⟩
        have HB := Lib.hid hb1
        clear hb1
        have hconv : (convert 22 22 (.slice (some ⟨w1.heap.size, 0, none⟩) 8 8)).run Tryd.prog (w1.alloc (.cells #[.int .u8 34, .int .u8 92, .int .u8 47, .int .u8 98, .int .u8 102, .int .u8 110, .int .u8 114, .int .u8 116] 5)) = .ok (.slice (some ⟨w1.heap.size, 0, none⟩) 8 8) (w1.alloc (.cells #[.int .u8 34, .int .u8 92, .int .u8 47, .int .u8 98, .int .u8 102, .int .u8 110, .int .u8 114, .int .u8 116] 5 (8, 9))) :=
          Lib.run_convert_bytes_const w1 _ _ _ 8 8 Tryd.underlying22 Tryd.underlying5
        have hcm := fun j => World.cell?_alloc_mark w1 #[.int .u8 34, .int .u8 92, .int .u8 47, .int .u8 98, .int .u8 102, .int .u8 110, .int .u8 114, .int .u8 116] 5 (8, 9) j
        go_wp2
        refine wp_loop_rounds 9 ?_
        rw [rounds_succ]
        go_wp2
        rw [rounds_succ]
        go_wp2
        rw [rounds_succ]
        go_wp2
        rw [rounds_succ]
        go_wp2
        rw [rounds_succ]
        go_wp2
        rw [rounds_succ]
        go_wp2
        rw [rounds_succ]
        go_wp2
        rw [rounds_succ]
        go_wp2
        rw [rounds_succ]
        go_wp2_with fail
        have HB2 := Lib.hid (HB.out.alloc HB.out.size (.cells #[.int .u8 34, .int .u8 92, .int .u8 47, .int .u8 98, .int .u8 102, .int .u8 110, .int .u8 114, .int .u8 116] 5 (8, 9)))
        generalize w1.alloc (.cells #[.int .u8 34, .int .u8 92, .int .u8 47, .int .u8 98, .int .u8 102, .int .u8 110, .int .u8 114, .int .u8 116] 5 (8, 9)) = w2 at HB2 ⊢
        refine (cA _).mono ?_
        rintro e w3 ⟨rfl, hb3⟩
        have H3 := Lib.hid (HB2.out.trans (hb3.mono HB2.out.size))
        clear hb3
        go_wp2
        go_ret2
        exact ⟨rfl, H3.out⟩
      by_cases hA1 : 56320 ≤ A ∧ A ≤ 57343
      · have hz : wideL (D.drop 2) = (0, 0) := by unfold wideL; rw [hAe]; rw [if_neg hA0, if_neg (by omega), if_pos (.inl hA1.1)]
        rw [hz, if_pos rfl] at cw2
        rw [cw2]
        clear cw2 hz cU hgL hgD hdd hbD hAe
        have d0 : decide (A < 0) = false := decide_eq_false (by omega)
        have e0 : ¬ (A < 0) := by omega
        have d1 : decide (56320 ≤ A) = true := decide_eq_true (by omega)
        have e1 : (56320 ≤ A) := by omega
        have d2 : decide (A ≤ 57343) = true := decide_eq_true (by omega)
        have e2 : (A ≤ 57343) := by omega
        clear hA0 hA1
        go_enter Tryd.func54, Tryd.ntmps54
        go_wp2_with fail
        refine (cF _).mono ?_
        rintro e w1 ⟨rfl, hb1⟩
        have HB := Lib.hid hb1
        clear hb1
        have hconv : (convert 22 22 (.slice (some ⟨w1.heap.size, 0, none⟩) 8 8)).run Tryd.prog (w1.alloc (.cells #[.int .u8 34, .int .u8 92, .int .u8 47, .int .u8 98, .int .u8 102, .int .u8 110, .int .u8 114, .int .u8 116] 5)) = .ok (.slice (some ⟨w1.heap.size, 0, none⟩) 8 8) (w1.alloc (.cells #[.int .u8 34, .int .u8 92, .int .u8 47, .int .u8 98, .int .u8 102, .int .u8 110, .int .u8 114, .int .u8 116] 5 (8, 9))) :=
          Lib.run_convert_bytes_const w1 _ _ _ 8 8 Tryd.underlying22 Tryd.underlying5
        have hcm := fun j => World.cell?_alloc_mark w1 #[.int .u8 34, .int .u8 92, .int .u8 47, .int .u8 98, .int .u8 102, .int .u8 110, .int .u8 114, .int .u8 116] 5 (8, 9) j
        go_wp2
        refine wp_loop_rounds 9 ?_
        rw [rounds_succ]
        go_wp2
        rw [rounds_succ]
        go_wp2
        rw [rounds_succ]
        go_wp2
        rw [rounds_succ]
        go_wp2
        rw [rounds_succ]
        go_wp2
        rw [rounds_succ]
        go_wp2
        rw [rounds_succ]
        go_wp2
        rw [rounds_succ]
        go_wp2
        rw [rounds_succ]
        go_wp2_with fail
        have HB2 := Lib.hid (HB.out.alloc HB.out.size (.cells #[.int .u8 34, .int .u8 92, .int .u8 47, .int .u8 98, .int .u8 102, .int .u8 110, .int .u8 114, .int .u8 116] 5 (8, 9)))
        generalize w1.alloc (.cells #[.int .u8 34, .int .u8 92, .int .u8 47, .int .u8 98, .int .u8 102, .int .u8 110, .int .u8 114, .int .u8 116] 5 (8, 9)) = w2 at HB2 ⊢
        refine (cA _).mono ?_
        rintro e w3 ⟨rfl, hb3⟩
        have H3 := Lib.hid (HB2.out.trans (hb3.mono HB2.out.size))
        clear hb3
        go_wp2
        go_ret2
        exact ⟨rfl, H3.out⟩
      by_cases hA2 : A < 55296
      · have hz : wideL (D.drop 2) = (A, 4) := by unfold wideL; rw [hAe, if_neg hA0, if_pos (by omega)]
        rw [hz, if_neg (by simp)] at cw2
        rw [cw2]
        have hwA : IntKind.i32.wrap A = A := IntWalk.i32_in _ (by omega)
        clear cw2 hz cU hgL hgD hdd hbD hAe
        have d0 : decide (A < 0) = false := decide_eq_false (by omega)
        have e0 : ¬ (A < 0) := by omega
        have d1 : decide (56320 ≤ A) = false := decide_eq_false (by omega)
        have e1 : ¬ (56320 ≤ A) := by omega
        have d2 : decide (A < 55296) = true := decide_eq_true (by omega)
        have e2 : (A < 55296) := by omega
        clear hA0 hA1 hA2
        go_enter Tryd.func54, Tryd.ntmps54
        go_wp2_with fail
        refine (cF _).mono ?_
        rintro e w1 ⟨rfl, hb1⟩
        have HB := Lib.hid hb1
        clear hb1
        have hconv : (convert 22 22 (.slice (some ⟨w1.heap.size, 0, none⟩) 8 8)).run Tryd.prog (w1.alloc (.cells #[.int .u8 34, .int .u8 92, .int .u8 47, .int .u8 98, .int .u8 102, .int .u8 110, .int .u8 114, .int .u8 116] 5)) = .ok (.slice (some ⟨w1.heap.size, 0, none⟩) 8 8) (w1.alloc (.cells #[.int .u8 34, .int .u8 92, .int .u8 47, .int .u8 98, .int .u8 102, .int .u8 110, .int .u8 114, .int .u8 116] 5 (8, 9))) :=
          Lib.run_convert_bytes_const w1 _ _ _ 8 8 Tryd.underlying22 Tryd.underlying5
        have hcm := fun j => World.cell?_alloc_mark w1 #[.int .u8 34, .int .u8 92, .int .u8 47, .int .u8 98, .int .u8 102, .int .u8 110, .int .u8 114, .int .u8 116] 5 (8, 9) j
        go_wp2
        refine wp_loop_rounds 9 ?_
        rw [rounds_succ]
        go_wp2
        rw [rounds_succ]
        go_wp2
        rw [rounds_succ]
        go_wp2
        rw [rounds_succ]
        go_wp2
        rw [rounds_succ]
        go_wp2
        rw [rounds_succ]
        go_wp2
        rw [rounds_succ]
        go_wp2
        rw [rounds_succ]
        go_wp2
        rw [rounds_succ]
        go_wp2_with fail
        have HB2 := Lib.hid (HB.out.alloc HB.out.size (.cells #[.int .u8 34, .int .u8 92, .int .u8 47, .int .u8 98, .int .u8 102, .int .u8 110, .int .u8 114, .int .u8 116] 5 (8, 9)))
        generalize w1.alloc (.cells #[.int .u8 34, .int .u8 92, .int .u8 47, .int .u8 98, .int .u8 102, .int .u8 110, .int .u8 114, .int .u8 116] 5 (8, 9)) = w2 at HB2 ⊢
        refine (cA _).mono ?_
        rintro e w3 ⟨rfl, hb3⟩
        have H3 := Lib.hid (HB2.out.trans (hb3.mono HB2.out.size))
        clear hb3
        go_wp2
        go_ret2
        exact ⟨rfl, H3.out⟩
      by_cases hA3 : 57343 < A
      · have hz : wideL (D.drop 2) = (A, 4) := by unfold wideL; rw [hAe, if_neg hA0, if_pos (by omega)]
        rw [hz, if_neg (by simp)] at cw2
        rw [cw2]
        have hwA : IntKind.i32.wrap A = A := IntWalk.i32_in _ (by omega)
        clear cw2 hz cU hgL hgD hdd hbD hAe
        have d0 : decide (A < 0) = false := decide_eq_false (by omega)
        have e0 : ¬ (A < 0) := by omega
        have d1 : decide (56320 ≤ A) = true := decide_eq_true (by omega)
        have e1 : (56320 ≤ A) := by omega
        have d2 : decide (A ≤ 57343) = false := decide_eq_false (by omega)
        have e2 : ¬ (A ≤ 57343) := by omega
        have d3 : decide (A < 55296) = false := decide_eq_false (by omega)
        have e3 : ¬ (A < 55296) := by omega
        have d4 : decide (57343 < A) = true := decide_eq_true (by omega)
        have e4 : (57343 < A) := by omega
        clear hA0 hA1 hA2 hA3
        go_enter Tryd.func54, Tryd.ntmps54
        go_wp2_with fail
        refine (cF _).mono ?_
        rintro e w1 ⟨rfl, hb1⟩
        have HB := Lib.hid hb1
        clear hb1
        have hconv : (convert 22 22 (.slice (some ⟨w1.heap.size, 0, none⟩) 8 8)).run Tryd.prog (w1.alloc (.cells #[.int .u8 34, .int .u8 92, .int .u8 47, .int .u8 98, .int .u8 102, .int .u8 110, .int .u8 114, .int .u8 116] 5)) = .ok (.slice (some ⟨w1.heap.size, 0, none⟩) 8 8) (w1.alloc (.cells #[.int .u8 34, .int .u8 92, .int .u8 47, .int .u8 98, .int .u8 102, .int .u8 110, .int .u8 114, .int .u8 116] 5 (8, 9))) :=
          Lib.run_convert_bytes_const w1 _ _ _ 8 8 Tryd.underlying22 Tryd.underlying5
        have hcm := fun j => World.cell?_alloc_mark w1 #[.int .u8 34, .int .u8 92, .int .u8 47, .int .u8 98, .int .u8 102, .int .u8 110, .int .u8 114, .int .u8 116] 5 (8, 9) j
        go_wp2
        refine wp_loop_rounds 9 ?_
        rw [rounds_succ]
        go_wp2
        rw [rounds_succ]
        go_wp2
        rw [rounds_succ]
        go_wp2
        rw [rounds_succ]
        go_wp2
        rw [rounds_succ]
        go_wp2
        rw [rounds_succ]
        go_wp2
        rw [rounds_succ]
        go_wp2
        rw [rounds_succ]
        go_wp2
        rw [rounds_succ]
        go_wp2_with fail
        have HB2 := Lib.hid (HB.out.alloc HB.out.size (.cells #[.int .u8 34, .int .u8 92, .int .u8 47, .int .u8 98, .int .u8 102, .int .u8 110, .int .u8 114, .int .u8 116] 5 (8, 9)))
        generalize w1.alloc (.cells #[.int .u8 34, .int .u8 92, .int .u8 47, .int .u8 98, .int .u8 102, .int .u8 110, .int .u8 114, .int .u8 116] 5 (8, 9)) = w2 at HB2 ⊢
        refine (cA _).mono ?_
        rintro e w3 ⟨rfl, hb3⟩
        have H3 := Lib.hid (HB2.out.trans (hb3.mono HB2.out.size))
        clear hb3
        go_wp2
        go_ret2
        exact ⟨rfl, H3.out⟩
      have cB := cU (at_ + 8) (by omega)
      rw [hdd] at cB
      have hBr := fourL_range (D.drop 8)
      have hB4 := four_len (D.drop 8)
      have hwl : wideL (D.drop 2) = if D.getD 6 0 ≠ 92 ∨ D.getD 7 0 ≠ 117 ∨ fourL (D.drop 8) < 56320 ∨ 57343 < fourL (D.drop 8) then (0, 0) else (65536 + (A - 55296) * 1024 + (fourL (D.drop 8) - 56320), 10) := by
        unfold wideL
        rw [hAe, if_neg hA0, if_neg (by omega), getD_drop0, getD_drop0, List.drop_drop]
        by_cases hc : D.getD 6 0 ≠ 92 ∨ D.getD 7 0 ≠ 117 ∨ fourL (D.drop 8) < 56320 ∨ 57343 < fourL (D.drop 8)
        · rw [if_pos hc, if_pos (.inr hc)]
        · rw [if_neg hc, if_neg (fun h => h.elim (by omega) hc)]
      obtain ⟨B, hBe⟩ : ∃ B, fourL (D.drop 8) = B := ⟨_, rfl⟩
      simp only [hBe] at cB
      rw [hBe] at hBr hB4 hwl
      rw [List.length_drop] at hB4
      by_cases hB1 : B < 56320
      · rw [if_pos (.inr (.inr (.inl hB1)))] at hwl
        rw [hwl, if_pos rfl] at cw2
        rw [cw2]
        clear cw2 hwl cU hgL hgD hdd hbD hAe hBe hB4
        have d0 : decide (A < 0) = false := decide_eq_false (by omega)
        have e0 : ¬ (A < 0) := by omega
        have d1 : decide (56320 ≤ A) = false := decide_eq_false (by omega)
        have e1 : ¬ (56320 ≤ A) := by omega
        have d2 : decide (A < 55296) = false := decide_eq_false (by omega)
        have e2 : ¬ (A < 55296) := by omega
        have d3 : decide (57343 < A) = false := decide_eq_false (by omega)
        have e3 : ¬ (57343 < A) := by omega
        have d4 : decide (B < 56320) = true := decide_eq_true (by omega)
        have e4 : (B < 56320) := by omega
        clear hA0 hA1 hA2 hA3 hB1
        go_enter Tryd.func54, Tryd.ntmps54
        go_wp2_with fail
        refine (cF _).mono ?_
        rintro e w1 ⟨rfl, hb1⟩
        have HB := Lib.hid hb1
        clear hb1
        have hconv : (convert 22 22 (.slice (some ⟨w1.heap.size, 0, none⟩) 8 8)).run Tryd.prog (w1.alloc (.cells #[.int .u8 34, .int .u8 92, .int .u8 47, .int .u8 98, .int .u8 102, .int .u8 110, .int .u8 114, .int .u8 116] 5)) = .ok (.slice (some ⟨w1.heap.size, 0, none⟩) 8 8) (w1.alloc (.cells #[.int .u8 34, .int .u8 92, .int .u8 47, .int .u8 98, .int .u8 102, .int .u8 110, .int .u8 114, .int .u8 116] 5 (8, 9))) :=
          Lib.run_convert_bytes_const w1 _ _ _ 8 8 Tryd.underlying22 Tryd.underlying5
        have hcm := fun j => World.cell?_alloc_mark w1 #[.int .u8 34, .int .u8 92, .int .u8 47, .int .u8 98, .int .u8 102, .int .u8 110, .int .u8 114, .int .u8 116] 5 (8, 9) j
        go_wp2
        refine wp_loop_rounds 9 ?_
        rw [rounds_succ]
        go_wp2
        rw [rounds_succ]
        go_wp2
        rw [rounds_succ]
        go_wp2
        rw [rounds_succ]
        go_wp2
        rw [rounds_succ]
        go_wp2
        rw [rounds_succ]
        go_wp2
        rw [rounds_succ]
        go_wp2
        rw [rounds_succ]
        go_wp2
        rw [rounds_succ]
        go_wp2_with fail
        have HB2 := Lib.hid (HB.out.alloc HB.out.size (.cells #[.int .u8 34, .int .u8 92, .int .u8 47, .int .u8 98, .int .u8 102, .int .u8 110, .int .u8 114, .int .u8 116] 5 (8, 9)))
        generalize w1.alloc (.cells #[.int .u8 34, .int .u8 92, .int .u8 47, .int .u8 98, .int .u8 102, .int .u8 110, .int .u8 114, .int .u8 116] 5 (8, 9)) = w2 at HB2 ⊢
        refine (cA _).mono ?_
        rintro e w3 ⟨rfl, hb3⟩
        have H3 := Lib.hid (HB2.out.trans (hb3.mono HB2.out.size))
        clear hb3
        go_wp2_with fail
        refine (cB _).mono ?_
        rintro e w4 ⟨rfl, hb4⟩
        have H4 := Lib.hid (H3.out.trans (hb4.mono H3.out.size))
        clear hb4
        go_wp2
        go_ret2
        exact ⟨rfl, H4.out⟩
      by_cases hB2 : 57343 < B
      · rw [if_pos (.inr (.inr (.inr hB2)))] at hwl
        rw [hwl, if_pos rfl] at cw2
        rw [cw2]
        clear cw2 hwl cU hgL hgD hdd hbD hAe hBe hB4
        have d0 : decide (A < 0) = false := decide_eq_false (by omega)
        have e0 : ¬ (A < 0) := by omega
        have d1 : decide (56320 ≤ A) = false := decide_eq_false (by omega)
        have e1 : ¬ (56320 ≤ A) := by omega
        have d2 : decide (A < 55296) = false := decide_eq_false (by omega)
        have e2 : ¬ (A < 55296) := by omega
        have d3 : decide (57343 < A) = false := decide_eq_false (by omega)
        have e3 : ¬ (57343 < A) := by omega
        have d4 : decide (B < 56320) = false := decide_eq_false (by omega)
        have e4 : ¬ (B < 56320) := by omega
        have d5 : decide (57343 < B) = true := decide_eq_true (by omega)
        have e5 : (57343 < B) := by omega
        clear hA0 hA1 hA2 hA3 hB1 hB2
        go_enter Tryd.func54, Tryd.ntmps54
        go_wp2_with fail
        refine (cF _).mono ?_
        rintro e w1 ⟨rfl, hb1⟩
        have HB := Lib.hid hb1
        clear hb1
        have hconv : (convert 22 22 (.slice (some ⟨w1.heap.size, 0, none⟩) 8 8)).run Tryd.prog (w1.alloc (.cells #[.int .u8 34, .int .u8 92, .int .u8 47, .int .u8 98, .int .u8 102, .int .u8 110, .int .u8 114, .int .u8 116] 5)) = .ok (.slice (some ⟨w1.heap.size, 0, none⟩) 8 8) (w1.alloc (.cells #[.int .u8 34, .int .u8 92, .int .u8 47, .int .u8 98, .int .u8 102, .int .u8 110, .int .u8 114, .int .u8 116] 5 (8, 9))) :=
          Lib.run_convert_bytes_const w1 _ _ _ 8 8 Tryd.underlying22 Tryd.underlying5
        have hcm := fun j => World.cell?_alloc_mark w1 #[.int .u8 34, .int .u8 92, .int .u8 47, .int .u8 98, .int .u8 102, .int .u8 110, .int .u8 114, .int .u8 116] 5 (8, 9) j
        go_wp2
        refine wp_loop_rounds 9 ?_
        rw [rounds_succ]
        go_wp2
        rw [rounds_succ]
        go_wp2
        rw [rounds_succ]
        go_wp2
        rw [rounds_succ]
        go_wp2
        rw [rounds_succ]
        go_wp2
        rw [rounds_succ]
        go_wp2
        rw [rounds_succ]
        go_wp2
        rw [rounds_succ]
        go_wp2
        rw [rounds_succ]
        go_wp2_with fail
        have HB2 := Lib.hid (HB.out.alloc HB.out.size (.cells #[.int .u8 34, .int .u8 92, .int .u8 47, .int .u8 98, .int .u8 102, .int .u8 110, .int .u8 114, .int .u8 116] 5 (8, 9)))
        generalize w1.alloc (.cells #[.int .u8 34, .int .u8 92, .int .u8 47, .int .u8 98, .int .u8 102, .int .u8 110, .int .u8 114, .int .u8 116] 5 (8, 9)) = w2 at HB2 ⊢
        refine (cA _).mono ?_
        rintro e w3 ⟨rfl, hb3⟩
        have H3 := Lib.hid (HB2.out.trans (hb3.mono HB2.out.size))
        clear hb3
        go_wp2_with fail
        refine (cB _).mono ?_
        rintro e w4 ⟨rfl, hb4⟩
        have H4 := Lib.hid (H3.out.trans (hb4.mono H3.out.size))
        clear hb4
        go_wp2
        go_ret2
        exact ⟨rfl, H4.out⟩
      have hlen := hB4 (by omega)
      have l6 : at_ + 6 < s.size := by omega
      have l7 : at_ + 7 < s.size := by omega
      obtain ⟨I6, hI6⟩ : ∃ I, at_ + 6 = I := ⟨_, rfl⟩
      obtain ⟨I7, hI7⟩ : ∃ I, at_ + 7 = I := ⟨_, rfl⟩
      rw [hI6] at w6e l6
      rw [hI7] at w7e l7
      obtain ⟨c6, hc6⟩ : ∃ c, s[I6]'l6 = c := ⟨_, rfl⟩
      obtain ⟨c7, hc7⟩ : ∃ c, s[I7]'l7 = c := ⟨_, rfl⟩
      have g6 : D.getD 6 0 = c6 := by rw [hgD, hI6, Utf8W.get!_of_lt s I6 l6, hc6]
      have g7 : D.getD 7 0 = c7 := by rw [hgD, hI7, Utf8W.get!_of_lt s I7 l7, hc7]
      rw [g6, g7] at hwl
      have l6z : (I6 : Int) < (s.size : Int) := by omega
      have l7z : (I7 : Int) < (s.size : Int) := by omega
      by_cases h6 : c6 = 92
      · subst h6
        by_cases h7 : c7 = 117
        · subst h7
          rw [if_neg (by rintro (h | h | h | h); exact h rfl; exact h rfl; omega; omega)] at hwl
          rw [hwl, if_neg (by simp)] at cw2
          rw [cw2]
          have v1 : IntKind.i64.wrap (A - 55296) = A - 55296 := IntWalk.i64_in _ (by omega)
          have v2 : IntKind.i64.wrap ((A - 55296) * 1024) = (A - 55296) * 1024 := IntWalk.i64_in _ (by omega)
          have v3 : IntKind.i64.wrap (65536 + (A - 55296) * 1024) = 65536 + (A - 55296) * 1024 := IntWalk.i64_in _ (by omega)
          have v4 : IntKind.i64.wrap (65536 + (A - 55296) * 1024 + B) = 65536 + (A - 55296) * 1024 + B := IntWalk.i64_in _ (by omega)
          have v5 : IntKind.i64.wrap (65536 + (A - 55296) * 1024 + B - 56320) = 65536 + (A - 55296) * 1024 + B - 56320 := IntWalk.i64_in _ (by omega)
          have v6 : IntKind.i32.wrap (65536 + (A - 55296) * 1024 + B - 56320) = 65536 + (A - 55296) * 1024 + B - 56320 := IntWalk.i32_in _ (by omega)
          clear cw2 hwl cU hgL hgD hdd hbD hAe hBe hB4 g6 g7
          have d0 : decide (A < 0) = false := decide_eq_false (by omega)
          have e0 : ¬ (A < 0) := by omega
          have d1 : decide (56320 ≤ A) = false := decide_eq_false (by omega)
          have e1 : ¬ (56320 ≤ A) := by omega
          have d2 : decide (A < 55296) = false := decide_eq_false (by omega)
          have e2 : ¬ (A < 55296) := by omega
          have d3 : decide (57343 < A) = false := decide_eq_false (by omega)
          have e3 : ¬ (57343 < A) := by omega
          have d4 : decide (B < 56320) = false := decide_eq_false (by omega)
          have e4 : ¬ (B < 56320) := by omega
          have d5 : decide (57343 < B) = false := decide_eq_false (by omega)
          have e5 : ¬ (57343 < B) := by omega
          clear hA0 hA1 hA2 hA3 hB1 hB2
          go_enter Tryd.func54, Tryd.ntmps54
          go_wp2_with fail
          refine (cF _).mono ?_
          rintro e w1 ⟨rfl, hb1⟩
          have HB := Lib.hid hb1
          clear hb1
          have hconv : (convert 22 22 (.slice (some ⟨w1.heap.size, 0, none⟩) 8 8)).run Tryd.prog (w1.alloc (.cells #[.int .u8 34, .int .u8 92, .int .u8 47, .int .u8 98, .int .u8 102, .int .u8 110, .int .u8 114, .int .u8 116] 5)) = .ok (.slice (some ⟨w1.heap.size, 0, none⟩) 8 8) (w1.alloc (.cells #[.int .u8 34, .int .u8 92, .int .u8 47, .int .u8 98, .int .u8 102, .int .u8 110, .int .u8 114, .int .u8 116] 5 (8, 9))) :=
            Lib.run_convert_bytes_const w1 _ _ _ 8 8 Tryd.underlying22 Tryd.underlying5
          have hcm := fun j => World.cell?_alloc_mark w1 #[.int .u8 34, .int .u8 92, .int .u8 47, .int .u8 98, .int .u8 102, .int .u8 110, .int .u8 114, .int .u8 116] 5 (8, 9) j
          go_wp2
          refine wp_loop_rounds 9 ?_
          rw [rounds_succ]
          go_wp2
          rw [rounds_succ]
          go_wp2
          rw [rounds_succ]
          go_wp2
          rw [rounds_succ]
          go_wp2
          rw [rounds_succ]
          go_wp2
          rw [rounds_succ]
          go_wp2
          rw [rounds_succ]
          go_wp2
          rw [rounds_succ]
          go_wp2
          rw [rounds_succ]
          go_wp2_with fail
          have HB2 := Lib.hid (HB.out.alloc HB.out.size (.cells #[.int .u8 34, .int .u8 92, .int .u8 47, .int .u8 98, .int .u8 102, .int .u8 110, .int .u8 114, .int .u8 116] 5 (8, 9)))
          generalize w1.alloc (.cells #[.int .u8 34, .int .u8 92, .int .u8 47, .int .u8 98, .int .u8 102, .int .u8 110, .int .u8 114, .int .u8 116] 5 (8, 9)) = w2 at HB2 ⊢
          refine (cA _).mono ?_
          rintro e w3 ⟨rfl, hb3⟩
          have H3 := Lib.hid (HB2.out.trans (hb3.mono HB2.out.size))
          clear hb3
          go_wp2_with fail
          refine (cB _).mono ?_
          rintro e w4 ⟨rfl, hb4⟩
          have H4 := Lib.hid (H3.out.trans (hb4.mono H3.out.size))
          clear hb4
          go_wp2
          go_ret2
          exact ⟨ret_pair (by omega) rfl, H4.out⟩
        · have x7 : (((c7.toNat : Int)) != 117) = true := by
            have : ¬ (c7.toNat : Int) = 117 := fun e => h7 (UInt8.toNat_inj.1 (by show c7.toNat = 117; omega))
            simp [bne, this]
          rw [if_pos (.inr (.inl h7))] at hwl
          rw [hwl, if_pos rfl] at cw2
          rw [cw2]
          clear cw2 hwl cU hgL hgD hdd hbD hAe hBe hB4
          have d0 : decide (A < 0) = false := decide_eq_false (by omega)
          have e0 : ¬ (A < 0) := by omega
          have d1 : decide (56320 ≤ A) = false := decide_eq_false (by omega)
          have e1 : ¬ (56320 ≤ A) := by omega
          have d2 : decide (A < 55296) = false := decide_eq_false (by omega)
          have e2 : ¬ (A < 55296) := by omega
          have d3 : decide (57343 < A) = false := decide_eq_false (by omega)
          have e3 : ¬ (57343 < A) := by omega
          have d4 : decide (B < 56320) = false := decide_eq_false (by omega)
          have e4 : ¬ (B < 56320) := by omega
          have d5 : decide (57343 < B) = false := decide_eq_false (by omega)
          have e5 : ¬ (57343 < B) := by omega
          clear hA0 hA1 hA2 hA3 hB1 hB2 g6 g7 h7
          go_enter Tryd.func54, Tryd.ntmps54
          go_wp2_with fail
          refine (cF _).mono ?_
          rintro e w1 ⟨rfl, hb1⟩
          have HB := Lib.hid hb1
          clear hb1
          have hconv : (convert 22 22 (.slice (some ⟨w1.heap.size, 0, none⟩) 8 8)).run Tryd.prog (w1.alloc (.cells #[.int .u8 34, .int .u8 92, .int .u8 47, .int .u8 98, .int .u8 102, .int .u8 110, .int .u8 114, .int .u8 116] 5)) = .ok (.slice (some ⟨w1.heap.size, 0, none⟩) 8 8) (w1.alloc (.cells #[.int .u8 34, .int .u8 92, .int .u8 47, .int .u8 98, .int .u8 102, .int .u8 110, .int .u8 114, .int .u8 116] 5 (8, 9))) :=
            Lib.run_convert_bytes_const w1 _ _ _ 8 8 Tryd.underlying22 Tryd.underlying5
          have hcm := fun j => World.cell?_alloc_mark w1 #[.int .u8 34, .int .u8 92, .int .u8 47, .int .u8 98, .int .u8 102, .int .u8 110, .int .u8 114, .int .u8 116] 5 (8, 9) j
          go_wp2
          refine wp_loop_rounds 9 ?_
          rw [rounds_succ]
          go_wp2
          rw [rounds_succ]
          go_wp2
          rw [rounds_succ]
          go_wp2
          rw [rounds_succ]
          go_wp2
          rw [rounds_succ]
          go_wp2
          rw [rounds_succ]
          go_wp2
          rw [rounds_succ]
          go_wp2
          rw [rounds_succ]
          go_wp2
          rw [rounds_succ]
          go_wp2_with fail
          have HB2 := Lib.hid (HB.out.alloc HB.out.size (.cells #[.int .u8 34, .int .u8 92, .int .u8 47, .int .u8 98, .int .u8 102, .int .u8 110, .int .u8 114, .int .u8 116] 5 (8, 9)))
          generalize w1.alloc (.cells #[.int .u8 34, .int .u8 92, .int .u8 47, .int .u8 98, .int .u8 102, .int .u8 110, .int .u8 114, .int .u8 116] 5 (8, 9)) = w2 at HB2 ⊢
          refine (cA _).mono ?_
          rintro e w3 ⟨rfl, hb3⟩
          have H3 := Lib.hid (HB2.out.trans (hb3.mono HB2.out.size))
          clear hb3
          go_wp2_with fail
          refine (cB _).mono ?_
          rintro e w4 ⟨rfl, hb4⟩
          have H4 := Lib.hid (H3.out.trans (hb4.mono H3.out.size))
          clear hb4
          go_wp2
          go_ret2
          exact ⟨rfl, H4.out⟩
      · have x6 : (((c6.toNat : Int)) != 92) = true := by
          have : ¬ (c6.toNat : Int) = 92 := fun e => h6 (UInt8.toNat_inj.1 (by show c6.toNat = 92; omega))
          simp [bne, this]
        rw [if_pos (.inl h6)] at hwl
        rw [hwl, if_pos rfl] at cw2
        rw [cw2]
        clear cw2 hwl cU hgL hgD hdd hbD hAe hBe hB4
        have d0 : decide (A < 0) = false := decide_eq_false (by omega)
        have e0 : ¬ (A < 0) := by omega
        have d1 : decide (56320 ≤ A) = false := decide_eq_false (by omega)
        have e1 : ¬ (56320 ≤ A) := by omega
        have d2 : decide (A < 55296) = false := decide_eq_false (by omega)
        have e2 : ¬ (A < 55296) := by omega
        have d3 : decide (57343 < A) = false := decide_eq_false (by omega)
        have e3 : ¬ (57343 < A) := by omega
        have d4 : decide (B < 56320) = false := decide_eq_false (by omega)
        have e4 : ¬ (B < 56320) := by omega
        have d5 : decide (57343 < B) = false := decide_eq_false (by omega)
        have e5 : ¬ (57343 < B) := by omega
        clear hA0 hA1 hA2 hA3 hB1 hB2 g6 g7 h6
        go_enter Tryd.func54, Tryd.ntmps54
        go_wp2_with fail
        refine (cF _).mono ?_
        rintro e w1 ⟨rfl, hb1⟩
        have HB := Lib.hid hb1
        clear hb1
        have hconv : (convert 22 22 (.slice (some ⟨w1.heap.size, 0, none⟩) 8 8)).run Tryd.prog (w1.alloc (.cells #[.int .u8 34, .int .u8 92, .int .u8 47, .int .u8 98, .int .u8 102, .int .u8 110, .int .u8 114, .int .u8 116] 5)) = .ok (.slice (some ⟨w1.heap.size, 0, none⟩) 8 8) (w1.alloc (.cells #[.int .u8 34, .int .u8 92, .int .u8 47, .int .u8 98, .int .u8 102, .int .u8 110, .int .u8 114, .int .u8 116] 5 (8, 9))) :=
          Lib.run_convert_bytes_const w1 _ _ _ 8 8 Tryd.underlying22 Tryd.underlying5
        have hcm := fun j => World.cell?_alloc_mark w1 #[.int .u8 34, .int .u8 92, .int .u8 47, .int .u8 98, .int .u8 102, .int .u8 110, .int .u8 114, .int .u8 116] 5 (8, 9) j
        go_wp2
        refine wp_loop_rounds 9 ?_
        rw [rounds_succ]
        go_wp2
        rw [rounds_succ]
        go_wp2
        rw [rounds_succ]
        go_wp2
        rw [rounds_succ]
        go_wp2
        rw [rounds_succ]
        go_wp2
        rw [rounds_succ]
        go_wp2
        rw [rounds_succ]
        go_wp2
        rw [rounds_succ]
        go_wp2
        rw [rounds_succ]
        go_wp2_with fail
        have HB2 := Lib.hid (HB.out.alloc HB.out.size (.cells #[.int .u8 34, .int .u8 92, .int .u8 47, .int .u8 98, .int .u8 102, .int .u8 110, .int .u8 114, .int .u8 116] 5 (8, 9)))
        generalize w1.alloc (.cells #[.int .u8 34, .int .u8 92, .int .u8 47, .int .u8 98, .int .u8 102, .int .u8 110, .int .u8 114, .int .u8 116] 5 (8, 9)) = w2 at HB2 ⊢
        refine (cA _).mono ?_
        rintro e w3 ⟨rfl, hb3⟩
        have H3 := Lib.hid (HB2.out.trans (hb3.mono HB2.out.size))
        clear hb3
        go_wp2_with fail
        refine (cB _).mono ?_
        rintro e w4 ⟨rfl, hb4⟩
        have H4 := Lib.hid (H3.out.trans (hb4.mono H3.out.size))
        clear hb4
        go_wp2
        go_ret2
        exact ⟨rfl, H4.out⟩
    · have hz := cn rfl he0 hu
      rw [hz]
      have xu : ((b.toNat : Int) != 117) = true := by
        have : ¬ (b.toNat : Int) = 117 := fun e => hu (UInt8.toNat_inj.1 (by show b.toNat = 117; omega))
        simp [bne, this]
      clear cx cn cw he0 hz hu cU hgL hgD hdd hbD hAe
      go_enter Tryd.func54, Tryd.ntmps54
      go_wp2_with fail
      refine (cF _).mono ?_
      rintro e w1 ⟨rfl, hb1⟩
      have HB := Lib.hid hb1
      clear hb1
      have hconv : (convert 22 22 (.slice (some ⟨w1.heap.size, 0, none⟩) 8 8)).run Tryd.prog (w1.alloc (.cells #[.int .u8 34, .int .u8 92, .int .u8 47, .int .u8 98, .int .u8 102, .int .u8 110, .int .u8 114, .int .u8 116] 5)) = .ok (.slice (some ⟨w1.heap.size, 0, none⟩) 8 8) (w1.alloc (.cells #[.int .u8 34, .int .u8 92, .int .u8 47, .int .u8 98, .int .u8 102, .int .u8 110, .int .u8 114, .int .u8 116] 5 (8, 9))) :=
        Lib.run_convert_bytes_const w1 _ _ _ 8 8 Tryd.underlying22 Tryd.underlying5
      have hcm := fun j => World.cell?_alloc_mark w1 #[.int .u8 34, .int .u8 92, .int .u8 47, .int .u8 98, .int .u8 102, .int .u8 110, .int .u8 114, .int .u8 116] 5 (8, 9) j
      go_wp2
      refine wp_loop_rounds 9 ?_
      rw [rounds_succ]
      go_wp2
      rw [rounds_succ]
      go_wp2
      rw [rounds_succ]
      go_wp2
      rw [rounds_succ]
      go_wp2
      rw [rounds_succ]
      go_wp2
      rw [rounds_succ]
      go_wp2
      rw [rounds_succ]
      go_wp2
      rw [rounds_succ]
      go_wp2
      rw [rounds_succ]
      go_wp2_with fail
      have HB2 := Lib.hid (HB.out.alloc HB.out.size (.cells #[.int .u8 34, .int .u8 92, .int .u8 47, .int .u8 98, .int .u8 102, .int .u8 110, .int .u8 114, .int .u8 116] 5 (8, 9)))
      generalize w1.alloc (.cells #[.int .u8 34, .int .u8 92, .int .u8 47, .int .u8 98, .int .u8 102, .int .u8 110, .int .u8 114, .int .u8 116] 5 (8, 9)) = w2 at HB2 ⊢
      refine (cA _).mono ?_
      rintro e w3 ⟨rfl, hb3⟩
      have H3 := Lib.hid (HB2.out.trans (hb3.mono HB2.out.size))
      clear hb3
      go_wp2
      go_ret2
      exact ⟨rfl, H3.out⟩
  · have h1z : (s.size : Int) ≤ (I1 : Int) := by omega
    have hl1 : D.length ≤ 1 := by omega
    have hg1 : D.getD 1 0 = 0 := by simp [List.getD, List.getElem?_eq_none hl1]
    have hz := cn rfl (by rw [hg1]; decide) (by rw [hg1]; decide)
    rw [hz]
    clear cx cn cw hz cU hgL hgD hdd hg1
    go_enter Tryd.func54, Tryd.ntmps54
    go_wp2_with fail
    refine (cF _).mono ?_
    rintro e w1 ⟨rfl, hb1⟩
    have HB := Lib.hid hb1
    clear hb1
    go_wp2
    go_ret2
    exact ⟨rfl, HB.out⟩
end Go.Proofs.YthlioinmeimhoaaDoor
