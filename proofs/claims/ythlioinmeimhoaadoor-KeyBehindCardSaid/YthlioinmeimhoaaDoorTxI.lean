/- The character that a text in quotes goes on with, as the program and as the law read it. -/
import Derived.Test.YthlioinmeimhoaaDoorTxH
namespace Go.Proofs.YthlioinmeimhoaaDoor
open Go.Shelf Go.RowKit Go.Lib

theorem char_low (l : BL) (h : (decodeL l).1 < 32) : charL l = (0, 0) := by unfold charL; rw [if_pos (.inl h)]
theorem char_err (l : BL) (h1 : (decodeL l).1 = 65533) (h2 : (decodeL l).2 = 1) : charL l = (0, 0) := by unfold charL; rw [if_pos (.inr ⟨h1, h2⟩)]
theorem char_self (l : BL) (h1 : ¬ (decodeL l).1 < 32) (h2 : ¬ ((decodeL l).1 = 65533 ∧ (decodeL l).2 = 1)) (h3 : (decodeL l).1 ≠ 92) : charL l = (((decodeL l).1 : Int), (decodeL l).2) := by
  unfold charL; rw [if_neg (fun h => h.elim h1 h2), if_pos h3]
theorem char_esc (l : BL) (h : (decodeL l).1 = 92) : (charL l).2 = (if eN (l.drop 1) = 0 then 0 else eN (l.drop 1) + 1) ∧ (eN (l.drop 1) ≠ 0 → (charL l).1 = eR (l.drop 1)) := by
  unfold charL eN eR wn
  rw [if_neg (by omega), if_neg (by omega), getD_drop0, List.drop_drop]
  by_cases h1 : escL (l.getD (1 + 0) 0).toNat ≠ 0
  · rw [if_pos h1, if_pos h1, if_pos h1]
    exact ⟨rfl, fun _ => rfl⟩
  · rw [if_neg h1, if_neg h1, if_neg h1]
    by_cases h2 : l.getD (1 + 0) 0 ≠ 117
    · rw [if_pos h2, if_pos h2]
      exact ⟨rfl, fun h => absurd rfl h⟩
    · rw [if_neg h2, if_neg h2]
      by_cases h3 : (wideL (l.drop (1 + 1))).2 = 0
      · rw [if_pos h3, if_pos h3]
        exact ⟨rfl, fun h => absurd rfl h⟩
      · rw [if_neg h3, if_neg h3, if_neg (by omega)]
        exact ⟨rfl, fun _ => rfl⟩
theorem eN_le (l : BL) : eN l ≤ 11 := by
  have h : (wideL (l.drop 1)).2 ≤ 10 := by
    unfold wideL
    repeat' split
    all_goals (dsimp only; omega)
  unfold eN wn
  repeat' split
  all_goals omega
theorem decode_ascii_w (l : BL) (h : (decodeL l).1 < 128) : (decodeL l).2 = 1 ∧ (l.getD 0 0).toNat = (decodeL l).1 := by
  rw [decodeL_N] at h ⊢
  rcases decodeN_shape l.length (l.getD 0 0).toNat (l.getD 1 0).toNat (l.getD 2 0).toNat (l.getD 3 0).toNat with ⟨c, e⟩ | ⟨c1, c2, c3, cv, e⟩ | ⟨c1, c2, c3, c4, cv, cs, e⟩ | ⟨c1, c2, c3, c4, c5, cv, cw, e⟩ | e
  all_goals rw [e] at h ⊢
  all_goals dsimp only at h ⊢
  · exact ⟨rfl, rfl⟩
  all_goals omega

set_option maxHeartbeats 2000000 in
set_option maxRecDepth 100000 in
theorem next_any (s : ByteArray) (w : World) (hne : s.data.toList ≠ []) (hT : Tabs w) :
    Calls Tryd.prog 52 #[.string s] w fun e w' => (∃ r, e = .returned (.tuple #[.int .i32 r, .int .i64 (charL s.data.toList).2]) ∧ ((charL s.data.toList).2 ≠ 0 → r = (charL s.data.toList).1)) ∧ Below w.heap.size w w' := by
  have cD := dec_any s w hT hne
  obtain ⟨L, hL⟩ : ∃ L, s.data.toList = L := ⟨_, rfl⟩
  have hLs : L.length = s.size := by rw [← hL, ← size_eq]
  rw [hL] at cD hne ⊢
  have hKw := decodeL_width L
  have hdrop : 1 ≤ s.size → (s.extract 1 s.size).data.toList = L.drop 1 := fun h => by rw [drop_ba s 1 h, hL]
  have hl1 : 0 < L.length := List.length_pos_iff.2 hne
  have cl := char_low L; have ce := char_err L; have cs := char_self L; have cx := char_esc L
  obtain ⟨R, hR⟩ : ∃ R, (decodeL L).1 = R := ⟨_, rfl⟩
  obtain ⟨K, hK⟩ : ∃ K, (decodeL L).2 = K := ⟨_, rfl⟩
  rw [hR, hK] at cD ce cs
  rw [hR] at cl cx
  rw [hK] at hKw
  have h1z : (1 : Int) ≤ (s.size : Int) := by omega
  have hK0 : ((K : Int) == 0) = false := beq_eq_false_iff_ne.2 (by omega)
  have hK00 : ¬ (K : Int) = 0 := by omega
  have hK02 : ¬ K = 0 := by omega
  have hK03 : decide (K = 0) = false := decide_eq_false hK02
  have hK04 : (K == 0) = false := beq_eq_false_iff_ne.2 hK02
  obtain ⟨X, hX⟩ : ∃ X, s.extract 1 s.size = X := ⟨_, rfl⟩
  have hXL : X.data.toList = L.drop 1 := by rw [← hX]; exact hdrop (by omega)
  have cE := fun W => escaped_any X W
  simp only [hXL] at cE
  clear hL hne hdrop hl1 hR hK hXL hT
  by_cases h1 : R < 32
  · rw [cl h1]
    have hd1 : decide ((R : Int) < 32) = true := decide_eq_true (by omega)
    clear cl ce cs cx cE
    go_enter Tryd.func52, Tryd.ntmps52
    go_wp2_with fail
    refine cD.mono ?_
    rintro e w1 ⟨rfl, hb1⟩
    have HB := Lib.hid hb1
    clear hb1
    go_wp2
    go_ret2
    exact ⟨⟨_, rfl, fun h => absurd rfl h⟩, HB.out⟩
  have hd1 : decide ((R : Int) < 32) = false := decide_eq_false (by omega)
  by_cases h2 : R = 65533 ∧ K = 1
  · rw [ce h2.1 h2.2]
    obtain ⟨rfl, rfl⟩ := h2
    clear cl ce cs cx cE
    go_enter Tryd.func52, Tryd.ntmps52
    go_wp2_with fail
    refine cD.mono ?_
    rintro e w1 ⟨rfl, hb1⟩
    have HB := Lib.hid hb1
    clear hb1
    go_wp2
    go_ret2
    exact ⟨⟨_, rfl, fun h => absurd rfl h⟩, HB.out⟩
  by_cases h3 : R = 92
  · obtain ⟨hn, hr⟩ := cx h3
    have hR92 : (R : Int) = 92 := by omega
    rw [hR92] at cD
    obtain ⟨C, hC⟩ : ∃ C, charL L = C := ⟨_, rfl⟩
    rw [hC] at hn hr
    rw [hC]
    obtain ⟨N, hN⟩ : ∃ N, eN (L.drop 1) = N := ⟨_, rfl⟩
    have hN11 := eN_le (L.drop 1)
    simp only [hN] at cE
    rw [hN] at hn hr hN11
    have HR := Lib.hid (And.intro hn hr)
    clear cl ce cs cx h2 hn hr hC hN h1 hd1 h3 hR92 R
    go_enter Tryd.func52, Tryd.ntmps52
    go_wp2_with fail
    refine cD.mono ?_
    rintro e w1 ⟨rfl, hb1⟩
    have HB := Lib.hid hb1
    clear hb1
    go_wp2_with fail
    refine (cE _).mono ?_
    rintro e w2 ⟨⟨r, rfl, hr⟩, hb2⟩
    have HE := Lib.hid (And.intro hr (HB.out.trans (hb2.mono HB.out.size)))
    clear hr hb2
    have hwN : IntKind.i64.wrap ((N : Int) + 1) = ((N + 1 : Nat) : Int) := by rw [IntWalk.i64_in _ (by omega)]; omega
    by_cases hN0 : N = 0
    · subst hN0
      clear hwN hN11
      go_wp2_with fail
      refine (sized_any false _ _).mono ?_
      rintro e w3 ⟨rfl, rfl⟩
      go_wp2
      go_ret2
      have hC2 : C.2 = 0 := by rw [HR.out.1]; simp
      rw [hC2]
      exact ⟨⟨_, rfl, fun h => absurd rfl h⟩, HE.out.2⟩
    · have hdN : decide (0 < N) = true := decide_eq_true (by omega)
      go_wp2_with fail
      refine (sized_any true ((N : Int) + 1) _).mono ?_
      rintro e w3 ⟨rfl, rfl⟩
      go_wp2
      go_ret2
      have hC2 : C.2 = N + 1 := by rw [HR.out.1, if_neg hN0]
      rw [hC2]
      exact ⟨⟨_, rfl, fun _ => by rw [HE.out.1 hN0, HR.out.2 hN0]⟩, HE.out.2⟩
  · rw [cs h1 h2 h3]
    have hz92 : ((R : Int) == 92) = false := beq_eq_false_iff_ne.2 (by omega)
    have hz92' : ¬ (R : Int) = 92 := by omega
    by_cases h65 : R = 65533
    · have hK1 : ((K : Int) == 1) = false := beq_eq_false_iff_ne.2 (fun h => h2 ⟨h65, by omega⟩)
      have h65z : (R : Int) = 65533 := by omega
      clear cl ce cs cx cE h2 h3 h65
      go_enter Tryd.func52, Tryd.ntmps52
      go_wp2_with fail
      refine cD.mono ?_
      rintro e w1 ⟨rfl, hb1⟩
      have HB := Lib.hid hb1
      clear hb1
      go_wp2
      go_ret2
      exact ⟨⟨_, rfl, fun _ => h65z.symm⟩, HB.out⟩
    · have h65z : ((R : Int) == 65533) = false := beq_eq_false_iff_ne.2 (by omega)
      have h65z' : ¬ (R : Int) = 65533 := by omega
      clear cl ce cs cx cE h2 h3 h65
      go_enter Tryd.func52, Tryd.ntmps52
      go_wp2_with fail
      refine cD.mono ?_
      rintro e w1 ⟨rfl, hb1⟩
      have HB := Lib.hid hb1
      clear hb1
      go_wp2
      go_ret2
      exact ⟨⟨_, rfl, fun _ => rfl⟩, HB.out⟩
end Go.Proofs.YthlioinmeimhoaaDoor
