/- TextValid: the law's walk. -/
import Derived.Test.YthlioinmeimhoaaDoorTxM
namespace Go.Proofs.YthlioinmeimhoaaDoor
open Go.Shelf Go.RowKit Go.Lib

/-- one character of a text's check. -/
theorem valid_at (L : BL) (pos : Nat) (hp : pos < L.length) :
    Lib.validD (L.drop pos) = if (decodeL (L.drop pos)).1 = 65533 ∧ (decodeL (L.drop pos)).2 = 1 then false else Lib.validD (L.drop (pos + (decodeL (L.drop pos)).2)) := by
  have hne : L.drop pos ≠ [] := fun e => by
    have := congrArg List.length e
    rw [List.length_drop] at this
    simp at this
    omega
  rw [validD_step _ hne, List.drop_drop]

set_option maxHeartbeats 2000000 in
set_option maxRecDepth 100000 in
theorem tvalid_law (s : ByteArray) (w : World) (hT : Tabs w) (hg : ErrT w) :
    Calls Tryd.prog 14 #[.string s] w fun e w' => e = .returned (.bool true) ∧ Below w.heap.size w w' := by
  have HT := Lib.hid (And.intro hT hg)
  clear hT hg
  obtain ⟨X, hX⟩ : ∃ X, s.extract 0 (min (s.size : Int) 400).toNat = X := ⟨_, rfl⟩
  have hXs : X.size ≤ 400 := by rw [← hX]; exact cut4_size s
  obtain ⟨L, hL⟩ : ∃ L, X.data.toList = L := ⟨_, rfl⟩
  have hLs : L.length = X.size := by rw [← hL, ← size_eq]
  have HL := Lib.hid hL
  go_enter Tryd.func14, Tryd.ntmps14
  go_wp2_with fail
  refine (tawake_any _ HT.out.1 HT.out.2).mono ?_
  rintro e w1 ⟨rfl, hb1⟩
  have H1 := Lib.hid hb1
  clear hb1 hL
  go_wp2
  go_loopg [3, 4] X.size (fun gk bv iv wr => ∃ (pos : Nat) (b : Bool), gk + pos = X.size ∧ iv = .int .i64 pos ∧ bv = .bool b ∧ Lib.validD L = (b && Lib.validD (L.drop pos)) ∧ Below w.heap.size w wr)
  case atStart => exact ⟨0, true, by omega, rfl, rfl, rfl, H1.out⟩
  case round =>
    obtain ⟨pos, b, hg, rfl, rfl, hv, hbw⟩ := hrel
    have HB := Lib.hid (And.intro hv hbw)
    clear hv hbw
    by_cases hp : pos < X.size
    · have hpz : (pos : Int) < (X.size : Int) := by omega
      have hple : (pos : Int) ≤ (X.size : Int) := by omega
      have hva := valid_at L pos (by omega)
      have hDne : L.drop pos ≠ [] := fun e => by
        have := congrArg List.length e
        rw [List.length_drop] at this
        simp at this
        omega
      obtain ⟨D, hD⟩ : ∃ D, L.drop pos = D := ⟨_, rfl⟩
      rw [hD] at hva hDne
      have hKle := decodeL_le D hDne
      have hKw := decodeL_width D
      have hDl : D.length = X.size - pos := by rw [← hD, List.length_drop]; omega
      obtain ⟨Y, hY⟩ : ∃ Y, X.extract pos X.size = Y := ⟨_, rfl⟩
      have hYD : Y.data.toList = D := by rw [← hY, drop_ba X pos (by omega), HL.out, hD]
      have cF : ∀ W, Calls Tryd.prog 35 #[.string Y] W _ := fun W => first_any Y W
      simp only [hYD, firstL, if_neg hDne] at cF
      have hv2 := HB.out.1
      rw [hD] at hv2
      obtain ⟨R, hR⟩ : ∃ R, (decodeL D).1 = R := ⟨_, rfl⟩
      obtain ⟨K, hK⟩ : ∃ K, (decodeL D).2 = K := ⟨_, rfl⟩
      rw [hR, hK] at hva
      rw [hK] at hKle hKw
      simp only [hR, hK] at cF
      have hwK : IntKind.i64.wrap ((pos : Int) + (K : Int)) = ((pos + K : Nat) : Int) := by rw [IntWalk.i64_in _ (by omega)]; omega
      have HV := Lib.hid (And.intro hva hv2)
      clear hva hv2 hYD hDne hD hR hK
      have hfin : ∀ (b2 : Bool) (W : World), b2 = (b && !decide (R = 65533 ∧ K = 1)) → Below w.heap.size w W →
          ∃ (pos' : Nat) (b' : Bool), (gk - K) + pos' = X.size ∧ Value.int .i64 ((pos + K : Nat) : Int) = .int .i64 pos' ∧ Value.bool b2 = .bool b' ∧ Lib.validD L = (b' && Lib.validD (L.drop pos')) ∧ Below w.heap.size w W := fun b2 W h1 h2 => by
        refine ⟨pos + K, b2, by omega, rfl, rfl, ?_, h2⟩
        rw [HV.out.2, HV.out.1, h1]
        by_cases hA : R = 65533 ∧ K = 1
        · rw [if_pos hA, decide_eq_true hA]; cases b <;> rfl
        · rw [if_neg hA, decide_eq_false hA]; cases b <;> rfl
      have HF := Lib.hid hfin
      clear hfin
      by_cases h65 : R = 65533
      · subst h65
        by_cases hK1 : K = 1
        · subst hK1
          cases b
          · go_wp2_with fail
            refine (cF _).mono ?_
            rintro e w2 ⟨rfl, hb2⟩
            have H2 := Lib.hid (HB.out.2.trans (hb2.mono HB.out.2.size))
            clear hb2
            go_wp2
            go_roundg (gk - 1)
            case rel => exact HF.out _ _ (by simp) H2.out
            case measure => omega
          · go_wp2_with fail
            refine (cF _).mono ?_
            rintro e w2 ⟨rfl, hb2⟩
            have H2 := Lib.hid (HB.out.2.trans (hb2.mono HB.out.2.size))
            clear hb2
            go_wp2
            go_roundg (gk - 1)
            case rel => exact HF.out _ _ (by simp) H2.out
            case measure => omega
        · have z1 : ((K : Int) == 1) = false := beq_eq_false_iff_ne.2 (by omega)
          have z2 : ((K : Int) != 1) = true := by simp [bne, z1]
          have HK := Lib.hid hK1
          have hKw2 : 1 ≤ K := hKw
          clear hK1
          cases b
          · go_wp2_with fail
            refine (cF _).mono ?_
            rintro e w2 ⟨rfl, hb2⟩
            have H2 := Lib.hid (HB.out.2.trans (hb2.mono HB.out.2.size))
            clear hb2
            go_wp2
            go_roundg (gk - K)
            case rel => exact HF.out _ _ (by simp) H2.out
            case measure => omega
          · go_wp2_with fail
            refine (cF _).mono ?_
            rintro e w2 ⟨rfl, hb2⟩
            have H2 := Lib.hid (HB.out.2.trans (hb2.mono HB.out.2.size))
            clear hb2
            go_wp2
            go_roundg (gk - K)
            case rel => exact HF.out _ _ (by have := HK.out; simp; omega) H2.out
            case measure => omega
      · have z1 : ((R : Int) == 65533) = false := beq_eq_false_iff_ne.2 (by omega)
        have z2 : ((R : Int) != 65533) = true := by simp [bne, z1]
        have HK := Lib.hid h65
        clear h65
        cases b
        · go_wp2_with fail
          refine (cF _).mono ?_
          rintro e w2 ⟨rfl, hb2⟩
          have H2 := Lib.hid (HB.out.2.trans (hb2.mono HB.out.2.size))
          clear hb2
          go_wp2
          go_roundg (gk - K)
          case rel => exact HF.out _ _ (by simp) H2.out
          case measure => omega
        · go_wp2_with fail
          refine (cF _).mono ?_
          rintro e w2 ⟨rfl, hb2⟩
          have H2 := Lib.hid (HB.out.2.trans (hb2.mono HB.out.2.size))
          clear hb2
          go_wp2
          go_roundg (gk - K)
          case rel => exact HF.out _ _ (by have := HK.out; simp; omega) H2.out
          case measure => omega
    · have hpz : ¬ (pos : Int) < (X.size : Int) := by omega
      have hvb : Lib.validD L = b := by
        rw [HB.out.1, List.drop_eq_nil_of_le (by omega)]
        cases b <;> rfl
      obtain ⟨M, hM⟩ : ∃ M, BA (mendL L) = M := ⟨_, rfl⟩
      have hML : M.data.toList = mendL L := by rw [← hM]
      have hMs : M.size ≤ 1600 := by
        have := mend_length L
        rw [size_eq, hML]
        omega
      have hiff : b = true ↔ M = X := by
        rw [← hvb, mend_iff]
        constructor
        · intro h; rw [← hM, h, ← HL.out, ba_list]
        · intro h; rw [← hML, h, HL.out]
      have hmv : Lib.validD M.data.toList = true := by rw [hML]; exact mend_valid L
      have cM : ∀ W, Calls Tryd.prog 32 #[.string X] W fun e w' => e = .returned (.string M) ∧ Below W.heap.size W w' := fun W => by
        have := mend_any X W (by omega)
        rw [HL.out, hM] at this
        exact this
      have HV := Lib.hid (And.intro hvb (And.intro hMs hmv))
      have hne : b = false → ¬ M = X := fun h e => by rw [hiff.2 e] at h; cases h
      clear hvb hM hML hMs hmv
      cases b
      · have hMX := hne rfl
        have hMX2 : (M.toList == X.toList) = false := by
          rw [beq_eq_false_iff_ne]
          intro h
          apply hMX
          rw [Lib.toList_data, Lib.toList_data] at h
          rw [← ba_list M, ← ba_list X, h]
        clear hiff hne
        go_wp2_with fail
        refine (valid_any X _ (by omega) (HT.out.1.below HB.out.2)).mono ?_
        rintro e w2 ⟨rfl, hb2⟩
        rw [HL.out, HV.out.1]
        have H2 := Lib.hid (HB.out.2.trans (hb2.mono HB.out.2.size))
        clear hb2
        go_wp2_with fail
        refine (cM _).mono ?_
        rintro e w3 ⟨rfl, hb3⟩
        have H3 := Lib.hid (H2.out.trans (hb3.mono H2.out.size))
        clear hb3
        go_wp2_with fail
        refine (valid_any M _ (by have := HV.out.2.1; omega) (HT.out.1.below H3.out)).mono ?_
        rintro e w4 ⟨rfl, hb4⟩
        rw [HV.out.2.2]
        have H4 := Lib.hid (H3.out.trans (hb4.mono H3.out.size))
        clear hb4
        go_wp2_with fail
        refine (cM _).mono ?_
        rintro e w5 ⟨rfl, hb5⟩
        have H5 := Lib.hid (H4.out.trans (hb5.mono H4.out.size))
        clear hb5
        go_wp2
        go_ret
        exact ⟨rfl, H5.out⟩
      · have hMX := hiff.1 rfl
        subst hMX
        clear hiff hne
        go_wp2_with fail
        refine (valid_any M _ (by omega) (HT.out.1.below HB.out.2)).mono ?_
        rintro e w2 ⟨rfl, hb2⟩
        rw [HL.out, HV.out.1]
        have H2 := Lib.hid (HB.out.2.trans (hb2.mono HB.out.2.size))
        clear hb2
        go_wp2_with fail
        refine (cM _).mono ?_
        rintro e w3 ⟨rfl, hb3⟩
        have H3 := Lib.hid (H2.out.trans (hb3.mono H2.out.size))
        clear hb3
        go_wp2_with fail
        refine (valid_any M _ (by have := HV.out.2.1; omega) (HT.out.1.below H3.out)).mono ?_
        rintro e w4 ⟨rfl, hb4⟩
        rw [HV.out.2.2]
        have H4 := Lib.hid (H3.out.trans (hb4.mono H3.out.size))
        clear hb4
        go_wp2_with fail
        refine (cM _).mono ?_
        rintro e w5 ⟨rfl, hb5⟩
        have H5 := Lib.hid (H4.out.trans (hb5.mono H4.out.size))
        clear hb5
        go_wp2
        go_ret
        exact ⟨rfl, H5.out⟩
end Go.Proofs.YthlioinmeimhoaaDoor
