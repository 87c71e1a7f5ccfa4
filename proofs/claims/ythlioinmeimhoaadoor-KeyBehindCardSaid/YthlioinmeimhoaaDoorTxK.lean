/- The law's Put: a text in quotes, by definition. -/
import Derived.Test.YthlioinmeimhoaaDoorTxJ
namespace Go.Proofs.YthlioinmeimhoaaDoor
open Go.Shelf Go.RowKit Go.Lib

theorem app_list (a b : ByteArray) : (a ++ b).data.toList = a.data.toList ++ b.data.toList := by
  rw [ByteArray.data_append, Array.toList_append]
theorem app_size (a b : ByteArray) : (a ++ b).size = a.size + b.size := ByteArray.size_append

theorem digit_ext (K : Nat) (h : K < 16) : ((ByteArray.mk #[48, 49, 50, 51, 52, 53, 54, 55, 56, 57, 97, 98, 99, 100, 101, 102]).extract K (K + 1)).data.toList = [hexD K] := by
  have key : ∀ k : Fin 16, ((ByteArray.mk #[48, 49, 50, 51, 52, 53, 54, 55, 56, 57, 97, 98, 99, 100, 101, 102]).extract k.val (k.val + 1)).data.toList = [hexD k.val] := by decide +kernel
  exact key ⟨K, h⟩
theorem chunk_law (R K : Nat) (piece : BL) (h1 : R < 32) (h8 : R ≠ 8) (h9 : R ≠ 9) (h10 : R ≠ 10) (h12 : R ≠ 12) (h13 : R ≠ 13) : chunkC R K piece = [92, 117, 48, 48, hexD (R / 16), hexD (R % 16)] := by
  unfold chunkC
  rw [if_neg (by omega), if_neg h8, if_neg h9, if_neg h10, if_neg h12, if_neg h13, if_pos h1]

set_option maxHeartbeats 8000000 in
set_option maxRecDepth 100000 in
theorem put_any (s : ByteArray) (w : World) (hs : s.size ≤ 1099511627776) :
    Calls Tryd.prog 28 #[.string s] w fun e w' => e = .returned (.string (BA (quoteL s.data.toList))) ∧ Below w.heap.size w w' := by
  obtain ⟨L, hL⟩ : ∃ L, s.data.toList = L := ⟨_, rfl⟩
  have hLs : L.length = s.size := by rw [← hL, ← size_eq]
  have HL := Lib.hid hL
  rw [hL]
  clear hL
  go_enter Tryd.func28, Tryd.ntmps28
  go_wp2
  go_loopg [3, 5] s.size (fun gk ov iv wr => ∃ (pos : Nat) (acc : BL) (O : ByteArray), gk + pos = s.size ∧ iv = .int .i64 pos ∧ ov = .string O ∧ O.data.toList = 34 :: acc ∧ acc ++ chunks (L.drop pos) = chunks L ∧ acc.length ≤ 6 * pos ∧ Below w.heap.size w wr)
  case atStart => exact ⟨0, [], ⟨#[34]⟩, by omega, rfl, rfl, rfl, rfl, by simp, Below.refl _ _⟩
  case round =>
    obtain ⟨pos, acc, O, hg, rfl, rfl, hO, hacc, hal, hbw⟩ := hrel
    have hOs : O.size = acc.length + 1 := by rw [size_eq, hO, List.length_cons]
    have HB := Lib.hid (And.intro hO (And.intro hacc (And.intro hal hbw)))
    have hOb : O.size ≤ 8796093022208 := by omega
    clear hO hacc hal hbw
    by_cases hp : pos < s.size
    · have hpz : (pos : Int) < (s.size : Int) := by omega
      have hple : (pos : Int) ≤ (s.size : Int) := by omega
      obtain ⟨D, hD⟩ : ∃ D, L.drop pos = D := ⟨_, rfl⟩
      have hDne : D ≠ [] := fun e => by
        have := congrArg List.length (hD.trans e)
        rw [List.length_drop] at this
        simp at this
        omega
      have hKle := decodeL_le D hDne
      have hKw := decodeL_width D
      have hRle := decodeL_rune D
      have hasc := decode_ascii_w D
      have hDl : D.length = s.size - pos := by rw [← hD, List.length_drop]; omega
      have hch := chunks_at L acc pos _ (by omega) HB.out.2.1
      rw [hD] at hch
      obtain ⟨X, hX⟩ : ∃ X, s.extract pos s.size = X := ⟨_, rfl⟩
      have hXD : X.data.toList = D := by rw [← hX, drop_ba s pos (by omega), HL.out, hD]
      have cF : ∀ W, Calls Tryd.prog 35 #[.string X] W _ := fun W => first_any X W
      simp only [hXD, firstL, if_neg hDne] at cF
      have hcl : chunkL D = chunkC (decodeL D).1 (decodeL D).2 (D.take (decodeL D).2) := rfl
      rw [hcl] at hch
      have hcln := (chunkL_length D hDne).1
      rw [hcl] at hcln
      obtain ⟨R, hR⟩ : ∃ R, (decodeL D).1 = R := ⟨_, rfl⟩
      obtain ⟨K, hK⟩ : ∃ K, (decodeL D).2 = K := ⟨_, rfl⟩
      rw [hR, hK] at hch hcln
      simp only [hR, hK] at cF
      rw [hR] at hRle hasc
      rw [hK] at hKle hKw hasc
      obtain ⟨Y, hY⟩ : ∃ Y, s.extract pos (pos + K) = Y := ⟨_, rfl⟩
      have hYD : Y.data.toList = D.take K := by rw [← hY, piece_ba s pos K (by omega), HL.out, hD]
      have hYs : Y.size ≤ 1099511627776 := by
        rw [← hY, ByteArray.size_extract]; omega
      have hwK : IntKind.i64.wrap ((pos : Int) + (K : Int)) = ((pos + K : Nat) : Int) := by rw [IntWalk.i64_in _ (by omega)]; omega
      have hbK : ((pos + K : Nat) : Int) ≤ (s.size : Int) := by omega
      have hbp : (pos : Int) ≤ ((pos + K : Nat) : Int) := by omega
      have hsum : ∀ n : Nat, n ≤ 1099511627776 → ¬ 9223372036854775807 < O.size + n := fun n hn => by omega
      have hfin : ∀ (C : BL) (T : ByteArray) (W : World), C = chunkC R K (D.take K) → T.data.toList = C → Below w.heap.size w W →
          ∃ (pos' : Nat) (acc' : BL) (O' : ByteArray), (gk - K) + pos' = s.size ∧ Value.int .i64 ((pos + K : Nat) : Int) = .int .i64 pos' ∧ Value.string (O ++ T) = .string O' ∧ O'.data.toList = 34 :: acc' ∧ acc' ++ chunks (L.drop pos') = chunks L ∧ acc'.length ≤ 6 * pos' ∧ Below w.heap.size w W := fun C T W hC hT h2 => by
        refine ⟨pos + K, acc ++ C, O ++ T, by omega, rfl, rfl, ?_, ?_, ?_, h2⟩
        · rw [app_list, HB.out.1, hT]; rfl
        · rw [hC]; exact hch
        · have h5 := HB.out.2.2.1
          rw [hC, List.length_append]
          omega
      have HF := Lib.hid hfin
      have HY := Lib.hid (And.intro hYD hYs)
      have HS := Lib.hid hsum
      clear hfin hYs hYD hsum hch hcln hcl hXD hDl hDne hD hR hK
      by_cases hA : R = 65533 ∧ K = 1
      · obtain ⟨rfl, rfl⟩ := hA
        have hcat : ¬ 9223372036854775807 < O.size + 6 := HS.out 6 (by omega)
        clear hasc
        go_wp2_with fail
        refine (cF _).mono ?_
        rintro e w2 ⟨rfl, hb2⟩
        have H2 := Lib.hid (HB.out.2.2.2.trans (hb2.mono HB.out.2.2.2.size))
        clear hb2
        go_wp2
        go_roundg (gk - 1)
        case rel => exact HF.out [92, 117, 102, 102, 102, 100] ⟨#[92, 117, 102, 102, 102, 100]⟩ _ (by simp [chunkC]) rfl H2.out
        case measure => omega
      by_cases h8 : R = 8
      · subst h8
        have hcat : ¬ 9223372036854775807 < O.size + 2 := HS.out 2 (by omega)
        clear hasc hA
        go_wp2_with fail
        refine (cF _).mono ?_
        rintro e w2 ⟨rfl, hb2⟩
        have H2 := Lib.hid (HB.out.2.2.2.trans (hb2.mono HB.out.2.2.2.size))
        clear hb2
        go_wp2
        go_roundg (gk - K)
        case rel => exact HF.out [92, 98] ⟨#[92, 98]⟩ _ (by simp [chunkC]) rfl H2.out
        case measure => omega
      by_cases h9 : R = 9
      · subst h9
        have hcat : ¬ 9223372036854775807 < O.size + 2 := HS.out 2 (by omega)
        clear hasc hA
        go_wp2_with fail
        refine (cF _).mono ?_
        rintro e w2 ⟨rfl, hb2⟩
        have H2 := Lib.hid (HB.out.2.2.2.trans (hb2.mono HB.out.2.2.2.size))
        clear hb2
        go_wp2
        go_roundg (gk - K)
        case rel => exact HF.out [92, 116] ⟨#[92, 116]⟩ _ (by simp [chunkC]) rfl H2.out
        case measure => omega
      by_cases h10 : R = 10
      · subst h10
        have hcat : ¬ 9223372036854775807 < O.size + 2 := HS.out 2 (by omega)
        clear hasc hA
        go_wp2_with fail
        refine (cF _).mono ?_
        rintro e w2 ⟨rfl, hb2⟩
        have H2 := Lib.hid (HB.out.2.2.2.trans (hb2.mono HB.out.2.2.2.size))
        clear hb2
        go_wp2
        go_roundg (gk - K)
        case rel => exact HF.out [92, 110] ⟨#[92, 110]⟩ _ (by simp [chunkC]) rfl H2.out
        case measure => omega
      by_cases h12 : R = 12
      · subst h12
        have hcat : ¬ 9223372036854775807 < O.size + 2 := HS.out 2 (by omega)
        clear hasc hA
        go_wp2_with fail
        refine (cF _).mono ?_
        rintro e w2 ⟨rfl, hb2⟩
        have H2 := Lib.hid (HB.out.2.2.2.trans (hb2.mono HB.out.2.2.2.size))
        clear hb2
        go_wp2
        go_roundg (gk - K)
        case rel => exact HF.out [92, 102] ⟨#[92, 102]⟩ _ (by simp [chunkC]) rfl H2.out
        case measure => omega
      by_cases h13 : R = 13
      · subst h13
        have hcat : ¬ 9223372036854775807 < O.size + 2 := HS.out 2 (by omega)
        clear hasc hA
        go_wp2_with fail
        refine (cF _).mono ?_
        rintro e w2 ⟨rfl, hb2⟩
        have H2 := Lib.hid (HB.out.2.2.2.trans (hb2.mono HB.out.2.2.2.size))
        clear hb2
        go_wp2
        go_roundg (gk - K)
        case rel => exact HF.out [92, 114] ⟨#[92, 114]⟩ _ (by simp [chunkC]) rfl H2.out
        case measure => omega
      have z8 : ((R : Int) == 8) = false := beq_eq_false_iff_ne.2 (by omega)
      have z9 : ((R : Int) == 9) = false := beq_eq_false_iff_ne.2 (by omega)
      have z10 : ((R : Int) == 10) = false := beq_eq_false_iff_ne.2 (by omega)
      have z12 : ((R : Int) == 12) = false := beq_eq_false_iff_ne.2 (by omega)
      have z13 : ((R : Int) == 13) = false := beq_eq_false_iff_ne.2 (by omega)
      have y8 : ¬ (R : Int) = 8 := by omega
      have y9 : ¬ (R : Int) = 9 := by omega
      have y10 : ¬ (R : Int) = 10 := by omega
      have y12 : ¬ (R : Int) = 12 := by omega
      have y13 : ¬ (R : Int) = 13 := by omega
      by_cases h32 : R < 32
      · have h32z : (R : Int) < 32 := by omega
        have z65 : ((R : Int) == 65533) = false := beq_eq_false_iff_ne.2 (by omega)
        have y65 : ¬ (R : Int) = 65533 := by omega
        have HC := Lib.hid (chunk_law R K (D.take K) h32 h8 h9 h10 h12 h13)
        have HD1 := Lib.hid (digit_ext (R / 16) (by omega))
        have HD2 := Lib.hid (digit_ext (R % 16) (by omega))
        clear hasc hA h8 h9 h10 h12 h13
        go_wp2_with fail
        refine (cF _).mono ?_
        rintro e w2 ⟨rfl, hb2⟩
        have H2 := Lib.hid (HB.out.2.2.2.trans (hb2.mono HB.out.2.2.2.size))
        clear hb2
        go_wp2
        go_quiet (fail)
        go_wp2
        go_roundg (gk - K)
        case rel =>
          have h := HF.out [92, 117, 48, 48, hexD (R / 16), hexD (R % 16)] (⟨#[92, 117, 48, 48]⟩ ++ (ByteArray.mk #[48, 49, 50, 51, 52, 53, 54, 55, 56, 57, 97, 98, 99, 100, 101, 102]).extract (R / 16) (R / 16 + 1) ++ (ByteArray.mk #[48, 49, 50, 51, 52, 53, 54, 55, 56, 57, 97, 98, 99, 100, 101, 102]).extract (R % 16) (R % 16 + 1)) (w2.drewN nq) HC.out.symm (by rw [app_list, app_list, HD1.out, HD2.out]; rfl) (below_drewNv H2.out _)
          rw [← ByteArray.append_assoc, ← ByteArray.append_assoc] at h
          exact h
        case measure => omega
      · have h32z : ¬ (R : Int) < 32 := by omega
        have d32 : decide ((R : Int) < 32) = false := decide_eq_false h32z
        by_cases hq : R = 34 ∨ R = 92
        · have HC := Lib.hid (chunk_self R K (D.take K) hA h32 hq)
          obtain rfl : K = 1 := (hasc (by rcases hq with h | h <;> omega)).1
          have h1c : (⟨#[92]⟩ : ByteArray).size = 1 := rfl
          have hcat1 : ¬ 9223372036854775807 < O.size + 1 := HS.out 1 (by omega)
          have hcat2 : ¬ 9223372036854775807 < O.size + 1 + Y.size := by have := HY.out.2; omega
          have hfin2 : ∀ W, Below w.heap.size w W → ∃ (pos' : Nat) (acc' : BL) (O' : ByteArray), (gk - 1) + pos' = s.size ∧ Value.int .i64 ((pos + 1 : Nat) : Int) = .int .i64 pos' ∧ Value.string (O ++ ⟨#[92]⟩ ++ Y) = .string O' ∧ O'.data.toList = 34 :: acc' ∧ acc' ++ chunks (L.drop pos') = chunks L ∧ acc'.length ≤ 6 * pos' ∧ Below w.heap.size w W := fun W hW => by
            have h := HF.out (92 :: D.take 1) (⟨#[92]⟩ ++ Y) W HC.out.symm (by rw [app_list, HY.out.1]; rfl) hW
            rw [← ByteArray.append_assoc] at h
            exact h
          have HF2 := Lib.hid hfin2
          clear hfin2 hasc hA h8 h9 h10 h12 h13 h32
          rcases hq with hq | hq
          · have hqz : (R : Int) = 34 := by omega
            rw [hqz] at cF
            clear z8 z9 z10 z12 z13 y8 y9 y10 y12 y13 d32 h32z hq hqz hRle
            go_wp2_with fail
            refine (cF _).mono ?_
            rintro e w2 ⟨rfl, hb2⟩
            have H2 := Lib.hid (HB.out.2.2.2.trans (hb2.mono HB.out.2.2.2.size))
            clear hb2
            go_wp2
            go_roundg (gk - 1)
            case rel => exact HF2.out _ H2.out
            case measure => omega
          · have hqz : (R : Int) = 92 := by omega
            rw [hqz] at cF
            clear z8 z9 z10 z12 z13 y8 y9 y10 y12 y13 d32 h32z hq hqz hRle
            go_wp2_with fail
            refine (cF _).mono ?_
            rintro e w2 ⟨rfl, hb2⟩
            have H2 := Lib.hid (HB.out.2.2.2.trans (hb2.mono HB.out.2.2.2.size))
            clear hb2
            go_wp2
            go_roundg (gk - 1)
            case rel => exact HF2.out _ H2.out
            case measure => omega
        · have HC := Lib.hid (chunk_piece R K (D.take K) hA h32 hq)
          have z34 : ((R : Int) == 34) = false := beq_eq_false_iff_ne.2 (by omega)
          have z92 : ((R : Int) == 92) = false := beq_eq_false_iff_ne.2 (by omega)
          have y34 : ¬ (R : Int) = 34 := by omega
          have y92 : ¬ (R : Int) = 92 := by omega
          have hcat2 : ¬ 9223372036854775807 < O.size + Y.size := by have := HY.out.2; omega
          by_cases h65 : R = 65533
          · have hK1 : ((K : Int) == 1) = false := beq_eq_false_iff_ne.2 (fun h => hA ⟨h65, by omega⟩)
            have h65z : (R : Int) = 65533 := by omega
            rw [h65z] at cF
            clear z8 z9 z10 z12 z13 y8 y9 y10 y12 y13 d32 h32z hq hRle z34 z92 y34 y92 hasc hA h8 h9 h10 h12 h13 h32 h65 h65z
            go_wp2_with fail
            refine (cF _).mono ?_
            rintro e w2 ⟨rfl, hb2⟩
            have H2 := Lib.hid (HB.out.2.2.2.trans (hb2.mono HB.out.2.2.2.size))
            clear hb2
            go_wp2
            go_roundg (gk - K)
            case rel => exact HF.out _ Y _ HC.out.symm HY.out.1 H2.out
            case measure => omega
          · have z65 : ((R : Int) == 65533) = false := beq_eq_false_iff_ne.2 (by omega)
            have y65 : ¬ (R : Int) = 65533 := by omega
            clear hq hRle hasc hA h8 h9 h10 h12 h13 h32 h65
            go_wp2_with fail
            refine (cF _).mono ?_
            rintro e w2 ⟨rfl, hb2⟩
            have H2 := Lib.hid (HB.out.2.2.2.trans (hb2.mono HB.out.2.2.2.size))
            clear hb2
            go_wp2
            go_roundg (gk - K)
            case rel => exact HF.out _ Y _ HC.out.symm HY.out.1 H2.out
            case measure => omega
    · have hpz : ¬ (pos : Int) < (s.size : Int) := by omega
      have hq := HB.out.2.1
      rw [List.drop_eq_nil_of_le (by omega), chunks_nil, List.append_nil] at hq
      have hO2 := HB.out.1
      rw [hq] at hO2
      have hcat : ¬ 9223372036854775807 < O.size + 1 := by omega
      have HQ := Lib.hid (show BA (quoteL L) = O ++ ⟨#[34]⟩ by
        rw [← ba_list (O ++ ⟨#[34]⟩), app_list, hO2]
        rfl)
      clear hq hO2
      go_wp2
      go_ret
      rw [HQ.out]
      exact ⟨rfl, HB.out.2.2.2⟩
end Go.Proofs.YthlioinmeimhoaaDoor
