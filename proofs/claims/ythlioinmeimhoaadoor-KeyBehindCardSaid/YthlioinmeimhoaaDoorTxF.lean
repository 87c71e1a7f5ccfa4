/- A text put in quotes: what text.Quote answers. -/
import Derived.Test.YthlioinmeimhoaaDoorTxE
namespace Go.Proofs.YthlioinmeimhoaaDoor
open Go.Shelf Go.RowKit Go.Lib

theorem drop_ba (s : ByteArray) (pos : Nat) (_h : pos ≤ s.size) : (s.extract pos s.size).data.toList = s.data.toList.drop pos := by
  rw [extract_data, List.take_of_length_le (by rw [List.length_drop, ← size_eq]; omega)]
theorem piece_ba (s : ByteArray) (pos n : Nat) (_h : pos + n ≤ s.size) : (s.extract pos (pos + n)).data.toList = (s.data.toList.drop pos).take n := by
  rw [extract_data, show pos + n - pos = n by omega]

/-- one step of a text that is gone through by its characters. -/
theorem chunks_at (L acc : BL) (pos : Nat) (T : BL) (hp : pos < L.length) (h : acc ++ chunks (L.drop pos) = T) :
    (acc ++ chunkL (L.drop pos)) ++ chunks (L.drop (pos + (decodeL (L.drop pos)).2)) = T := by
  have hne : L.drop pos ≠ [] := fun e => by
    have := congrArg List.length e
    rw [List.length_drop] at this
    simp at this
    omega
  rw [← h, chunks_step _ hne, List.drop_drop, List.append_assoc]

theorem chunk_err (piece : BL) : chunkC 65533 1 piece = [92, 117, hexD (dig 65533 0), hexD (dig 65533 1), hexD (dig 65533 2), hexD (dig 65533 3)] := by
  unfold chunkC
  rw [if_pos ⟨rfl, rfl⟩]
  decide
theorem chunk_low (R K : Nat) (piece : BL) (h : R < 32) (h2 : meantI R = -1) : chunkC R K piece = [92, 117, hexD (dig R 0), hexD (dig R 1), hexD (dig R 2), hexD (dig R 3)] := by
  unfold meantI at h2
  have h8 : R ≠ 8 := fun e => by rw [if_pos e] at h2; omega
  rw [if_neg h8] at h2
  have h12 : R ≠ 12 := fun e => by rw [if_pos e] at h2; omega
  rw [if_neg h12] at h2
  have h10 : R ≠ 10 := fun e => by rw [if_pos e] at h2; omega
  rw [if_neg h10] at h2
  have h13 : R ≠ 13 := fun e => by rw [if_pos e] at h2; omega
  rw [if_neg h13] at h2
  have h9 : R ≠ 9 := fun e => by rw [if_pos e] at h2; omega
  unfold chunkC
  rw [if_neg (by omega), if_neg h8, if_neg h9, if_neg h10, if_neg h12, if_neg h13, if_pos h]
  have key : ∀ r : Fin 32, ([48, 48, hexD (r.val / 16), hexD (r.val % 16)] : BL) = [hexD (dig r.val 0), hexD (dig r.val 1), hexD (dig r.val 2), hexD (dig r.val 3)] := by decide
  have := key ⟨R, h⟩
  simpa using this
theorem chunk_short (R K : Nat) (piece : BL) (h2 : meantI R ≠ -1) : ∃ k : Nat, k < 5 ∧ meantI R = k ∧ R < 32 ∧ ∃ c, chunkC R K piece = [92, c] ∧ ∀ hh, (ByteArray.mk #[98, 102, 110, 114, 116])[k]'hh = c := by
  unfold meantI at h2 ⊢
  by_cases h8 : R = 8
  · subst h8; exact ⟨0, by omega, rfl, by omega, 98, by simp [chunkC], fun _ => rfl⟩
  rw [if_neg h8] at h2 ⊢
  by_cases h12 : R = 12
  · subst h12; exact ⟨1, by omega, rfl, by omega, 102, by simp [chunkC], fun _ => rfl⟩
  rw [if_neg h12] at h2 ⊢
  by_cases h10 : R = 10
  · subst h10; exact ⟨2, by omega, rfl, by omega, 110, by simp [chunkC], fun _ => rfl⟩
  rw [if_neg h10] at h2 ⊢
  by_cases h13 : R = 13
  · subst h13; exact ⟨3, by omega, rfl, by omega, 114, by simp [chunkC], fun _ => rfl⟩
  rw [if_neg h13] at h2 ⊢
  by_cases h9 : R = 9
  · subst h9; exact ⟨4, by omega, rfl, by omega, 116, by simp [chunkC], fun _ => rfl⟩
  rw [if_neg h9] at h2
  exact absurd rfl h2
theorem chunk_self (R K : Nat) (piece : BL) (h1 : ¬ (R = 65533 ∧ K = 1)) (h2 : ¬ R < 32) (h3 : R = 34 ∨ R = 92) : chunkC R K piece = 92 :: piece := by
  unfold chunkC
  rw [if_neg h1, if_neg (by omega), if_neg (by omega), if_neg (by omega), if_neg (by omega), if_neg (by omega), if_neg h2, if_pos h3]
theorem chunk_piece (R K : Nat) (piece : BL) (h1 : ¬ (R = 65533 ∧ K = 1)) (h2 : ¬ R < 32) (h3 : ¬ (R = 34 ∨ R = 92)) : chunkC R K piece = piece := by
  unfold chunkC
  rw [if_neg h1, if_neg (by omega), if_neg (by omega), if_neg (by omega), if_neg (by omega), if_neg (by omega), if_neg h2, if_neg h3]

set_option maxHeartbeats 4000000 in
set_option maxRecDepth 100000 in
theorem quote_any (s : ByteArray) (w : World) (hs : s.size ≤ 1099511627776) (hT : Tabs w) :
    Calls Tryd.prog 27 #[.string s] w fun e w' => e = .returned (.string (BA (quoteL s.data.toList))) ∧ Below w.heap.size w w' := by
  obtain ⟨L, hL⟩ : ∃ L, s.data.toList = L := ⟨_, rfl⟩
  have hLs : L.length = s.size := by rw [← hL, ← size_eq]
  have HT := Lib.hid hT
  have HL := Lib.hid hL
  clear hT
  rw [hL]
  clear hL
  go_enter Tryd.func27, Tryd.ntmps27
  go_wp2_with fail
  have hB0 : BH w.heap.size w.heap.size [] (w.alloc (.cells #[.pointer none, .slice none 0 0] 66)) := Lib.IsBuilderF.of (Lib.fresh_isBuilder _ _ w)
  refine (bh_byte w.heap.size w.heap.size [] 34 _ hB0 (by simp) (by simp)).mono ?_
  rintro e w1 ⟨rfl, hB1, hb1⟩
  have H1 := Lib.hid (And.intro hB1 (((Below.refl _ w).alloc (Nat.le_refl _) _).trans hb1))
  clear hB1 hb1 hB0
  go_wp2
  go_loopg [4] s.size (fun gk iv wr => ∃ (pos : Nat) (acc : BL), gk + pos = s.size ∧ iv = .int .i64 pos ∧ BH w.heap.size w.heap.size (34 :: acc) wr ∧ acc ++ chunks (L.drop pos) = chunks L ∧ acc.length ≤ 6 * pos ∧ Below w.heap.size w wr)
  case atStart => exact ⟨0, [], by omega, rfl, H1.out.1, rfl, by simp, H1.out.2⟩
  case round =>
    obtain ⟨pos, acc, hg, rfl, hB, hacc, hal, hbw⟩ := hrel
    have HB := Lib.hid (And.intro hB (And.intro hacc (And.intro hal hbw)))
    clear hB hacc hal hbw
    by_cases hp : pos < s.size
    · have hpz : (pos : Int) < (s.size : Int) := by omega
      have hple : (pos : Int) ≤ (s.size : Int) := by omega
      obtain ⟨D, hD⟩ : ∃ D, L.drop pos = D := ⟨_, rfl⟩
      have hDne : D ≠ [] := fun e => by
        have := congrArg List.length (hD.trans e)
        rw [List.length_drop] at this
        simp at this
        omega
      have hKle := decodeL_le D hDne
      have hKw := decodeL_width D
      have hRle := decodeL_rune D
      have hRv := decodeL_valid D
      have hDl : D.length = s.size - pos := by rw [← hD, List.length_drop]; omega
      have hch := chunks_at L acc pos _ (by omega) HB.out.2.1
      rw [hD] at hch
      obtain ⟨R, hR⟩ : ∃ R, (decodeL D).1 = R := ⟨_, rfl⟩
      obtain ⟨K, hK⟩ : ∃ K, (decodeL D).2 = K := ⟨_, rfl⟩
      obtain ⟨X, hX⟩ : ∃ X, s.extract pos s.size = X := ⟨_, rfl⟩
      have hXD : X.data.toList = D := by rw [← hX, drop_ba s pos (by omega), HL.out, hD]
      obtain ⟨Y, hY⟩ : ∃ Y, s.extract pos (pos + K) = Y := ⟨_, rfl⟩
      have hYD : Y.data.toList = D.take K := by rw [← hY, piece_ba s pos K (by omega), HL.out, hD]
      have cD : Calls Tryd.prog 48 #[.string X] wr _ := dec_any X wr (HT.out.below HB.out.2.2.2) (by rw [hXD]; exact hDne)
      rw [hXD, hR, hK] at cD
      have hwK : IntKind.i64.wrap ((pos : Int) + (K : Int)) = ((pos + K : Nat) : Int) := by rw [IntWalk.i64_in _ (by omega)]; omega
      have hbK : ((pos + K : Nat) : Int) ≤ (s.size : Int) := by omega
      have hbp : (pos : Int) ≤ ((pos + K : Nat) : Int) := by omega
      rw [hR] at hRle hRv
      rw [hK] at hKle hKw hch
      have hcl : chunkL D = chunkC R K (D.take K) := by unfold chunkL; rw [hR, hK]
      rw [hcl] at hch
      have hcln : (chunkC R K (D.take K)).length ≤ 6 * K := by
        have := (chunkL_length D hDne).1
        rw [hK, hcl] at this
        exact this
      have HC := Lib.hid (And.intro hch (And.intro hcln hYD))
      have HV := Lib.hid hRv
      clear hch hcln hcl hYD hRv hXD hDl hDne hD
      go_wp2_with fail
      refine cD.mono ?_
      rintro e w2 ⟨rfl, hb2⟩
      have H2 := Lib.hid (And.intro (HB.out.1.below hb2) (HB.out.2.2.2.trans (hb2.mono HB.out.2.2.2.size)))
      clear hb2 cD
      go_wp2_with fail
      refine (meant_any R hRle HV.out _).mono ?_
      rintro e w3 ⟨rfl, hb3⟩
      have H3 := Lib.hid (And.intro (H2.out.1.below hb3) (H2.out.2.trans (hb3.mono H2.out.2.size)))
      clear hb3 H2
      have hsz3 := H3.out.2.size
      have hl3 : (34 :: acc : BL).length + 24 + 1099511627776 ≤ 140737488355328 := by have := HB.out.2.2.1; rw [List.length_cons]; omega
      have hYs : Y.size ≤ 1099511627776 := by
        rw [← hY, ByteArray.size_extract]; omega
      have hfin : ∀ (C : BL) (W : World), C = chunkC R K (D.take K) → BH w.heap.size w.heap.size (34 :: acc ++ C) W → Below w.heap.size w W →
          ∃ (pos' : Nat) (acc' : BL), (gk - K) + pos' = s.size ∧ Value.int .i64 ((pos + K : Nat) : Int) = .int .i64 pos' ∧ BH w.heap.size w.heap.size (34 :: acc') W ∧ acc' ++ chunks (L.drop pos') = chunks L ∧ acc'.length ≤ 6 * pos' ∧ Below w.heap.size w W := fun C W hC h1 h2 => by
        refine ⟨pos + K, acc ++ C, by omega, rfl, h1, ?_, ?_, h2⟩
        · rw [hC]; exact HC.out.1
        · have h5 := HB.out.2.2.1
          have h6 := HC.out.2.1
          rw [hC, List.length_append]
          omega
      have HF := Lib.hid hfin
      have HX := Lib.hid (And.intro hsz3 (And.intro hl3 hYs))
      clear hfin hl3 hYs hsz3
      by_cases hA : R = 65533 ∧ K = 1
      · obtain ⟨rfl, rfl⟩ := hA
        go_wp2_with fail
        refine (unit_any _ _ (34 :: acc) 65533 (by omega) _ H3.out.1 (by have := HX.out.2.1; omega) HX.out.1).mono ?_
        rintro e w4 ⟨rfl, h4, hb4⟩
        have H9 := Lib.hid (HF.out _ _ (chunk_err _).symm h4 (H3.out.2.trans hb4))
        clear h4 hb4
        go_wp2
        go_roundg (gk - 1)
        case rel => exact H9.out
        case measure => omega
      by_cases h32 : R < 32
      · have h32z : (R : Int) < 32 := by omega
        have hn65 : ¬ (R : Int) = 65533 := by omega
        by_cases hm : meantI R = -1
        · have HS := Lib.hid (chunk_low R K (D.take K) h32 hm)
          go_wp2_with fail
          refine (unit_any _ _ (34 :: acc) R (by omega) _ H3.out.1 (by have := HX.out.2.1; omega) HX.out.1).mono ?_
          rintro e w4 ⟨rfl, h4, hb4⟩
          have H9 := Lib.hid (HF.out _ _ HS.out.symm h4 (H3.out.2.trans hb4))
          clear h4 hb4
          go_wp2
          go_roundg (gk - K)
          case rel => exact H9.out
          case measure => omega
        · obtain ⟨k, hk5, hmk, _, c, hc, hidx⟩ := chunk_short R K (D.take K) hm
          have HS := Lib.hid hc
          have hk0 : (0 : Int) ≤ (k : Int) := by omega
          have hkz : (k : Int) < 5 := by omega
          clear hc hm
          go_wp2_with fail
          refine (bh_byte _ _ (34 :: acc) 92 _ H3.out.1 (by have := HX.out.2.1; omega) HX.out.1).mono ?_
          rintro e w4 ⟨rfl, h4, hb4⟩
          have H4 := Lib.hid (And.intro h4 (And.intro (H3.out.2.trans hb4) (by have := HX.out.1; have := hb4.size; omega : w.heap.size ≤ w4.heap.size)))
          clear h4 hb4
          go_wp2_with fail
          refine (bh_byte _ _ (34 :: acc ++ [92]) c _ H4.out.1 (by have := HX.out.2; rw [List.length_append]; simp only [List.length_cons, List.length_nil] at this ⊢; omega) H4.out.2.2).mono ?_
          rintro e w5 ⟨rfl, h5, hb5⟩
          have H9 := Lib.hid (HF.out [92, c] _ HS.out.symm (by rw [List.append_assoc] at h5; exact h5) (H4.out.2.1.trans hb5))
          clear h5 hb5
          go_wp2
          go_roundg (gk - K)
          case rel => exact H9.out
          case measure => omega
      have h32z : ¬ (R : Int) < 32 := by omega
      have hAz : (R : Int) = 65533 → ¬ (K : Int) = 1 := by omega
      by_cases hq : R = 34
      · have HS := Lib.hid (chunk_self R K Y.data.toList hA h32 (.inl hq))
        have hqz : (R : Int) = 34 := by omega
        have hn65 : ¬ (R : Int) = 65533 := by omega
        clear hA hAz h32
        go_wp2_with fail
        refine (bh_byte _ _ (34 :: acc) 92 _ H3.out.1 (by have := HX.out.2.1; omega) HX.out.1).mono ?_
        rintro e w4 ⟨rfl, h4, hb4⟩
        have H4 := Lib.hid (And.intro h4 (And.intro (H3.out.2.trans hb4) (by have := HX.out.1; have := hb4.size; omega : w.heap.size ≤ w4.heap.size)))
        clear h4 hb4
        go_wp2_with fail
        refine (bh_str _ _ (34 :: acc ++ [92]) Y _ H4.out.1 (by have := HX.out.2; rw [List.length_append]; simp only [List.length_cons, List.length_nil] at this ⊢; omega) H4.out.2.2).mono ?_
        rintro e w5 ⟨rfl, h5, hb5⟩
        have H9 := Lib.hid (HF.out (92 :: Y.data.toList) _ (by rw [← HC.out.2.2, HS.out]) (by rw [List.append_assoc] at h5; exact h5) (H4.out.2.1.trans hb5))
        clear h5 hb5
        go_wp2
        go_roundg (gk - K)
        case rel => exact H9.out
        case measure => omega
      by_cases hq2 : R = 92
      · have HS := Lib.hid (chunk_self R K Y.data.toList hA h32 (.inr hq2))
        have hqz : ¬ (R : Int) = 34 := by omega
        have hqz2 : (R : Int) = 92 := by omega
        have hn65 : ¬ (R : Int) = 65533 := by omega
        clear hA hAz h32
        go_wp2_with fail
        refine (bh_byte _ _ (34 :: acc) 92 _ H3.out.1 (by have := HX.out.2.1; omega) HX.out.1).mono ?_
        rintro e w4 ⟨rfl, h4, hb4⟩
        have H4 := Lib.hid (And.intro h4 (And.intro (H3.out.2.trans hb4) (by have := HX.out.1; have := hb4.size; omega : w.heap.size ≤ w4.heap.size)))
        clear h4 hb4
        go_wp2_with fail
        refine (bh_str _ _ (34 :: acc ++ [92]) Y _ H4.out.1 (by have := HX.out.2; rw [List.length_append]; simp only [List.length_cons, List.length_nil] at this ⊢; omega) H4.out.2.2).mono ?_
        rintro e w5 ⟨rfl, h5, hb5⟩
        have H9 := Lib.hid (HF.out (92 :: Y.data.toList) _ (by rw [← HC.out.2.2, HS.out]) (by rw [List.append_assoc] at h5; exact h5) (H4.out.2.1.trans hb5))
        clear h5 hb5
        go_wp2
        go_roundg (gk - K)
        case rel => exact H9.out
        case measure => omega
      have HS := Lib.hid (chunk_piece R K Y.data.toList hA h32 (fun h => h.elim hq hq2))
      have hqz : ¬ (R : Int) = 34 := by omega
      have hqz2 : ¬ (R : Int) = 92 := by omega
      have hdec : decide ((R : Int) < 32) = false := decide_eq_false h32z
      have hb34 : ((R : Int) == 34) = false := beq_eq_false_iff_ne.2 hqz
      have hb92 : ((R : Int) == 92) = false := beq_eq_false_iff_ne.2 hqz2
      clear hA h32 hq hq2 hR hK hX hRle hKle
      by_cases h65 : (R : Int) = 65533
      · have hK1 : ((K : Int) == 1) = false := beq_eq_false_iff_ne.2 (hAz h65)
        clear hAz
        go_wp2_with fail
        refine (bh_str _ _ (34 :: acc) Y _ H3.out.1 (by have := HX.out.2; simp only [List.length_cons, List.length_nil] at this ⊢; omega) HX.out.1).mono ?_
        rintro e w5 ⟨rfl, h5, hb5⟩
        have H9 := Lib.hid (HF.out Y.data.toList _ (by rw [← HC.out.2.2, HS.out]) h5 (H3.out.2.trans hb5))
        clear h5 hb5
        go_wp2
        go_roundg (gk - K)
        case rel => exact H9.out
        case measure => omega
      · have hb65 : ((R : Int) == 65533) = false := beq_eq_false_iff_ne.2 h65
        clear hAz
        go_wp2_with fail
        refine (bh_str _ _ (34 :: acc) Y _ H3.out.1 (by have := HX.out.2; simp only [List.length_cons, List.length_nil] at this ⊢; omega) HX.out.1).mono ?_
        rintro e w5 ⟨rfl, h5, hb5⟩
        have H9 := Lib.hid (HF.out Y.data.toList _ (by rw [← HC.out.2.2, HS.out]) h5 (H3.out.2.trans hb5))
        clear h5 hb5
        go_wp2
        go_roundg (gk - K)
        case rel => exact H9.out
        case measure => omega
    · have hpz : ¬ (pos : Int) < (s.size : Int) := by omega
      have hq := HB.out.2.1
      have hsz := HB.out.2.2.2.size
      rw [List.drop_eq_nil_of_le (by omega), chunks_nil, List.append_nil] at hq
      subst hq
      have hll : (34 :: chunks L : BL).length + 1 ≤ 140737488355328 := by have := chunks_length L; rw [List.length_cons]; omega
      have HX := Lib.hid (And.intro hsz hll)
      clear hsz hll
      go_wp2_with fail
      refine (bh_byte _ _ (34 :: chunks L) 34 _ HB.out.1 HX.out.2 HX.out.1).mono ?_
      rintro e w4 ⟨rfl, h4, hb4⟩
      have H4 := Lib.hid (And.intro h4 (And.intro (HB.out.2.2.2.trans hb4) (by have := HX.out.1; have := hb4.size; omega : w.heap.size ≤ w4.heap.size)))
      clear h4 hb4
      go_wp2_with fail
      refine (bh_get _ _ (34 :: chunks L ++ [34]) _ H4.out.1 H4.out.2.2).mono ?_
      rintro e w5 ⟨rfl, hb5⟩
      have H5 := Lib.hid (H4.out.2.1.trans hb5)
      clear hb5
      go_wp2
      go_ret
      exact ⟨rfl, H5.out⟩
end Go.Proofs.YthlioinmeimhoaaDoor
