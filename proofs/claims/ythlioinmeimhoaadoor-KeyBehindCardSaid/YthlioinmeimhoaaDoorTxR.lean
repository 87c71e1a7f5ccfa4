/- Texts in quotes: what is put is read as it was; cut off it is none; characters put anew are UTF-8. Plain Lean. -/
import Derived.Test.YthlioinmeimhoaaDoorTxP
import Derived.Lib.Small
namespace Go.Proofs.YthlioinmeimhoaaDoor
open Go.Lib

theorem ub (z : Int) (h0 : 0 ≤ z) (h1 : z < 256) : (z.toNat.toUInt8).toNat = z.toNat := by
  rw [Nat.toUInt8, UInt8.toNat_ofNat']
  omega
theorem drop_len (C X : BL) : (C ++ X).drop C.length = X := by simp

theorem dec_enc (r : Nat) (hv : Lib.validRune (r : Int) = true) (rest : BL) : decodeL (encodeRune (r : Int) ++ rest) = (r, (encodeRune (r : Int)).length) := by
  have hv2 : ((0 : Int) ≤ r ∧ (r : Int) < 0xD800) ∨ ((0xDFFF : Int) < r ∧ (r : Int) ≤ 0x10FFFF) := of_decide_eq_true hv
  rw [decodeL_N]
  unfold encodeRune
  by_cases c1 : r ≤ 127
  · rw [encodeRuneZ_one (by omega) (by omega)]
    simp only [List.map_cons, List.map_nil, List.cons_append, List.nil_append, List.getD_cons_zero, List.length_cons, List.length_nil]
    rw [ub _ (by omega) (by omega), decodeN_ascii _ _ _ _ _ (by omega)]
    simp
  by_cases c2 : r ≤ 2047
  · rw [encodeRuneZ_two (by omega) (by omega)]
    simp only [List.map_cons, List.map_nil, List.cons_append, List.nil_append, List.getD_cons_zero, List.getD_cons_succ, List.length_cons, List.length_nil]
    rw [ub _ (by omega) (by omega), ub _ (by omega) (by omega)]
    unfold decodeN
    rw [if_neg (by omega), if_pos (by omega), if_pos (by omega)]
    refine Prod.ext ?_ rfl
    dsimp only
    omega
  by_cases c3 : r ≤ 65535
  · rw [encodeRuneZ_three (by omega)]
    simp only [List.map_cons, List.map_nil, List.cons_append, List.nil_append, List.getD_cons_zero, List.getD_cons_succ, List.length_cons, List.length_nil]
    rw [ub _ (by omega) (by omega), ub _ (by omega) (by omega), ub _ (by omega) (by omega)]
    have key : (224 + (r : Int) / 4096).toNat % 16 * 4096 + (128 + (r : Int) / 64 % 64).toNat % 64 * 64 + (128 + (r : Int) % 64).toNat % 64 = r := by omega
    unfold decodeN
    rw [if_neg (by omega), if_neg (by omega), if_pos (by omega), key, if_pos (by omega)]
  · rw [encodeRuneZ_four (by omega) (by omega)]
    simp only [List.map_cons, List.map_nil, List.cons_append, List.nil_append, List.getD_cons_zero, List.getD_cons_succ, List.length_cons, List.length_nil]
    rw [ub _ (by omega) (by omega), ub _ (by omega) (by omega), ub _ (by omega) (by omega), ub _ (by omega) (by omega)]
    have key : (240 + (r : Int) / 262144).toNat % 8 * 262144 + (128 + (r : Int) / 4096 % 64).toNat % 64 * 4096 + (128 + (r : Int) / 64 % 64).toNat % 64 * 64 + (128 + (r : Int) % 64).toNat % 64 = r := by omega
    unfold decodeN
    rw [if_neg (by omega), if_neg (by omega), if_neg (by omega), if_pos (by omega), key, if_pos (by omega)]

theorem dec_cut (r : Nat) (hv : Lib.validRune (r : Int) = true) (j : Nat) (h0 : 0 < j) (hj : j < (encodeRune (r : Int)).length) : decodeL ((encodeRune (r : Int)).take j) = (65533, 1) ∧ ((encodeRune (r : Int)).take j).getD 0 0 ≠ 34 := by
  have hv2 : ((0 : Int) ≤ r ∧ (r : Int) < 0xD800) ∨ ((0xDFFF : Int) < r ∧ (r : Int) ≤ 0x10FFFF) := of_decide_eq_true hv
  have h34 : ∀ z : Int, 0 ≤ z → z < 256 → 34 < z → z.toNat.toUInt8 ≠ 34 := fun z a b c e => by
    have := ub z a b
    rw [e] at this
    have h2 : (34 : UInt8).toNat = 34 := rfl
    omega
  rw [decodeL_N]
  unfold encodeRune at hj ⊢
  by_cases c1 : r ≤ 127
  · rw [encodeRuneZ_one (by omega) (by omega)] at hj
    simp at hj
    omega
  by_cases c2 : r ≤ 2047
  · rw [encodeRuneZ_two (by omega) (by omega)] at hj ⊢
    simp only [List.map_cons, List.map_nil, List.length_cons, List.length_nil] at hj ⊢
    obtain rfl : j = 1 := by omega
    simp only [List.take_succ_cons, List.take_zero, List.getD_cons_zero, List.getD_cons_succ, List.length_cons, List.length_nil]
    refine ⟨?_, h34 _ (by omega) (by omega) (by omega)⟩
    rw [ub _ (by omega) (by omega)]
    exact decodeN_alone _ _ _ _ _ (by omega) (.inl (by omega))
  by_cases c3 : r ≤ 65535
  · rw [encodeRuneZ_three (by omega)] at hj ⊢
    simp only [List.map_cons, List.map_nil, List.length_cons, List.length_nil] at hj ⊢
    match j, h0, hj with
    | 1, _, _ =>
      simp only [List.take_succ_cons, List.take_zero, List.getD_cons_zero, List.getD_cons_succ, List.length_cons, List.length_nil]
      refine ⟨?_, h34 _ (by omega) (by omega) (by omega)⟩
      rw [ub _ (by omega) (by omega)]
      exact decodeN_alone _ _ _ _ _ (by omega) (.inl (by omega))
    | 2, _, _ =>
      simp only [List.take_succ_cons, List.take_zero, List.getD_cons_zero, List.getD_cons_succ, List.length_cons, List.length_nil]
      refine ⟨?_, h34 _ (by omega) (by omega) (by omega)⟩
      rw [ub _ (by omega) (by omega), ub _ (by omega) (by omega)]
      unfold decodeN
      rw [if_neg (by omega), if_neg (by omega), if_neg (by omega), if_neg (by omega)]
  · rw [encodeRuneZ_four (by omega) (by omega)] at hj ⊢
    simp only [List.map_cons, List.map_nil, List.length_cons, List.length_nil] at hj ⊢
    match j, h0, hj with
    | 1, _, _ =>
      simp only [List.take_succ_cons, List.take_zero, List.getD_cons_zero, List.getD_cons_succ, List.length_cons, List.length_nil]
      refine ⟨?_, h34 _ (by omega) (by omega) (by omega)⟩
      rw [ub _ (by omega) (by omega)]
      exact decodeN_alone _ _ _ _ _ (by omega) (.inl (by omega))
    | 2, _, _ =>
      simp only [List.take_succ_cons, List.take_zero, List.getD_cons_zero, List.getD_cons_succ, List.length_cons, List.length_nil]
      refine ⟨?_, h34 _ (by omega) (by omega) (by omega)⟩
      rw [ub _ (by omega) (by omega), ub _ (by omega) (by omega)]
      unfold decodeN
      rw [if_neg (by omega), if_neg (by omega), if_neg (by omega), if_neg (by omega)]
    | 3, _, _ =>
      simp only [List.take_succ_cons, List.take_zero, List.getD_cons_zero, List.getD_cons_succ, List.length_cons, List.length_nil]
      refine ⟨?_, h34 _ (by omega) (by omega) (by omega)⟩
      rw [ub _ (by omega) (by omega), ub _ (by omega) (by omega), ub _ (by omega) (by omega)]
      unfold decodeN
      rw [if_neg (by omega), if_neg (by omega), if_neg (by omega), if_neg (by omega)]

theorem dec_scalar (l : BL) : Lib.validRune ((decodeL l).1 : Int) = true := by
  have hlt := fun b : UInt8 => b.toNat_lt
  rw [decodeL_N]
  unfold Lib.validRune
  refine decide_eq_true ?_
  have h0 := hlt (l.getD 0 0)
  rcases decodeN_shape l.length (l.getD 0 0).toNat (l.getD 1 0).toNat (l.getD 2 0).toNat (l.getD 3 0).toNat with ⟨c, e⟩ | ⟨c1, c2, c3, cv, e⟩ | ⟨c1, c2, c3, c4, cv, cs, e⟩ | ⟨c1, c2, c3, c4, c5, cv, cw, e⟩ | e
  all_goals (rw [e]; dsimp only; omega)
theorem enc_err : encodeRune 65533 = [239, 191, 189] := by decide

/-! ### what is put is read -/
theorem charL_esc (t : BL) : decodeL (92 :: t) = (92, 1) := decodeL_ascii 92 t (by decide)
theorem char_short (c : UInt8) (rest : BL) (h : escL c.toNat ≠ 0) : charL (92 :: c :: rest) = ((escL c.toNat : Int), 2) := by
  unfold charL
  rw [charL_esc]
  simp only [List.getD_cons_zero, List.getD_cons_succ]
  rw [if_neg (by omega), if_neg (by omega), if_pos h]
theorem char_hex (a b c d : Nat) (rest : BL) (ha : a < 16) (hb : b < 16) (hc : c < 16) (hd : d < 16) (h : ((a * 16 + b) * 16 + c) * 16 + d < 55296 ∨ 57343 < ((a * 16 + b) * 16 + c) * 16 + d) :
    charL (92 :: 117 :: hexD a :: hexD b :: hexD c :: hexD d :: rest) = (((((a * 16 + b) * 16 + c) * 16 + d : Nat) : Int), 6) := by
  unfold charL
  rw [charL_esc]
  simp only [List.getD_cons_zero, List.getD_cons_succ]
  rw [if_neg (by omega), if_neg (by omega), if_neg (by decide), if_neg (by decide)]
  have hw : wideL (hexD a :: hexD b :: hexD c :: hexD d :: rest) = (((((a * 16 + b) * 16 + c) * 16 + d : Nat) : Int), 4) := by
    unfold wideL
    rw [fourL_hex a b c d rest ha hb hc hd, if_neg (by omega), if_pos (by omega)]
    refine Prod.ext ?_ rfl
    dsimp only
    omega
  rw [show List.drop 2 (92 :: 117 :: hexD a :: hexD b :: hexD c :: hexD d :: rest) = hexD a :: hexD b :: hexD c :: hexD d :: rest from rfl, hw]
  rfl

theorem chunk_char (l : BL) (hne : l ≠ []) (rest : BL) : (chunkL l ++ rest).getD 0 0 ≠ 34 ∧ charL (chunkL l ++ rest) = (((decodeL l).1 : Int), (chunkL l).length) := by
  have hv := dec_scalar l
  have hen := encode_decode l hne
  obtain ⟨R, hR⟩ : ∃ R, (decodeL l).1 = R := ⟨_, rfl⟩
  obtain ⟨K, hK⟩ : ∃ K, (decodeL l).2 = K := ⟨_, rfl⟩
  unfold chunkL
  rw [hR, hK] at hen
  rw [hR] at hv
  rw [hR, hK]
  unfold chunkC
  split
  · rename_i h
    rw [h.1]
    exact ⟨by simp, char_hex 15 15 15 13 rest (by omega) (by omega) (by omega) (by omega) (by omega)⟩
  rename_i hA
  split
  · rename_i h; rw [h]; exact ⟨by simp, char_short 98 rest (by decide)⟩
  split
  · rename_i h; rw [h]; exact ⟨by simp, char_short 116 rest (by decide)⟩
  split
  · rename_i h; rw [h]; exact ⟨by simp, char_short 110 rest (by decide)⟩
  split
  · rename_i h; rw [h]; exact ⟨by simp, char_short 102 rest (by decide)⟩
  split
  · rename_i h; rw [h]; exact ⟨by simp, char_short 114 rest (by decide)⟩
  split
  · rename_i h
    refine ⟨by simp, ?_⟩
    have := char_hex 0 0 (R / 16) (R % 16) rest (by omega) (by omega) (by omega) (by omega) (by omega)
    rw [show ((0 * 16 + 0) * 16 + R / 16) * 16 + R % 16 = R by omega] at this
    exact this
  split
  · rename_i h
    rw [← hen hA]
    rcases h with h | h
    · rw [h]; exact ⟨by simp, char_short 34 rest (by decide)⟩
    · rw [h]; exact ⟨by simp, char_short 92 rest (by decide)⟩
  · rename_i h32 hq
    rw [← hen hA]
    have hd := dec_enc R hv rest
    have hlen := congrArg List.length (hen hA)
    rw [List.length_take] at hlen
    have hle := decodeL_le l hne
    rw [hK] at hle
    have hl : (encodeRune (R : Int)).length = K := by omega
    refine ⟨fun e => ?_, ?_⟩
    · obtain ⟨b, t, ht⟩ : ∃ b t, encodeRune (R : Int) ++ rest = b :: t := by
        cases hx : encodeRune (R : Int) ++ rest with
        | nil =>
          have := congrArg List.length hx
          have hw := decodeL_width l
          rw [List.length_append, hl] at this
          simp at this
          omega
        | cons b t => exact ⟨b, t, rfl⟩
      rw [ht] at e hd
      simp only [List.getD_cons_zero] at e
      rw [e, decodeL_ascii 34 t (by decide)] at hd
      have := congrArg Prod.fst hd
      simp at this
      omega
    · unfold charL
      rw [hd, hl]
      dsimp only
      rw [if_neg (fun h => h.elim (by omega) hA), if_pos (by omega)]

theorem back_read (l behind : BL) : readB (chunks l ++ 34 :: behind) = some (mendL l, (chunks l).length + 1) := by
  induction l using by_chars with
  | h0 => rw [chunks_nil, List.nil_append, readB_quote _ (by simp) rfl]; rfl
  | h1 l hne ih =>
    have hc := chunk_char l hne (chunks (l.drop (decodeL l).2) ++ 34 :: behind)
    have hcl := (chunkL_length l hne).2
    rw [chunks_step l hne, List.append_assoc, readB_step _ (by intro e; have := congrArg List.length e; simp at this) hc.1 (by rw [hc.2]; dsimp only; omega), hc.2]
    dsimp only
    rw [drop_len, ih, mend_step l hne, List.length_append]
    simp only [Option.some.injEq, Prod.mk.injEq, true_and]
    omega
theorem quote_read (l behind : BL) : readL (quoteL l ++ behind) = some (mendL l, (quoteL l).length) := by
  have h : quoteL l ++ behind = 34 :: (chunks l ++ 34 :: behind) := by unfold quoteL; simp
  unfold readL
  rw [h, if_neg (by simp), List.drop_succ_cons, List.drop_zero, back_read]
  unfold quoteL
  simp

/-! ### UTF-8 -/
theorem validD_enc (r : Nat) (hv : Lib.validRune (r : Int) = true) (rest : BL) : Lib.validD (encodeRune (r : Int) ++ rest) = Lib.validD rest := by
  have hd := dec_enc r hv rest
  have hne : encodeRune (r : Int) ++ rest ≠ [] := fun e => by
    have h1 := encodeRuneZ_length (r : Int)
    have := congrArg List.length e
    unfold encodeRune at this
    rw [List.length_append, List.length_map, List.length_nil] at this
    omega
  rw [validD_step _ hne, hd]
  dsimp only
  rw [if_neg, drop_len]
  rintro ⟨h1, h2⟩
  rw [h1] at h2
  revert h2
  decide
theorem mend_valid (l : BL) : Lib.validD (mendL l) = true := by
  induction l using by_chars with
  | h0 => rfl
  | h1 l hne ih => rw [mend_step l hne, validD_enc _ (dec_scalar l), ih]
theorem mend_same (l : BL) (h : Lib.validD l = true) : mendL l = l := by
  induction l using by_chars with
  | h0 => rfl
  | h1 l hne ih =>
    rw [validD_step l hne] at h
    by_cases hb : (decodeL l).1 = 65533 ∧ (decodeL l).2 = 1
    · rw [if_pos hb] at h; exact absurd h (by decide)
    · rw [if_neg hb] at h
      rw [mend_step l hne, ih h, encode_decode l hne hb, List.take_append_drop]
theorem mend_iff (l : BL) : (Lib.validD l = true) ↔ mendL l = l := ⟨mend_same l, fun h => by rw [← h]; exact mend_valid l⟩
theorem hexD_low : ∀ k : Fin 16, (hexD k.val).toNat < 128 := by decide
theorem chunk_valid (l : BL) (hne : l ≠ []) (rest : BL) : Lib.validD (chunkL l ++ rest) = Lib.validD rest := by
  have hv := dec_scalar l
  have hen := encode_decode l hne
  obtain ⟨R, hR⟩ : ∃ R, (decodeL l).1 = R := ⟨_, rfl⟩
  obtain ⟨K, hK⟩ : ∃ K, (decodeL l).2 = K := ⟨_, rfl⟩
  unfold chunkL
  rw [hR, hK] at hen
  rw [hR] at hv
  rw [hR, hK]
  have asc : ∀ C : BL, (∀ b ∈ C, b.toNat < 128) → Lib.validD (C ++ rest) = Lib.validD rest := fun C hC => by
    rw [validD_ascii C.length (C ++ rest) (by rw [List.take_left]; exact hC), drop_len]
  unfold chunkC
  split
  · exact asc _ (by decide)
  rename_i hA
  split
  · exact asc _ (by decide)
  split
  · exact asc _ (by decide)
  split
  · exact asc _ (by decide)
  split
  · exact asc _ (by decide)
  split
  · exact asc _ (by decide)
  split
  · rename_i h
    refine asc _ (fun b hb => ?_)
    have h1 := hexD_low ⟨R / 16, by omega⟩
    have h2 := hexD_low ⟨R % 16, by omega⟩
    simp only [List.mem_cons, List.not_mem_nil, or_false] at hb
    rcases hb with rfl | rfl | rfl | rfl | rfl | rfl
    · decide
    · decide
    · decide
    · decide
    · exact h1
    · exact h2
  split
  · rw [← hen hA, List.cons_append, validD_cons _ _ (by decide)]
    exact validD_enc R hv rest
  · rw [← hen hA]
    exact validD_enc R hv rest
theorem chunks_valid (l rest : BL) : Lib.validD (chunks l ++ rest) = Lib.validD rest := by
  induction l using by_chars with
  | h0 => rw [chunks_nil, List.nil_append]
  | h1 l hne ih => rw [chunks_step l hne, List.append_assoc, chunk_valid l hne, ih]
theorem quote_valid (l : BL) : Lib.validD (quoteL l) = true := by
  unfold quoteL
  rw [validD_cons _ _ (by decide), chunks_valid]
  decide

/-! ### what is cut off -/
theorem char_one : charL [92] = (0, 0) := by decide +kernel
theorem four_cut (l : BL) (h : l.length < 4) : fourL l = -1 := by
  unfold fourL
  rw [if_pos]
  refine .inr (.inr (.inr ?_))
  rw [show l.getD 3 0 = 0 by simp [List.getD, List.getElem?_eq_none (show l.length ≤ 3 by omega)]]
  decide
theorem char_cut_hex (t : BL) (h : t.length < 4) : (charL (92 :: 117 :: t)).2 = 0 := by
  unfold charL
  rw [charL_esc]
  simp only [List.getD_cons_zero, List.getD_cons_succ]
  rw [if_neg (by omega), if_neg (by omega), if_neg (by decide), if_neg (by decide)]
  rw [show List.drop 2 (92 :: 117 :: t) = t from rfl]
  have hw : wideL t = (0, 0) := by unfold wideL; rw [four_cut t h, if_pos (by omega)]
  rw [hw]
  rfl
theorem chunk_cut (l : BL) (hne : l ≠ []) (j : Nat) (h0 : 0 < j) (hj : j < (chunkL l).length) : ((chunkL l).take j).getD 0 0 ≠ 34 ∧ (charL ((chunkL l).take j)).2 = 0 := by
  have hv := dec_scalar l
  have hen := encode_decode l hne
  have hle := decodeL_le l hne
  obtain ⟨R, hR⟩ : ∃ R, (decodeL l).1 = R := ⟨_, rfl⟩
  obtain ⟨K, hK⟩ : ∃ K, (decodeL l).2 = K := ⟨_, rfl⟩
  unfold chunkL at hj ⊢
  rw [hR, hK] at hen hj
  rw [hR] at hv
  rw [hK] at hle
  rw [hR, hK]
  have one : ∀ c : UInt8, j < [92, c].length → (([92, c] : BL).take j).getD 0 0 ≠ 34 ∧ (charL (([92, c] : BL).take j)).2 = 0 := fun c h => by
    simp only [List.length_cons, List.length_nil] at h
    obtain rfl : j = 1 := by omega
    simp only [List.take_succ_cons, List.take_zero]
    exact ⟨by simp, by rw [char_one]⟩
  have six : ∀ a b c d : UInt8, j < [92, 117, a, b, c, d].length → (([92, 117, a, b, c, d] : BL).take j).getD 0 0 ≠ 34 ∧ (charL (([92, 117, a, b, c, d] : BL).take j)).2 = 0 := fun a b c d h => by
    simp only [List.length_cons, List.length_nil] at h
    match j, h0, h with
    | 1, _, _ => simp only [List.take_succ_cons, List.take_zero]; exact ⟨by simp, by rw [char_one]⟩
    | 2, _, _ => simp only [List.take_succ_cons, List.take_zero]; exact ⟨by simp, char_cut_hex _ (by simp)⟩
    | 3, _, _ => simp only [List.take_succ_cons, List.take_zero]; exact ⟨by simp, char_cut_hex _ (by simp)⟩
    | 4, _, _ => simp only [List.take_succ_cons, List.take_zero]; exact ⟨by simp, char_cut_hex _ (by simp)⟩
    | 5, _, _ => simp only [List.take_succ_cons, List.take_zero]; exact ⟨by simp, char_cut_hex _ (by simp)⟩
  unfold chunkC at hj ⊢
  split
  · rename_i h; rw [if_pos h] at hj; exact six _ _ _ _ hj
  rename_i hA
  rw [if_neg hA] at hj
  split
  · rename_i h; rw [if_pos h] at hj; exact one _ hj
  rename_i h8
  rw [if_neg h8] at hj
  split
  · rename_i h; rw [if_pos h] at hj; exact one _ hj
  rename_i h9
  rw [if_neg h9] at hj
  split
  · rename_i h; rw [if_pos h] at hj; exact one _ hj
  rename_i h10
  rw [if_neg h10] at hj
  split
  · rename_i h; rw [if_pos h] at hj; exact one _ hj
  rename_i h12
  rw [if_neg h12] at hj
  split
  · rename_i h; rw [if_pos h] at hj; exact one _ hj
  rename_i h13
  rw [if_neg h13] at hj
  split
  · rename_i h; rw [if_pos h] at hj; exact six _ _ _ _ hj
  rename_i h32
  rw [if_neg h32] at hj
  split
  · rename_i h
    rw [if_pos h, ← hen hA] at hj
    rw [← hen hA]
    rcases h with h | h
    · rw [h] at hj ⊢; exact one 34 hj
    · rw [h] at hj ⊢; exact one 92 hj
  · rename_i h
    rw [if_neg h, ← hen hA] at hj
    rw [← hen hA]
    obtain ⟨h1, h2⟩ := dec_cut R hv j h0 hj
    refine ⟨h2, ?_⟩
    unfold charL
    rw [h1]
    rfl
theorem cut_read (l : BL) : ∀ j, j ≤ (chunks l).length → readB ((chunks l ++ [34]).take j) = none := by
  induction l using by_chars with
  | h0 =>
    intro j hj
    rw [chunks_nil] at hj ⊢
    simp at hj
    subst hj
    rfl
  | h1 l hne ih =>
    intro j hj
    rw [chunks_step l hne, List.length_append] at hj
    rw [chunks_step l hne, List.append_assoc]
    by_cases hc : j < (chunkL l).length
    · rw [List.take_append_of_le_length (by omega)]
      by_cases h0 : j = 0
      · rw [h0]; rfl
      · obtain ⟨h1, h2⟩ := chunk_cut l hne j (by omega) hc
        exact readB_bad _ h1 h2
    · obtain ⟨i, rfl⟩ : ∃ i, j = (chunkL l).length + i := ⟨j - (chunkL l).length, by omega⟩
      rw [List.take_length_add_append]
      have hcc := chunk_char l hne ((chunks (l.drop (decodeL l).2) ++ [34]).take i)
      have hcl := (chunkL_length l hne).2
      rw [readB_step _ (by intro e; have := congrArg List.length e; rw [List.length_append, List.length_nil] at this; omega) hcc.1 (by rw [hcc.2]; dsimp only; omega), hcc.2]
      dsimp only
      rw [drop_len, ih i (by omega)]
theorem short_read (l : BL) (k : Nat) (h : k < (quoteL l).length) : readL ((quoteL l).take k) = none := by
  unfold quoteL at h ⊢
  rw [List.length_cons, List.length_append, List.length_singleton] at h
  cases k with
  | zero => rfl
  | succ k =>
    rw [List.take_succ_cons]
    unfold readL
    rw [if_neg (by simp), List.drop_succ_cons, List.drop_zero, cut_read l k (by omega)]
end Go.Proofs.YthlioinmeimhoaaDoor
