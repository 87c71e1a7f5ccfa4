/- Texts in quotes, in plain Lean over lists of bytes: a text's pieces in quotes, the character that stands at a place, the text that is read. -/
import Derived.Lib.ValidLaws
import Derived.Lib.RuneBytes
namespace Go.Proofs.YthlioinmeimhoaaDoor
open Go.Lib

abbrev BL := List UInt8

/-! ### what is put -/
def hexD (k : Nat) : UInt8 := if k < 10 then UInt8.ofNat (48 + k) else UInt8.ofNat (87 + k)
def chunkC (r n : Nat) (piece : BL) : BL :=
  if r = 65533 ∧ n = 1 then [92, 117, 102, 102, 102, 100]
  else if r = 8 then [92, 98]
  else if r = 9 then [92, 116]
  else if r = 10 then [92, 110]
  else if r = 12 then [92, 102]
  else if r = 13 then [92, 114]
  else if r < 32 then [92, 117, 48, 48, hexD (r / 16), hexD (r % 16)]
  else if r = 34 ∨ r = 92 then 92 :: piece
  else piece
def chunkL (l : BL) : BL := chunkC (decodeL l).1 (decodeL l).2 (l.take (decodeL l).2)
def chunksF : Nat → BL → BL
  | 0, _ => []
  | k + 1, l => if l = [] then [] else chunkL l ++ chunksF k (l.drop (decodeL l).2)
def chunks (l : BL) : BL := chunksF l.length l
def quoteL (l : BL) : BL := 34 :: (chunks l ++ [34])
def mendL (l : BL) : BL := mapD (fun x => x) l

theorem chunksF_nil : ∀ n, chunksF n [] = []
  | 0 => rfl
  | _ + 1 => by simp [chunksF]
theorem chunksF_fuel : ∀ (n m : Nat) (l : BL), l.length ≤ n → l.length ≤ m → chunksF n l = chunksF m l
  | 0, m, l, hn, _ => by
    have : l = [] := List.eq_nil_of_length_eq_zero (by omega)
    subst this
    rw [chunksF_nil, chunksF_nil]
  | n + 1, 0, l, _, hm => by
    have : l = [] := List.eq_nil_of_length_eq_zero (by omega)
    subst this
    rw [chunksF_nil, chunksF_nil]
  | n + 1, m + 1, l, hn, hm => by
    by_cases hne : l = []
    · subst hne; rw [chunksF_nil, chunksF_nil]
    · have hw := decodeL_width l
      have hl : 0 < l.length := List.length_pos_iff.2 hne
      simp only [chunksF, if_neg hne]
      rw [chunksF_fuel n m _ (by rw [List.length_drop]; omega) (by rw [List.length_drop]; omega)]
theorem chunks_nil : chunks [] = [] := rfl
theorem chunks_step (l : BL) (hne : l ≠ []) : chunks l = chunkL l ++ chunks (l.drop (decodeL l).2) := by
  have hw := decodeL_width l
  have hl : 0 < l.length := List.length_pos_iff.2 hne
  unfold chunks
  obtain ⟨n, hn⟩ : ∃ n, l.length = n + 1 := ⟨l.length - 1, by omega⟩
  rw [hn]
  simp only [chunksF, if_neg hne]
  rw [chunksF_fuel n _ _ (by rw [List.length_drop]; omega) (Nat.le_refl _)]
theorem mend_step (l : BL) (hne : l ≠ []) : mendL l = encodeRune (decodeL l).1 ++ mendL (l.drop (decodeL l).2) := by
  unfold mendL
  rw [mapD_step _ l hne, if_pos (by omega)]
theorem mend_nil : mendL [] = [] := rfl

/-- An induction by the characters of a text. -/
theorem by_chars {M : BL → Prop} (h0 : M []) (h1 : ∀ l, l ≠ [] → M (l.drop (decodeL l).2) → M l) (l : BL) : M l := by
  obtain ⟨k, hk⟩ : ∃ k, l.length ≤ k := ⟨_, Nat.le_refl _⟩
  induction k generalizing l with
  | zero =>
    have : l = [] := List.eq_nil_of_length_eq_zero (by omega)
    rw [this]; exact h0
  | succ k ih =>
    by_cases hne : l = []
    · rw [hne]; exact h0
    · have hw := decodeL_width l
      have hl : 0 < l.length := List.length_pos_iff.2 hne
      exact h1 l hne (ih _ (by rw [List.length_drop]; omega))

theorem chunkL_length (l : BL) (hne : l ≠ []) : (chunkL l).length ≤ 6 * (decodeL l).2 ∧ 1 ≤ (chunkL l).length := by
  have hw := decodeL_width l
  have hle := decodeL_le l hne
  have ht : (l.take (decodeL l).2).length = (decodeL l).2 := by rw [List.length_take]; omega
  unfold chunkL chunkC
  repeat' split
  all_goals (try simp only [List.length_cons, List.length_nil])
  all_goals omega
theorem chunks_length (l : BL) : (chunks l).length ≤ 6 * l.length := by
  induction l using by_chars with
  | h0 => simp [chunks_nil]
  | h1 l hne ih =>
    have h1 := (chunkL_length l hne).1
    have hle := decodeL_le l hne
    rw [chunks_step l hne, List.length_append]
    rw [List.length_drop] at ih
    omega
theorem mend_length (l : BL) : (mendL l).length ≤ 4 * l.length := by
  induction l using by_chars with
  | h0 => simp [mend_nil]
  | h1 l hne ih =>
    have h1 := encodeRuneZ_length ((decodeL l).1 : Int)
    have h2 : (encodeRune ((decodeL l).1 : Int)).length ≤ 4 := by unfold encodeRune; rw [List.length_map]; omega
    have hw := decodeL_width l
    have hle := decodeL_le l hne
    rw [mend_step l hne, List.length_append]
    rw [List.length_drop] at ih
    omega

/-! ### what is read -/
def hexV (b : Nat) : Int := if 48 ≤ b ∧ b ≤ 57 then (b : Int) - 48 else if 97 ≤ b ∧ b ≤ 102 then (b : Int) - 87 else if 65 ≤ b ∧ b ≤ 70 then (b : Int) - 55 else -1
def fourL (l : BL) : Int :=
  if hexV (l.getD 0 0).toNat < 0 ∨ hexV (l.getD 1 0).toNat < 0 ∨ hexV (l.getD 2 0).toNat < 0 ∨ hexV (l.getD 3 0).toNat < 0 then -1
  else ((hexV (l.getD 0 0).toNat * 16 + hexV (l.getD 1 0).toNat) * 16 + hexV (l.getD 2 0).toNat) * 16 + hexV (l.getD 3 0).toNat
def escL (x : Nat) : Nat :=
  if x = 34 then 34 else if x = 92 then 92 else if x = 47 then 47 else if x = 98 then 8 else if x = 102 then 12 else if x = 110 then 10 else if x = 114 then 13 else if x = 116 then 9 else 0
/-- behind "\u": a number, and how many bytes behind the "u" it has. -/
def wideL (l : BL) : Int × Nat :=
  if fourL l < 0 then (0, 0)
  else if fourL l < 55296 ∨ 57343 < fourL l then (fourL l, 4)
  else if 56320 ≤ fourL l ∨ l.getD 4 0 ≠ 92 ∨ l.getD 5 0 ≠ 117 ∨ fourL (l.drop 6) < 56320 ∨ 57343 < fourL (l.drop 6) then (0, 0)
  else (65536 + (fourL l - 55296) * 1024 + (fourL (l.drop 6) - 56320), 10)
def charL (l : BL) : Int × Nat :=
  if (decodeL l).1 < 32 ∨ ((decodeL l).1 = 65533 ∧ (decodeL l).2 = 1) then (0, 0)
  else if (decodeL l).1 ≠ 92 then ((decodeL l).1, (decodeL l).2)
  else if escL (l.getD 1 0).toNat ≠ 0 then (escL (l.getD 1 0).toNat, 2)
  else if l.getD 1 0 ≠ 117 then (0, 0)
  else if (wideL (l.drop 2)).2 = 0 then (0, 0)
  else ((wideL (l.drop 2)).1, (wideL (l.drop 2)).2 + 2)
def readF : Nat → BL → Option (BL × Nat)
  | 0, _ => none
  | k + 1, l =>
    if l = [] then none
    else if l.getD 0 0 = 34 then some ([], 1)
    else if (charL l).2 = 0 then none
    else match readF k (l.drop (charL l).2) with
      | none => none
      | some (t, m) => some (encodeRune (charL l).1 ++ t, (charL l).2 + m)
/-- behind the first quote. -/
def readB (l : BL) : Option (BL × Nat) := readF l.length l
def readL (l : BL) : Option (BL × Nat) :=
  if l.getD 0 0 ≠ 34 then none else match readB (l.drop 1) with
    | none => none
    | some (t, m) => some (t, m + 1)

theorem readF_nil : ∀ n, readF n [] = none
  | 0 => rfl
  | _ + 1 => by simp [readF]
theorem readF_fuel : ∀ (n m : Nat) (l : BL), l.length ≤ n → l.length ≤ m → readF n l = readF m l
  | 0, m, l, hn, _ => by
    have : l = [] := List.eq_nil_of_length_eq_zero (by omega)
    subst this
    rw [readF_nil, readF_nil]
  | n + 1, 0, l, _, hm => by
    have : l = [] := List.eq_nil_of_length_eq_zero (by omega)
    subst this
    rw [readF_nil, readF_nil]
  | n + 1, m + 1, l, hn, hm => by
    by_cases hne : l = []
    · subst hne; rw [readF_nil, readF_nil]
    · have hl : 0 < l.length := List.length_pos_iff.2 hne
      simp only [readF, if_neg hne]
      by_cases hq : l.getD 0 0 = 34
      · rw [if_pos hq, if_pos hq]
      · rw [if_neg hq, if_neg hq]
        by_cases hz : (charL l).2 = 0
        · rw [if_pos hz, if_pos hz]
        · rw [if_neg hz, if_neg hz, readF_fuel n m _ (by rw [List.length_drop]; omega) (by rw [List.length_drop]; omega)]
theorem readB_nil : readB [] = none := rfl
theorem readB_quote (l : BL) (hne : l ≠ []) (hq : l.getD 0 0 = 34) : readB l = some ([], 1) := by
  have hl : 0 < l.length := List.length_pos_iff.2 hne
  unfold readB
  obtain ⟨n, hn⟩ : ∃ n, l.length = n + 1 := ⟨l.length - 1, by omega⟩
  rw [hn]
  simp only [readF, if_neg hne, if_pos hq]
theorem readB_bad (l : BL) (hq : l.getD 0 0 ≠ 34) (hz : (charL l).2 = 0) : readB l = none := by
  by_cases hne : l = []
  · rw [hne]; rfl
  have hl : 0 < l.length := List.length_pos_iff.2 hne
  unfold readB
  obtain ⟨n, hn⟩ : ∃ n, l.length = n + 1 := ⟨l.length - 1, by omega⟩
  rw [hn]
  simp only [readF, if_neg hne, if_neg hq, if_pos hz]
theorem readB_step (l : BL) (hne : l ≠ []) (hq : l.getD 0 0 ≠ 34) (hz : (charL l).2 ≠ 0) :
    readB l = match readB (l.drop (charL l).2) with
      | none => none
      | some (t, m) => some (encodeRune (charL l).1 ++ t, (charL l).2 + m) := by
  have hl : 0 < l.length := List.length_pos_iff.2 hne
  unfold readB
  obtain ⟨n, hn⟩ : ∃ n, l.length = n + 1 := ⟨l.length - 1, by omega⟩
  rw [hn]
  simp only [readF, if_neg hne, if_neg hq, if_neg hz]
  rw [readF_fuel n _ _ (by rw [List.length_drop]; omega) (Nat.le_refl _)]

/-! ### numbers -/
theorem hexV_le (b : Nat) : hexV b ≤ 15 := by
  unfold hexV
  repeat' split
  all_goals omega
theorem hexV_ge (b : Nat) : -1 ≤ hexV b := by
  unfold hexV
  repeat' split
  all_goals omega
theorem fourL_range (l : BL) : -1 ≤ fourL l ∧ fourL l ≤ 65535 := by
  have a := hexV_le (l.getD 0 0).toNat
  have b := hexV_le (l.getD 1 0).toNat
  have c := hexV_le (l.getD 2 0).toNat
  have d := hexV_le (l.getD 3 0).toNat
  unfold fourL
  split <;> omega
theorem wideL_range (l : BL) : 0 ≤ (wideL l).1 ∧ (wideL l).1 ≤ 1114111 := by
  have a := fourL_range l
  have b := fourL_range (l.drop 6)
  unfold wideL
  repeat' split
  all_goals (dsimp only; omega)
theorem charL_range (l : BL) : 0 ≤ (charL l).1 ∧ (charL l).1 ≤ 1114111 := by
  have a := wideL_range (l.drop 2)
  have b := decodeL_rune l
  have c : escL (l.getD 1 0).toNat ≤ 92 := by
    unfold escL
    repeat' split
    all_goals omega
  unfold charL
  repeat' split
  all_goals (dsimp only; omega)
theorem hexD_V : ∀ k : Fin 16, hexV (hexD k.val).toNat = (k.val : Int) := by decide
theorem fourL_hex (a b c d : Nat) (t : BL) (ha : a < 16) (hb : b < 16) (hc : c < 16) (hd : d < 16) :
    fourL (hexD a :: hexD b :: hexD c :: hexD d :: t) = ((a * 16 + b) * 16 + c) * 16 + d := by
  unfold fourL
  simp only [List.getD_cons_zero, List.getD_cons_succ]
  rw [hexD_V ⟨a, ha⟩, hexD_V ⟨b, hb⟩, hexD_V ⟨c, hc⟩, hexD_V ⟨d, hd⟩]
  dsimp only
  rw [if_neg (by omega)]
end Go.Proofs.YthlioinmeimhoaaDoor
