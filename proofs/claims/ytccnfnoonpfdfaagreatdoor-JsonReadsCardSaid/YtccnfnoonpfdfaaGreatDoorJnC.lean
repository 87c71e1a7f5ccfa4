/- JSON: values in one another, numbers, names in whatever order. Plain. -/
import Derived.Test.YtccnfnoonpfdfaaGreatDoorJnB
namespace Go.Proofs.YtccnfnoonpfdfaaGreatDoor
open Go.Lib

/-! ### deep -/
def nestV (o : Bool) : Nat → V
  | 0 => .int 7
  | k + 1 => if o then .obj [([97], nestV o k)] else .list [nestV o k]
def nestL (o : Bool) (k : Nat) : BL := printV (nestV o k)
theorem quote_a : quoteL [97] = [34, 97, 34] := by rfl
theorem nest_zero (o : Bool) : nestL o 0 = [55] := by unfold nestL nestV; rw [printV]; unfold intL; rw [if_neg (by decide), digN]; rfl
theorem nest_list (k : Nat) : nestL false (k + 1) = [91] ++ nestL false k ++ [93] := by
  unfold nestL
  rw [nestV, if_neg (by decide), printV, joinV, tailV, List.append_nil]; rfl
theorem nest_obj (k : Nat) : nestL true (k + 1) = [123, 34, 97, 34, 58] ++ nestL true k ++ [125] := by
  unfold nestL
  rw [nestV, if_pos rfl, printV, joinF, tailF, List.append_nil, printF, quote_a]; rfl
theorem nest_ok (o : Bool) : ∀ k, okV (nestV o k)
  | 0 => by rw [nestV, okV]; omega
  | k + 1 => by
    have ih := nest_ok o k
    rw [nestV]
    split
    · rw [okV, okFs, okF]; exact ⟨ih, by rw [okFs]; trivial⟩
    · rw [okV, okVs]; exact ⟨ih, by rw [okVs]; trivial⟩
theorem nest_valid (o : Bool) : ∀ k, validV (nestV o k) = true
  | 0 => by rw [nestV, validV]
  | k + 1 => by
    have ih := nest_valid o k
    rw [nestV]
    split
    · rw [validV, risesL_cons, validF, ih, risesL]; rfl
    · rw [validV, validVs, ih, validVs]; rfl
theorem nest_depth (o : Bool) : ∀ k, depthV (nestV o k) = k + 1
  | 0 => by simp [nestV, depthV]
  | k + 1 => by
    have ih := nest_depth o k
    rw [nestV]
    split
    · rw [depthV, depthFs, depthF, ih, depthFs]; simp
    · rw [depthV, depthVs, ih, depthVs]; simp
theorem nest_head (o : Bool) (k : Nat) : ∃ c t, nestL o k = c :: t ∧ isBlank c = false ∧ c ≠ 93 := by
  have := printP_head (fun _ => []) 0 (nestV o k)
  rw [printP_none] at this
  exact this
theorem nest_len (o : Bool) : ∀ k, (nestL o k).length ≤ 6 * k + 1
  | 0 => by rw [nest_zero]; decide
  | k + 1 => by
    have ih := nest_len o k
    cases o with
    | false => rw [nest_list]; simp only [List.length_append, List.length_cons, List.length_nil]; omega
    | true => rw [nest_obj]; simp only [List.length_append, List.length_cons, List.length_nil]; omega
theorem nest_deep (o : Bool) : ∀ (n k : Nat) (r : BL), n ≤ k → valP n (nestL o k ++ r) = .error 2
  | 0, k, r, _ => by rw [valP]
  | n + 1, 0, r, h => absurd h (by omega)
  | n + 1, k + 1, r, h => by
    have ih : ∀ r, valP n (nestL o k ++ r) = .error 2 := fun r => nest_deep o n k r (by omega)
    obtain ⟨c, t, hc, hcb, hc3⟩ := nest_head o k
    show bodyP (valP n) _ = _
    cases o with
    | false =>
      rw [nest_list, List.append_assoc, List.append_assoc, List.singleton_append]
      unfold bodyP
      rw [isL_ne _ _ (by decide), isL_ne _ _ (by decide), isL_ne _ _ (by decide), isL_one 91]
      simp only []
      unfold listP
      have e1 : blankL (nestL false k ++ ([93] ++ r)) = nestL false k ++ ([93] ++ r) := by rw [hc, List.cons_append, blank_sign c _ hcb]
      have e2 : isL [93] (nestL false k ++ ([93] ++ r)) = none := by rw [hc, List.cons_append, isL_ne _ _ (fun e => hc3 e.symm)]
      rw [e1, itemsP, e2]
      simp only [List.isEmpty_nil, nextP, if_true]
      rw [ih]
    | true =>
      rw [nest_obj]
      obtain ⟨X, hX⟩ : ∃ X, nestL true k = X := ⟨_, rfl⟩
      rw [hX] at hc ih ⊢
      simp only [List.cons_append, List.nil_append]
      unfold bodyP
      rw [isL_ne _ _ (by decide), isL_ne _ _ (by decide), isL_ne _ _ (by decide), isL_ne _ _ (by decide), isL_one 123]
      simp only []
      unfold objP
      have e3 : textP (34 :: (97 :: 34 :: 58 :: (X ++ [125] ++ r))) = .ok ([97], 58 :: (X ++ [125] ++ r)) := text_back [97] (58 :: (X ++ [125] ++ r)) (by decide)
      simp only [List.append_assoc, List.cons_append, List.nil_append] at e3 ⊢
      rw [blank_sign 34 _ rfl, fieldsP, isL_ne _ _ (by decide)]
      simp only [List.isEmpty_nil, nextP, if_true]
      unfold fieldP2
      rw [e3]
      simp only [hasF, List.any_nil, Bool.false_eq_true, if_false]
      rw [blank_sign 58 _ rfl, isL_one 58]
      simp only []
      rw [show blankL (X ++ (125 :: r)) = X ++ (125 :: r) by rw [hc, List.cons_append, blank_sign c _ hcb], ih]
/-- values may stand just so deep in one another. -/
theorem deep_yes (o : Bool) (k : Nat) (hk : k < 16) : parseP (nestL o k) = .ok (nestV o k) := by
  have h := parse_back (nestV o k) (nest_ok o k) (nest_valid o k) (by rw [nest_depth]; omega) (fun _ => []) (fun _ _ h => by simp at h) [] [] (fun _ h => by simp at h) (fun _ h => by simp at h)
  rw [printP_none, List.append_nil, List.nil_append] at h
  exact h (by have := nest_len o k; unfold nestL at this; omega)
theorem deep_no (o : Bool) (k : Nat) (hk : 16 ≤ k) (h24 : k < 24) : parseP (nestL o k) = .error 2 := by
  unfold parseP
  have h1 := nest_len o k
  obtain ⟨c, t, hc, hcb, hc3⟩ := nest_head o k
  have h2 := nest_deep o 16 k [] hk
  rw [List.append_nil] at h2
  rw [if_neg (by omega), show blankL (nestL o k) = nestL o k by rw [hc, blank_sign c _ hcb], h2]

/-! ### numbers -/
theorem digs_app' (l r : BL) (hl : ∀ c ∈ l, isDig c = true) (hr : digsL r = []) : digsL (l ++ r) = l := by
  induction l with
  | nil => exact hr
  | cons a l ih => rw [List.cons_append, digsL, hl a (List.mem_cons_self ..), if_pos rfl, ih (fun c hc => hl c (List.mem_cons_of_mem _ hc))]
theorem takeN_dot (n : Nat) (r : BL) (hr : digsL r = []) : takeN (digN n ++ r) = digN n := by
  by_cases h0 : n = 0
  · subst h0
    rw [show digN 0 = [48] by rw [digN]; rfl]
    rfl
  · obtain ⟨c, t, h1, h2⟩ := digN_head n h0
    have h3 := digs_app' (digN n) r (digN_dig n) hr
    rw [h1] at h3 ⊢
    simp only [List.cons_append, takeN, if_neg h2]
    exact h3
theorem num_dot (m : Bool) (n : Nat) (r : BL) (hr : digsL r = []) (hd : isDot r = true) : numP m (digN n ++ r) = .error 4 := by
  unfold numP
  rw [takeN_dot n r hr, if_neg (digN_ne n), List.drop_left, hd]
  rfl
theorem val_int (n : Nat) (k : Int) (r : BL) : valP (n + 1) (intL k ++ r) = if k < 0 then numP true (digN (-k).toNat ++ r) else numP false (digN k.toNat ++ r) := by
  show bodyP (valP n) _ = _
  unfold intL
  by_cases hk : k < 0
  · rw [if_pos hk, if_pos hk]; rfl
  · rw [if_neg hk, if_neg hk]
    have h2 := digN_ne k.toNat
    have h3 := digN_dig k.toNat
    revert h2 h3
    cases digN k.toNat with
    | nil => intro h; exact absurd rfl h
    | cons c t =>
      intro _ h3
      rw [List.cons_append, body_digit _ _ _ (h3 c (List.mem_cons_self ..))]
theorem int_blank (k : Int) (r : BL) : blankL (intL k ++ r) = intL k ++ r := by
  obtain ⟨c, t, h1, h2⟩ := intL_head k
  rw [h1, List.cons_append]
  rcases h2 with rfl | h2
  · exact blank_sign 45 _ rfl
  · exact blank_sign c _ (dig_noblank h2)
theorem digN_len (n : Nat) : ∀ k, n < 10 ^ (k + 1) → (digN n).length ≤ k + 1 := by
  induction n using Nat.strongRecOn with
  | _ n ih =>
    intro k hk
    rw [digN]
    split
    · simp
    · rename_i h
      cases k with
      | zero => simp at hk; omega
      | succ k =>
        have := ih (n / 10) (by omega) k (by rw [Nat.div_lt_iff_lt_mul (by omega)]; rw [Nat.pow_succ] at hk; exact hk)
        rw [List.length_append]
        simp; omega
theorem intL_len (k : Int) (hk : -9223372036854775808 ≤ k ∧ k ≤ 9223372036854775807) : (intL k).length ≤ 20 := by
  unfold intL
  split
  · have := digN_len (-k).toNat 18 (by have : (10 : Nat) ^ 19 = 10000000000000000000 := rfl; omega)
    simp; omega
  · have := digN_len k.toNat 18 (by have : (10 : Nat) ^ 19 = 10000000000000000000 := rfl; omega)
    omega
/-- a fraction, or a power of ten. -/
theorem int_dot (k : Int) (hk : -9223372036854775808 ≤ k ∧ k ≤ 9223372036854775807) (r : BL) (hr : digsL r = []) (hd : isDot r = true) (hl : r.length ≤ 100) : parseP (intL k ++ r) = .error 4 := by
  have h1 := intL_len k hk
  unfold parseP
  rw [if_neg (by rw [List.length_append]; omega), int_blank, val_int]
  by_cases h : k < 0
  · rw [if_pos h, num_dot true _ r hr hd]
  · rw [if_neg h, num_dot false _ r hr hd]
theorem num_many (m : Bool) (n : Nat) (z : BL) (h0 : n ≠ 0) (hz : ∀ c ∈ z, c = 48) (hl : 19 ≤ z.length) : numP m (digN n ++ z) = .error 4 := by
  have hz1 : ∀ (z : BL), (∀ c ∈ z, c = 48) → ∀ l : BL, numOf (l ++ z) = numOf l * 10 ^ z.length := by
    intro z
    induction z with
    | nil => intro _ l; simp
    | cons a z ih =>
      intro hz l
      have h1 := ih (fun c hc => hz c (List.mem_cons_of_mem _ hc)) (l ++ [a])
      rw [List.append_assoc] at h1
      rw [show l ++ a :: z = l ++ ([a] ++ z) from rfl, h1, numOf_snoc, hz a (List.mem_cons_self ..), List.length_cons, Nat.pow_succ, Nat.mul_comm (10 ^ z.length) 10, ← Nat.mul_assoc]
      rfl
  have h1 : takeN (digN n ++ z) = digN n ++ z := by
    obtain ⟨c, t, h1, h2⟩ := digN_head n h0
    have h3 := digs_app' (digN n ++ z) [] (fun c hc => by
      rcases List.mem_append.1 hc with h | h
      · exact digN_dig n c h
      · rw [hz c h]; rfl) rfl
    rw [List.append_nil, h1] at h3
    rw [h1]
    simp only [List.cons_append, takeN, if_neg h2] at h3 ⊢
    exact h3
  have h2 : numOf (digN n ++ z) = n * 10 ^ z.length := by rw [hz1 z hz, numOf_digN]
  have h3 : 10 ^ 19 ≤ numOf (digN n ++ z) := by
    rw [h2]
    calc 10 ^ 19 ≤ 10 ^ z.length := Nat.pow_le_pow_right (by omega) hl
      _ = 1 * 10 ^ z.length := (Nat.one_mul _).symm
      _ ≤ n * 10 ^ z.length := Nat.mul_le_mul_right _ (by omega)
  have h4 : (10 : Nat) ^ 19 = 10000000000000000000 := rfl
  unfold numP
  rw [h1, if_neg (by have := digN_ne n; simp [this]), List.drop_length, if_neg (by decide), if_neg (by omega)]
theorem int_zeros (k : Int) (hk : -9223372036854775808 ≤ k ∧ k ≤ 9223372036854775807) (z : BL) (hz : ∀ c ∈ z, c = 48) (hl : z.length = 19) : parseP (intL k ++ z) = .error (if k = 0 then 1 else 4) := by
  have h1 := intL_len k hk
  unfold parseP
  rw [if_neg (by rw [List.length_append]; omega), int_blank, val_int]
  by_cases h0 : k = 0
  · subst h0
    rw [if_neg (by omega), show (0 : Int).toNat = 0 from rfl, show digN 0 = [48] by rw [digN]; rfl, if_pos rfl]
    have h2 : numP false ([48] ++ z) = .ok (.int 0, z) := by
      cases z with
      | nil => rfl
      | cons a z =>
        rw [hz a (List.mem_cons_self ..)]; rfl
    rw [h2]
    simp only []
    cases z with
    | nil => simp at hl
    | cons a z =>
      rw [hz a (List.mem_cons_self ..), blank_sign 48 _ rfl]; rfl
  · rw [if_neg h0]
    by_cases h : k < 0
    · rw [if_pos h, num_many true _ z (by omega) hz (by omega)]
    · rw [if_neg h, num_many false _ z (by omega) hz (by omega)]
theorem zero_int (k : Int) (hk : -9223372036854775808 ≤ k ∧ k ≤ 9223372036854775807) : parseP (48 :: intL k) = .error 1 := by
  have h1 := intL_len k hk
  obtain ⟨c, t, hc, h2⟩ := intL_head k
  have hb : isBlank c = false := by
    rcases h2 with rfl | h2
    · rfl
    · exact dig_noblank h2
  have hd : isDot (c :: t) = false := by
    show (c == 46 || c == 101 || c == 69) = false
    rcases h2 with rfl | h2
    · rfl
    · have h3 : 48 ≤ c.toNat ∧ c.toNat ≤ 57 := by unfold isDig at h2; simpa using h2
      have ne : ∀ k : UInt8, (k.toNat < 48 ∨ 57 < k.toNat) → (c == k) = false := fun k hk => by
        rw [beq_eq_false_iff_ne]; rintro rfl; omega
      rw [ne 46 (by decide), ne 101 (by decide), ne 69 (by decide)]; rfl
  unfold parseP
  rw [if_neg (by rw [List.length_cons]; omega), hc, blank_sign 48 _ rfl]
  have h4 : valP 16 (48 :: c :: t) = .ok (.int 0, c :: t) := by
    show bodyP (valP 15) _ = _
    rw [body_digit _ _ _ (by decide)]
    unfold numP
    show (if isDot (c :: t) = true then _ else _) = _
    rw [hd]; rfl
  rw [h4]
  simp only []
  rw [blank_sign c _ hb]; rfl
end Go.Proofs.YtccnfnoonpfdfaaGreatDoor
