/- A value as JSON, blanks put between its parts; what is printed is read as it was. Plain. -/
import Derived.Test.YtccnfnoonpfdfaaGreatDoorJnP
namespace Go.Proofs.YtccnfnoonpfdfaaGreatDoor
open Go.Lib

/-! ### numbers -/
def digN (n : Nat) : BL := if n < 10 then [UInt8.ofNat (48 + n)] else digN (n / 10) ++ [UInt8.ofNat (48 + n % 10)]
termination_by n
decreasing_by omega
def intL (n : Int) : BL := if n < 0 then 45 :: digN (-n).toNat else digN n.toNat
theorem dig_ofNat (k : Nat) (h : k < 10) : isDig (UInt8.ofNat (48 + k)) = true ∧ (UInt8.ofNat (48 + k)).toNat = 48 + k := by
  have h1 : (UInt8.ofNat (48 + k)).toNat = 48 + k := by rw [UInt8.toNat_ofNat']; omega
  refine ⟨?_, h1⟩
  unfold isDig
  rw [h1]
  simp; omega
theorem digN_dig (n : Nat) : ∀ c ∈ digN n, isDig c = true := by
  induction n using Nat.strongRecOn with
  | _ n ih =>
    intro c hc
    rw [digN] at hc
    split at hc
    · rename_i h
      rw [List.mem_singleton] at hc
      rw [hc]; exact (dig_ofNat n h).1
    · rename_i h
      rcases List.mem_append.1 hc with hc | hc
      · exact ih (n / 10) (by omega) c hc
      · rw [List.mem_singleton] at hc
        rw [hc]; exact (dig_ofNat (n % 10) (by omega)).1
theorem digN_head (n : Nat) (h0 : n ≠ 0) : ∃ c t, digN n = c :: t ∧ c ≠ 48 := by
  induction n using Nat.strongRecOn with
  | _ n ih =>
    rw [digN]
    split
    · rename_i h
      refine ⟨_, [], rfl, fun e => ?_⟩
      have h2 := (dig_ofNat n h).2
      rw [e] at h2
      have : (48 : UInt8).toNat = 48 := rfl
      omega
    · obtain ⟨c, t, h1, h2⟩ := ih (n / 10) (by omega) (by omega)
      exact ⟨c, t ++ [UInt8.ofNat (48 + n % 10)], by rw [h1]; rfl, h2⟩
theorem numOf_snoc (l : BL) (c : UInt8) : numOf (l ++ [c]) = numOf l * 10 + (c.toNat - 48) := by
  unfold numOf
  rw [List.foldl_append]; rfl
theorem numOf_digN (n : Nat) : numOf (digN n) = n := by
  induction n using Nat.strongRecOn with
  | _ n ih =>
    rw [digN]
    split
    · rename_i h
      have h2 := (dig_ofNat n h).2
      show (0 * 10 + ((UInt8.ofNat (48 + n)).toNat - 48)) = n
      omega
    · have h2 := (dig_ofNat (n % 10) (by omega)).2
      rw [numOf_snoc, ih (n / 10) (by omega), h2]
      omega
def stopN (r : BL) : Bool := match r with
  | [] => true
  | c :: _ => !isDig c && !(c == 46 || c == 101 || c == 69)
theorem stop_dot {r : BL} (h : stopN r = true) : isDot r = false := by
  cases r with
  | nil => rfl
  | cons c t => simp [stopN] at h; simp [isDot, h]
theorem digs_app (l r : BL) (hl : ∀ c ∈ l, isDig c = true) (hr : stopN r = true) : digsL (l ++ r) = l := by
  induction l with
  | nil =>
    cases r with
    | nil => rfl
    | cons c t =>
      simp [stopN] at hr
      rw [List.nil_append, digsL, hr.1]; rfl
  | cons a l ih => rw [List.cons_append, digsL, hl a (List.mem_cons_self ..), if_pos rfl, ih (fun c hc => hl c (List.mem_cons_of_mem _ hc))]
theorem takeN_digN (n : Nat) (r : BL) (hr : stopN r = true) : takeN (digN n ++ r) = digN n := by
  by_cases h0 : n = 0
  · subst h0
    rw [show digN 0 = [48] by rw [digN]; rfl]
    rfl
  · obtain ⟨c, t, h1, h2⟩ := digN_head n h0
    have h3 := digs_app (digN n) r (digN_dig n) hr
    rw [h1] at h3 ⊢
    simp only [List.cons_append, takeN, if_neg h2]
    exact h3
theorem digN_ne (n : Nat) : digN n ≠ [] := by
  rw [digN]
  split
  · simp
  · simp
theorem num_back (m : Bool) (n : Nat) (r : BL) (hr : stopN r = true) (hn : n < 9223372036854775808 ∨ (m = true ∧ n = 9223372036854775808)) :
    numP m (digN n ++ r) = .ok (.int (if m then - (n : Int) else n), r) := by
  unfold numP
  rw [takeN_digN n r hr, if_neg (digN_ne n), List.drop_left, stop_dot hr, numOf_digN, if_pos hn]
  rfl

/-! ### values -/
mutual
def printV : V → BL
  | .null => [110, 117, 108, 108]
  | .bool n => if n = 1 then [116, 114, 117, 101] else [102, 97, 108, 115, 101]
  | .int n => intL n
  | .text s => quoteL s
  | .list l => 91 :: (joinV l ++ [93])
  | .obj l => 123 :: (joinF l ++ [125])
def joinV : List V → BL
  | [] => []
  | v :: l => printV v ++ tailV l
def tailV : List V → BL
  | [] => []
  | v :: l => 44 :: (printV v ++ tailV l)
def printF : BL × V → BL
  | (n, v) => quoteL n ++ 58 :: printV v
def joinF : List (BL × V) → BL
  | [] => []
  | f :: l => printF f ++ tailF l
def tailF : List (BL × V) → BL
  | [] => []
  | f :: l => 44 :: (printF f ++ tailF l)
end
theorem printF_eq (f : BL × V) : printF f = quoteL f.1 ++ 58 :: printV f.2 := by cases f; rw [printF]
theorem tailV_append (l m : List V) : tailV (l ++ m) = tailV l ++ tailV m := by
  induction l with
  | nil => simp [tailV]
  | cons a l ih => simp [tailV, ih]
theorem tailF_append (l m : List (BL × V)) : tailF (l ++ m) = tailF l ++ tailF m := by
  induction l with
  | nil => simp [tailF]
  | cons a l ih => simp [tailF, ih]
theorem joinV_snoc (l : List V) (v : V) : joinV (l ++ [v]) = if l = [] then printV v else joinV l ++ 44 :: printV v := by
  cases l with
  | nil => simp [joinV, tailV]
  | cons a l => simp [joinV, tailV, tailV_append]
theorem joinF_snoc (l : List (BL × V)) (v : BL × V) : joinF (l ++ [v]) = if l = [] then printF v else joinF l ++ 44 :: printF v := by
  cases l with
  | nil => simp [joinF, tailF]
  | cons a l => simp [joinF, tailF, tailF_append]
/-! ### the same, with blanks behind the signs; i: where it begins in what has no blanks -/
mutual
def printP (pd : Nat → BL) : Nat → V → BL
  | i, .list l => 91 :: (pd i ++ joinP pd (i + 1) l ++ [93])
  | i, .obj l => 123 :: (pd i ++ joinG pd (i + 1) l ++ [125])
  | _, .null => [110, 117, 108, 108]
  | _, .bool n => if n = 1 then [116, 114, 117, 101] else [102, 97, 108, 115, 101]
  | _, .int n => intL n
  | _, .text s => quoteL s
def joinP (pd : Nat → BL) : Nat → List V → BL
  | _, [] => []
  | i, v :: l => printP pd i v ++ tailP pd (i + (printV v).length) l
def tailP (pd : Nat → BL) : Nat → List V → BL
  | _, [] => []
  | i, v :: l => 44 :: (pd i ++ printP pd (i + 1) v ++ tailP pd (i + 1 + (printV v).length) l)
def printG (pd : Nat → BL) : Nat → BL × V → BL
  | i, (n, v) => quoteL n ++ 58 :: (pd (i + (quoteL n).length) ++ printP pd (i + (quoteL n).length + 1) v)
def joinG (pd : Nat → BL) : Nat → List (BL × V) → BL
  | _, [] => []
  | i, f :: l => printG pd i f ++ tailG pd (i + (printF f).length) l
def tailG (pd : Nat → BL) : Nat → List (BL × V) → BL
  | _, [] => []
  | i, f :: l => 44 :: (pd i ++ printG pd (i + 1) f ++ tailG pd (i + 1 + (printF f).length) l)
end
mutual
theorem printP_none : ∀ (i : Nat) (v : V), printP (fun _ => []) i v = printV v
  | i, .list l => by rw [printP, printV, joinP_none]; rfl
  | i, .obj l => by rw [printP, printV, joinG_none]; rfl
  | _, .null => by rw [printP, printV]
  | _, .bool n => by rw [printP, printV]
  | _, .int n => by rw [printP, printV]
  | _, .text s => by rw [printP, printV]
theorem joinP_none : ∀ (i : Nat) (l : List V), joinP (fun _ => []) i l = joinV l
  | _, [] => by rw [joinP, joinV]
  | i, v :: l => by rw [joinP, joinV, printP_none, tailP_none]
theorem tailP_none : ∀ (i : Nat) (l : List V), tailP (fun _ => []) i l = tailV l
  | _, [] => by rw [tailP, tailV]
  | i, v :: l => by rw [tailP, tailV, printP_none, tailP_none]; rfl
theorem printG_none : ∀ (i : Nat) (f : BL × V), printG (fun _ => []) i f = printF f
  | i, (n, v) => by rw [printG, printF, printP_none]; rfl
theorem joinG_none : ∀ (i : Nat) (l : List (BL × V)), joinG (fun _ => []) i l = joinF l
  | _, [] => by rw [joinG, joinF]
  | i, v :: l => by rw [joinG, joinF, printG_none, tailG_none]
theorem tailG_none : ∀ (i : Nat) (l : List (BL × V)), tailG (fun _ => []) i l = tailF l
  | _, [] => by rw [tailG, tailF]
  | i, v :: l => by rw [tailG, tailF, printG_none, tailG_none]; rfl
end

/-! ### back -/
def Pads (pd : Nat → BL) : Prop := ∀ i, ∀ c ∈ pd i, isBlank c = true
theorem blank_app (p s : BL) (h : ∀ c ∈ p, isBlank c = true) : blankL (p ++ s) = blankL s := by
  induction p with
  | nil => rfl
  | cons a p ih => rw [List.cons_append, blankL, h a (List.mem_cons_self ..), if_pos rfl, ih (fun c hc => h c (List.mem_cons_of_mem _ hc))]
theorem blank_sign (c : UInt8) (s : BL) (h : isBlank c = false) : blankL (c :: s) = c :: s := by rw [blankL, h]; rfl
theorem dig_noblank {c : UInt8} (h : isDig c = true) : isBlank c = false := by
  unfold isDig at h
  unfold isBlank
  have h1 : 48 ≤ c.toNat := by simp at h; exact h.1
  have ne : ∀ k : UInt8, k.toNat < 48 → (c == k) = false := fun k hk => by
    rw [beq_eq_false_iff_ne]; rintro rfl; omega
  rw [ne 32 (by decide), ne 9 (by decide), ne 10 (by decide), ne 13 (by decide)]; rfl
theorem intL_head (n : Int) : ∃ c t, intL n = c :: t ∧ (c = 45 ∨ isDig c = true) := by
  unfold intL
  split
  · exact ⟨45, _, rfl, .inl rfl⟩
  · have h := digN_ne n.toNat
    have h2 := digN_dig n.toNat
    revert h h2
    cases digN n.toNat with
    | nil => intro h; exact absurd rfl h
    | cons c t => intro _ h2; exact ⟨c, t, rfl, .inr (h2 c (List.mem_cons_self ..))⟩
/-- a value begins with a sign that is neither a blank nor a list's or an object's end. -/
theorem printP_head (pd : Nat → BL) (i : Nat) (v : V) : ∃ c t, printP pd i v = c :: t ∧ isBlank c = false ∧ c ≠ 93 := by
  cases v with
  | null => exact ⟨110, [117, 108, 108], by rw [printP], rfl, by decide⟩
  | bool n =>
    rw [printP]
    split
    · exact ⟨116, _, rfl, rfl, by decide⟩
    · exact ⟨102, _, rfl, rfl, by decide⟩
  | int n =>
    obtain ⟨c, t, h1, h2⟩ := intL_head n
    refine ⟨c, t, by rw [printP, h1], ?_⟩
    rcases h2 with rfl | h2
    · exact ⟨rfl, by decide⟩
    · exact ⟨dig_noblank h2, by rintro rfl; exact absurd h2 (by decide)⟩
  | text s => exact ⟨34, chunks s ++ [34], by rw [printP, quoteL], rfl, by decide⟩
  | list l => exact ⟨91, _, by rw [printP], rfl, by decide⟩
  | obj l => exact ⟨123, _, by rw [printP], rfl, by decide⟩
theorem text_back (s r : BL) (h : Lib.validD s = true) : textP (quoteL s ++ r) = .ok (s, r) := by
  unfold textP
  rw [quote_read]
  simp only [mend_same s h, List.drop_left]
def Back (rec : BL → Res V) (v : V) : Prop := ∀ (pd : Nat → BL) (i : Nat) (r : BL), Pads pd → stopN r = true → rec (printP pd i v ++ r) = .ok (v, r)
theorem stop_tailP (pd : Nat → BL) (i : Nat) (l : List V) (r : BL) : stopN (tailP pd i l ++ 93 :: r) = true := by
  cases l with
  | nil => rw [tailP]; rfl
  | cons v l => rw [tailP]; rfl
theorem stop_tailG (pd : Nat → BL) (i : Nat) (l : List (BL × V)) (r : BL) : stopN (tailG pd i l ++ 125 :: r) = true := by
  cases l with
  | nil => rw [tailG]; rfl
  | cons v l => rw [tailG]; rfl
theorem blank_tailP (pd : Nat → BL) (i : Nat) (l : List V) (r : BL) : blankL (tailP pd i l ++ 93 :: r) = tailP pd i l ++ 93 :: r := by
  cases l with
  | nil => rw [tailP]; exact blank_sign 93 r rfl
  | cons v l => rw [tailP]; exact blank_sign 44 _ rfl
theorem blank_tailG (pd : Nat → BL) (i : Nat) (l : List (BL × V)) (r : BL) : blankL (tailG pd i l ++ 125 :: r) = tailG pd i l ++ 125 :: r := by
  cases l with
  | nil => rw [tailG]; exact blank_sign 125 r rfl
  | cons v l => rw [tailG]; exact blank_sign 44 _ rfl
theorem isL_one (a : UInt8) (s : BL) : isL [a] (a :: s) = some s := isL_app [a] s
theorem isL_ne {a c : UInt8} (t s : BL) (h : a ≠ c) : isL (a :: t) (c :: s) = none := by rw [isL, if_neg h]
theorem items_tail {rec : BL → Res V} {pd : Nat → BL} (hp : Pads pd) : ∀ (l : List V) (i : Nat) (acc : List V) (r : BL) (f : Nat), acc ≠ [] → (∀ x ∈ l, Back rec x) → l.length < f →
    itemsP rec f acc (tailP pd i l ++ 93 :: r) = .ok (acc ++ l, r)
  | [], i, acc, r, 0, _, _, h => absurd h (Nat.not_lt_zero _)
  | [], i, acc, r, f + 1, _, _, _ => by
    rw [tailP, List.nil_append, itemsP, show isL [93] (93 :: r) = some r from isL_app [93] r, List.append_nil]
  | v :: l, i, acc, r, 0, _, _, h => absurd h (Nat.not_lt_zero _)
  | v :: l, i, acc, r, f + 1, ha, hb, hf => by
    have h1 : acc.isEmpty = false := by cases acc with
      | nil => exact absurd rfl ha
      | cons _ _ => rfl
    obtain ⟨c, t, hc, hcb, hc3⟩ := printP_head pd (i + 1) v
    rw [tailP, List.cons_append, itemsP, isL_ne _ _ (by decide), h1]
    have h2 : nextP false (44 :: (pd i ++ printP pd (i + 1) v ++ tailP pd (i + 1 + (printV v).length) l ++ 93 :: r)) = .ok (printP pd (i + 1) v ++ (tailP pd (i + 1 + (printV v).length) l ++ 93 :: r)) := by
      unfold nextP
      rw [isL_one 44]
      simp only [Bool.false_eq_true, if_false]
      rw [List.append_assoc, List.append_assoc, blank_app _ _ (hp i), hc, List.cons_append, blank_sign c _ hcb]
    simp only [h2]
    rw [hb v (List.mem_cons_self ..) pd (i + 1) _ hp (stop_tailP ..)]
    simp only []
    rw [blank_tailP, items_tail hp l _ (acc ++ [v]) r f (by simp) (fun x hx => hb x (List.mem_cons_of_mem _ hx)) (by simpa using hf), List.append_assoc]
    rfl
theorem tailP_len (pd : Nat → BL) : ∀ (i : Nat) (l : List V), l.length ≤ (tailP pd i l).length
  | _, [] => Nat.zero_le _
  | i, v :: l => by
    have h := tailP_len pd (i + 1 + (printV v).length) l
    rw [tailP]
    simp only [List.length_cons, List.length_append]
    omega
theorem list_back {rec : BL → Res V} {pd : Nat → BL} (hp : Pads pd) (i : Nat) (l : List V) (r : BL) (hb : ∀ x ∈ l, Back rec x) : listP rec (pd i ++ joinP pd (i + 1) l ++ 93 :: r) = .ok (.list l, r) := by
  unfold listP
  cases l with
  | nil =>
    rw [joinP, List.append_nil, blank_app _ _ (hp i), blank_sign 93 r rfl, itemsP, show isL [93] (93 :: r) = some r from isL_app [93] r]
  | cons v l =>
    obtain ⟨c, t, hc, hcb, hc3⟩ := printP_head pd (i + 1) v
    have hlen := tailP_len pd (i + 1 + (printV v).length) l
    have e1 : blankL (pd i ++ joinP pd (i + 1) (v :: l) ++ 93 :: r) = printP pd (i + 1) v ++ (tailP pd (i + 1 + (printV v).length) l ++ 93 :: r) := by
      rw [joinP, List.append_assoc, List.append_assoc, blank_app _ _ (hp i), hc, List.cons_append, blank_sign c _ hcb]
    have e2 : isL [93] (printP pd (i + 1) v ++ (tailP pd (i + 1 + (printV v).length) l ++ 93 :: r)) = none := by
      rw [hc, List.cons_append, isL_ne _ _ (fun e => hc3 e.symm)]
    rw [e1, itemsP, e2]
    show (match (match rec (printP pd (i + 1) v ++ (tailP pd (i + 1 + (printV v).length) l ++ 93 :: r)) with
      | .error e => .error e
      | .ok p => itemsP rec _ ([] ++ [p.1]) (blankL p.2) : Res (List V)) with
      | .error e => .error e
      | .ok p => .ok (.list p.1, p.2) : Res V) = _
    rw [hb v (List.mem_cons_self ..) pd (i + 1) _ hp (stop_tailP ..)]
    simp only []
    rw [blank_tailP, items_tail hp l _ ([] ++ [v]) r _ (by simp) (fun x hx => hb x (List.mem_cons_of_mem _ hx)) (by
      rw [joinP]
      simp only [List.length_append, List.length_cons]
      omega)]
    rfl
theorem setF_end : ∀ (l : List (BL × V)) (n : BL) (v : V), (∀ g ∈ l, lcmp g.1 n = .lt) → setF l n v = l ++ [(n, v)]
  | [], _, _, _ => rfl
  | g :: l, n, v, h => by
    have h1 := h g (List.mem_cons_self ..)
    rw [setF, if_neg (by rw [h1]; exact fun e => by cases e), setF_end l n v (fun x hx => h x (List.mem_cons_of_mem _ hx))]
    rfl
theorem hasF_not (l : List (BL × V)) (n : BL) (h : ∀ g ∈ l, lcmp g.1 n = .lt) : hasF l n = false := by
  unfold hasF
  rw [List.any_eq_false]
  intro g hg e
  have h1 := h g hg
  rw [eq_of_beq e, lcmp_refl] at h1
  cases h1
theorem quote_head (s : BL) : quoteL s = 34 :: (chunks s ++ [34]) := rfl
theorem field_back {rec : BL → Res V} {pd : Nat → BL} (hp : Pads pd) (i : Nat) (l : List (BL × V)) (f : BL × V) (r : BL) (hb : Back rec f.2) (hv : Lib.validD f.1 = true) (hl : ∀ g ∈ l, lcmp g.1 f.1 = .lt) (hr : stopN r = true) :
    fieldP2 rec l (printG pd i f ++ r) = .ok (l ++ [f], r) := by
  obtain ⟨n, v⟩ := f
  unfold fieldP2
  obtain ⟨c, t, hc, hcb, hc3⟩ := printP_head pd (i + (quoteL n).length + 1) v
  rw [printG, List.append_assoc, text_back _ _ hv]
  simp only []
  rw [hasF_not l n hl, List.cons_append, blank_sign 58 _ rfl, isL_one 58]
  simp only [Bool.false_eq_true, if_false]
  have e1 : blankL (pd (i + (quoteL n).length) ++ printP pd (i + (quoteL n).length + 1) v ++ r) = printP pd (i + (quoteL n).length + 1) v ++ r := by
    rw [List.append_assoc, blank_app _ _ (hp _), hc, List.cons_append, blank_sign c _ hcb]
  rw [e1, hb pd _ r hp hr]
  simp only []
  rw [setF_end l n v hl]
theorem fields_tail {rec : BL → Res V} {pd : Nat → BL} (hp : Pads pd) : ∀ (l : List (BL × V)) (i : Nat) (acc : List (BL × V)) (r : BL) (f : Nat), acc ≠ [] → (∀ x ∈ l, Back rec x.2 ∧ Lib.validD x.1 = true) →
    (∀ p, acc.getLast? = some p → risesL (some p.1) l = true) → (∀ p, acc.getLast? = some p → ∀ g ∈ acc, lcmp g.1 p.1 = .lt ∨ g.1 = p.1) → l.length < f →
    fieldsP rec f acc (tailG pd i l ++ 125 :: r) = .ok (acc ++ l, r)
  | [], i, acc, r, 0, _, _, _, _, h => absurd h (Nat.not_lt_zero _)
  | [], i, acc, r, f + 1, _, _, _, _, _ => by
    rw [tailG, List.nil_append, fieldsP, isL_one 125, List.append_nil]
  | v :: l, i, acc, r, 0, _, _, _, _, h => absurd h (Nat.not_lt_zero _)
  | v :: l, i, acc, r, f + 1, ha, hb, hs, hg, hf => by
    have h1 : acc.isEmpty = false := by cases acc with
      | nil => exact absurd rfl ha
      | cons _ _ => rfl
    obtain ⟨p, hp1⟩ : ∃ p, acc.getLast? = some p := by
      rw [List.getLast?_eq_some_getLast ha]; exact ⟨_, rfl⟩
    have hs1 := hs p hp1
    rw [risesL_cons, Bool.and_eq_true, Bool.and_eq_true] at hs1
    have hlt : lcmp p.1 v.1 = .lt := by simpa using hs1.1.2
    have hall : ∀ g ∈ acc, lcmp g.1 v.1 = .lt := fun g hga => by
      rcases hg p hp1 g hga with h | h
      · exact lcmp_trans h hlt
      · rw [h]; exact hlt
    rw [tailG, List.cons_append, fieldsP, isL_ne _ _ (by decide), h1]
    have h2 : nextP false (44 :: (pd i ++ printG pd (i + 1) v ++ tailG pd (i + 1 + (printF v).length) l ++ 125 :: r)) = .ok (printG pd (i + 1) v ++ (tailG pd (i + 1 + (printF v).length) l ++ 125 :: r)) := by
      unfold nextP
      rw [isL_one 44]
      simp only [Bool.false_eq_true, if_false]
      obtain ⟨n, x⟩ := v
      rw [List.append_assoc, List.append_assoc, blank_app _ _ (hp i), printG, quote_head, List.cons_append, List.cons_append, blank_sign 34 _ rfl]
    simp only [h2]
    rw [field_back hp (i + 1) acc v _ (hb v (List.mem_cons_self ..)).1 (hb v (List.mem_cons_self ..)).2 hall (stop_tailG ..)]
    simp only []
    rw [blank_tailG, fields_tail hp l _ (acc ++ [v]) r f (by simp) (fun x hx => hb x (List.mem_cons_of_mem _ hx)) (fun q hq => by
        rw [List.getLast?_append] at hq
        simp at hq
        rw [← hq]; exact hs1.2) (fun q hq g hga => by
        rw [List.getLast?_append] at hq
        simp at hq
        rw [← hq]
        rcases List.mem_append.1 hga with h | h
        · exact .inl (hall g h)
        · rw [List.mem_singleton] at h; exact .inr (by rw [h])) (by simpa using hf), List.append_assoc]
    rfl
theorem tailG_len (pd : Nat → BL) : ∀ (i : Nat) (l : List (BL × V)), l.length ≤ (tailG pd i l).length
  | _, [] => Nat.zero_le _
  | i, v :: l => by
    have h := tailG_len pd (i + 1 + (printF v).length) l
    rw [tailG]
    simp only [List.length_cons, List.length_append]
    omega
theorem obj_back {rec : BL → Res V} {pd : Nat → BL} (hp : Pads pd) (i : Nat) (l : List (BL × V)) (r : BL) (hb : ∀ x ∈ l, Back rec x.2 ∧ Lib.validD x.1 = true) (hs : risesL none l = true) : objP rec (pd i ++ joinG pd (i + 1) l ++ 125 :: r) = .ok (.obj l, r) := by
  unfold objP
  cases l with
  | nil =>
    rw [joinG, List.append_nil, blank_app _ _ (hp i), blank_sign 125 r rfl, fieldsP, isL_one 125]
  | cons v l =>
    have hlen := tailG_len pd (i + 1 + (printF v).length) l
    have e1 : blankL (pd i ++ joinG pd (i + 1) (v :: l) ++ 125 :: r) = printG pd (i + 1) v ++ (tailG pd (i + 1 + (printF v).length) l ++ 125 :: r) := by
      rw [joinG, List.append_assoc, List.append_assoc, blank_app _ _ (hp i)]
      obtain ⟨n, x⟩ := v
      rw [printG, quote_head, List.cons_append, List.cons_append, blank_sign 34 _ rfl]
    have e2 : isL [125] (printG pd (i + 1) v ++ (tailG pd (i + 1 + (printF v).length) l ++ 125 :: r)) = none := by
      obtain ⟨n, x⟩ := v
      rw [printG, quote_head, List.cons_append, List.cons_append, isL_ne _ _ (by decide)]
    rw [e1, fieldsP, e2]
    show (match (match fieldP2 rec [] (printG pd (i + 1) v ++ (tailG pd (i + 1 + (printF v).length) l ++ 125 :: r)) with
      | .error e => .error e
      | .ok p => fieldsP rec _ p.1 (blankL p.2) : Res (List (BL × V))) with
      | .error e => .error e
      | .ok p => .ok (.obj p.1, p.2) : Res V) = _
    rw [risesL_cons, Bool.and_eq_true] at hs
    rw [field_back hp (i + 1) [] v _ (hb v (List.mem_cons_self ..)).1 (hb v (List.mem_cons_self ..)).2 (fun g hg => by simp at hg) (stop_tailG ..)]
    simp only []
    rw [blank_tailG, fields_tail hp l _ ([] ++ [v]) r _ (by simp) (fun x hx => hb x (List.mem_cons_of_mem _ hx)) (fun q hq => by simp at hq; rw [← hq]; exact hs.2) (fun q hq g hg => by simp at hq hg; rw [hg, hq]; exact .inr rfl) (by
      rw [joinG]
      simp only [List.length_append, List.length_cons]
      omega)]
    rfl
theorem validVs_mem : ∀ {l : List V} {x : V}, validVs l = true → x ∈ l → validV x = true
  | y :: l, x, h, hx => by
    rw [validVs, Bool.and_eq_true] at h
    rcases List.mem_cons.1 hx with rfl | hx
    · exact h.1
    · exact validVs_mem h.2 hx
theorem risesL_mem : ∀ {l : List (BL × V)} {p : Option BL} {x : BL × V}, risesL p l = true → x ∈ l → Lib.validD x.1 = true ∧ validV x.2 = true
  | y :: l, p, x, h, hx => by
    rw [risesL_cons, Bool.and_eq_true, Bool.and_eq_true] at h
    rcases List.mem_cons.1 hx with rfl | hx
    · obtain ⟨n, v⟩ := x
      have := h.1.1
      rw [validF, Bool.and_eq_true] at this
      exact this
    · exact risesL_mem h.2 hx
theorem body_digit (rec : BL → Res V) (c : UInt8) (t : BL) (h : isDig c = true) : bodyP rec (c :: t) = numP false (c :: t) := by
  have h1 : 48 ≤ c.toNat ∧ c.toNat ≤ 57 := by unfold isDig at h; simpa using h
  have ne : ∀ k : UInt8, (k.toNat < 48 ∨ 57 < k.toNat) → k ≠ c := fun k hk e => by rw [e] at hk; omega
  unfold bodyP
  rw [isL_ne _ _ (ne 110 (by decide)), isL_ne _ _ (ne 116 (by decide)), isL_ne _ _ (ne 102 (by decide)), isL_ne _ _ (ne 91 (by decide)), isL_ne _ _ (ne 123 (by decide)), isL_ne _ _ (ne 34 (by decide)), isL_ne _ _ (ne 45 (by decide))]
theorem val_back : ∀ (n : Nat) (v : V), okV v → validV v = true → depthV v ≤ n → Back (valP n) v
  | 0, v, _, _, hd => by
    exfalso
    cases v <;> (simp only [depthV] at hd; omega)
  | n + 1, v, ho, hv, hd => by
    intro pd i r hp hr
    show bodyP (valP n) _ = _
    cases v with
    | null => rw [printP]; rfl
    | bool k =>
      rw [validV, Bool.or_eq_true] at hv
      rw [printP]
      rcases hv with h | h
      · have := eq_of_beq h; subst this
        rw [if_neg (by decide)]; rfl
      · have := eq_of_beq h; subst this
        rw [if_pos rfl]; rfl
    | int k =>
      rw [okV] at ho
      rw [printP]
      unfold intL
      by_cases hk : k < 0
      · rw [if_pos hk]
        have hn : (-k).toNat < 9223372036854775808 ∨ (-k).toNat = 9223372036854775808 := by clear hd; omega
        show bodyP (valP n) (45 :: (digN (-k).toNat ++ r)) = _
        rw [show bodyP (valP n) (45 :: (digN (-k).toNat ++ r)) = numP true (digN (-k).toNat ++ r) from rfl, num_back true (-k).toNat r hr (hn.imp id fun h => ⟨rfl, h⟩)]
        rw [if_pos rfl, show -((-k).toNat : Int) = k by clear hd; omega]
      · rw [if_neg hk]
        have h1 := num_back false k.toNat r hr (.inl (by clear hd; omega))
        have h2 := digN_ne k.toNat
        have h3 := digN_dig k.toNat
        rw [show (if false = true then -(k.toNat : Int) else (k.toNat : Int)) = k by clear hd; simp; omega] at h1
        revert h1 h2 h3
        cases digN k.toNat with
        | nil => intro _ h; exact absurd rfl h
        | cons c t =>
          intro h1 _ h3
          rw [List.cons_append, body_digit _ _ _ (h3 c (List.mem_cons_self ..))]
          exact h1
    | text s =>
      rw [validV] at hv
      rw [printP]
      have h1 := text_back s r hv
      rw [quote_head, List.cons_append] at h1 ⊢
      unfold bodyP
      rw [isL_ne _ _ (by decide), isL_ne _ _ (by decide), isL_ne _ _ (by decide), isL_ne _ _ (by decide), isL_ne _ _ (by decide), isL_one 34]
      simp only [h1]
    | list l =>
      rw [validV] at hv
      rw [okV] at ho
      rw [depthV] at hd
      rw [printP]
      have hb : ∀ x ∈ l, Back (valP n) x := fun x hx => val_back n x (okVs_mem ho hx) (validVs_mem hv hx) (by have := depthVs_le hx; omega)
      have h1 := list_back hp i l r hb
      rw [List.cons_append]
      unfold bodyP
      rw [isL_ne _ _ (by decide), isL_ne _ _ (by decide), isL_ne _ _ (by decide), isL_one 91]
      simp only [List.append_assoc, List.singleton_append] at h1 ⊢
      exact h1
    | obj l =>
      rw [validV] at hv
      rw [okV] at ho
      rw [depthV] at hd
      rw [printP]
      have hb : ∀ x ∈ l, Back (valP n) x.2 ∧ Lib.validD x.1 = true := fun x hx => ⟨val_back n x.2 (okFs_mem ho hx) (risesL_mem hv hx).2 (by have := depthFs_le hx; omega), (risesL_mem hv hx).1⟩
      have h1 := obj_back hp i l r hb hv
      rw [List.cons_append]
      unfold bodyP
      rw [isL_ne _ _ (by decide), isL_ne _ _ (by decide), isL_ne _ _ (by decide), isL_ne _ _ (by decide), isL_one 123]
      simp only [List.append_assoc, List.singleton_append] at h1 ⊢
      exact h1
/-- what is printed, with blanks between its parts, ahead and behind, is read as it was. -/
theorem parse_back (v : V) (ho : okV v) (hv : validV v = true) (hd : depthV v ≤ 16) (pd : Nat → BL) (hp : Pads pd) (a b : BL) (ha : ∀ c ∈ a, isBlank c = true) (hb : ∀ c ∈ b, isBlank c = true)
    (hl : (a ++ (printP pd 0 v ++ b)).length ≤ 4096) : parseP (a ++ (printP pd 0 v ++ b)) = .ok v := by
  unfold parseP
  rw [if_neg (by omega), blank_app _ _ ha]
  obtain ⟨c, t, hc, hcb, hc3⟩ := printP_head pd 0 v
  have e1 : blankL (printP pd 0 v ++ b) = printP pd 0 v ++ b := by rw [hc, List.cons_append, blank_sign c _ hcb]
  have e2 : stopN b = true := by
    cases b with
    | nil => rfl
    | cons c t =>
      have h := hb c (List.mem_cons_self ..)
      unfold isBlank at h
      simp at h
      rcases h with ((rfl | rfl) | rfl) | rfl <;> rfl
  rw [e1, val_back 16 v ho hv hd pd 0 b hp e2]
  simp only []
  have e3 := blank_app b [] hb
  rw [List.append_nil] at e3
  rw [e3]; rfl
end Go.Proofs.YtccnfnoonpfdfaaGreatDoor
