/- JSON's reader, in plain Lean over lists of bytes: what a text is, or what is wrong with it. -/
import Derived.Test.YtccnfnoonpfdfaaGreatDoorJnA
namespace Go.Proofs.YtccnfnoonpfdfaaGreatDoor
open Go.Lib

def isBlank (c : UInt8) : Bool := c == 32 || c == 9 || c == 10 || c == 13
def blankL : BL → BL
  | [] => []
  | c :: t => if isBlank c then blankL t else c :: t
/-- what stands behind a text, if it stands there. -/
def isL : BL → BL → Option BL
  | [], s => some s
  | _ :: _, [] => none
  | a :: t, c :: s => if a = c then isL t s else none
def isDig (c : UInt8) : Bool := decide (48 ≤ c.toNat) && decide (c.toNat ≤ 57)
def digsL : BL → BL
  | [] => []
  | c :: t => if isDig c then c :: digsL t else []
def numOf (l : BL) : Nat := l.foldl (fun n c => n * 10 + (c.toNat - 48)) 0
def isDot (s : BL) : Bool := match s with
  | c :: _ => c == 46 || c == 101 || c == 69
  | [] => false
/-- the digits of a number: a 0 alone, or as many as there are. -/
def takeN (s : BL) : BL := match s with
  | c :: t => if c = 48 then [48] else digsL (c :: t)
  | [] => []
abbrev Res (α : Type) := Except Nat (α × BL)
/-- a number: minus or not, behind that. -/
def numP (minus : Bool) (s : BL) : Res V :=
  if takeN s = [] then .error 1
  else if isDot (s.drop (takeN s).length) then .error 4
  else if numOf (takeN s) < 9223372036854775808 ∨ (minus = true ∧ numOf (takeN s) = 9223372036854775808) then .ok (.int (if minus then - (numOf (takeN s) : Int) else numOf (takeN s)), s.drop (takeN s).length)
  else .error 4
/-- a text in quotes. -/
def textP (s : BL) : Res BL := match readL s with
  | some (t, n) => .ok (t, s.drop n)
  | none => .error 1
/-- the fields with one more, in their names' order. -/
def setF : List (BL × V) → BL → V → List (BL × V)
  | [], n, v => [(n, v)]
  | f :: l, n, v => if lcmp f.1 n = .gt then (n, v) :: f :: l else f :: setF l n v
def hasF (l : List (BL × V)) (n : BL) : Bool := l.any fun f => f.1 == n
/-- where the next value begins, behind a comma where there is one ahead of it. -/
def nextP (first : Bool) (s : BL) : Except Nat BL := if first then .ok s else match isL [44] s with
  | some t => .ok (blankL t)
  | none => .error 1
/-- a list's values, behind its first sign and blanks; l: those that were read ahead. -/
def itemsP (rec : BL → Res V) : Nat → List V → BL → Res (List V)
  | 0, _, _ => .error 1
  | f + 1, l, s => match isL [93] s with
    | some t => .ok (l, t)
    | none => match nextP l.isEmpty s with
      | .error e => .error e
      | .ok s2 => match rec s2 with
        | .error e => .error e
        | .ok p => itemsP rec f (l ++ [p.1]) (blankL p.2)
/-- a field. -/
def fieldP2 (rec : BL → Res V) (l : List (BL × V)) (s : BL) : Res (List (BL × V)) := match textP s with
  | .error e => .error e
  | .ok p => if hasF l p.1 then .error 5 else match isL [58] (blankL p.2) with
    | none => .error 1
    | some t => match rec (blankL t) with
      | .error e => .error e
      | .ok q => .ok (setF l p.1 q.1, q.2)
def fieldsP (rec : BL → Res V) : Nat → List (BL × V) → BL → Res (List (BL × V))
  | 0, _, _ => .error 1
  | f + 1, l, s => match isL [125] s with
    | some t => .ok (l, t)
    | none => match nextP l.isEmpty s with
      | .error e => .error e
      | .ok s2 => match fieldP2 rec l s2 with
        | .error e => .error e
        | .ok p => fieldsP rec f p.1 (blankL p.2)
def listP (rec : BL → Res V) (s : BL) : Res V := match itemsP rec (s.length + 1) [] (blankL s) with
  | .error e => .error e
  | .ok p => .ok (.list p.1, p.2)
def objP (rec : BL → Res V) (s : BL) : Res V := match fieldsP rec (s.length + 1) [] (blankL s) with
  | .error e => .error e
  | .ok p => .ok (.obj p.1, p.2)
def bodyP (rec : BL → Res V) (s : BL) : Res V :=
  match isL [110, 117, 108, 108] s with
  | some t => .ok (.null, t)
  | none => match isL [116, 114, 117, 101] s with
    | some t => .ok (.bool 1, t)
    | none => match isL [102, 97, 108, 115, 101] s with
      | some t => .ok (.bool 0, t)
      | none => match isL [91] s with
        | some t => listP rec t
        | none => match isL [123] s with
          | some t => objP rec t
          | none => match isL [34] s with
            | some _ => (match textP s with
              | .error e => .error e
              | .ok p => .ok (.text p.1, p.2))
            | none => match isL [45] s with
              | some t => numP true t
              | none => numP false s
/-- the value at a place, where values may stand n deeper still. -/
def valP : Nat → BL → Res V
  | 0, _ => .error 2
  | n + 1, s => bodyP (valP n) s
/-- the value that a text is. -/
def parseP (s : BL) : Except Nat V := if 4096 < s.length then .error 3 else match valP 16 (blankL s) with
  | .error e => .error e
  | .ok p => if blankL p.2 = [] then .ok p.1 else .error 1

theorem blank_le : ∀ s : BL, (blankL s).length ≤ s.length
  | [] => Nat.le_refl _
  | c :: t => by
    rw [blankL]
    split
    · have := blank_le t; simp; omega
    · exact Nat.le_refl _
theorem isL_len : ∀ {t s r : BL}, isL t s = some r → s = t ++ r
  | [], s, r, h => by simpa [isL] using h
  | _ :: _, [], r, h => by simp [isL] at h
  | a :: t, c :: s, r, h => by
    rw [isL] at h
    split at h
    · rename_i e
      rw [e, isL_len h]; rfl
    · cases h
theorem isL_app : ∀ (t r : BL), isL t (t ++ r) = some r
  | [], r => rfl
  | a :: t, r => by rw [List.cons_append, isL, if_pos rfl, isL_app t r]
theorem digs_le : ∀ s : BL, (digsL s).length ≤ s.length
  | [] => Nat.le_refl _
  | c :: t => by
    rw [digsL]
    split
    · have := digs_le t; simp; omega
    · simp
theorem takeN_le (s : BL) : (takeN s).length ≤ s.length := by
  cases s with
  | nil => exact Nat.le_refl _
  | cons c t =>
    simp only [takeN]
    split
    · simp
    · exact digs_le _
def Less {α : Type} (rec : BL → Res α) : Prop := ∀ s p, rec s = .ok p → p.2.length < s.length
theorem isL_less {t s r : BL} (h : isL t s = some r) (ht : t ≠ []) : r.length < s.length := by
  rw [isL_len h, List.length_append]
  have := List.length_pos_iff.2 ht
  omega
theorem next_le {b : Bool} {s r : BL} (h : nextP b s = .ok r) : r.length ≤ s.length := by
  unfold nextP at h
  cases b with
  | true => simp at h; rw [h]; exact Nat.le_refl _
  | false =>
    simp only [Bool.false_eq_true, if_false] at h
    split at h
    · rename_i t ht
      cases h
      have h1 := blank_le t
      have h2 := isL_less ht (by simp)
      omega
    · cases h
theorem num_less (m : Bool) : Less (numP m) := by
  intro s p h
  unfold numP at h
  by_cases h1 : takeN s = []
  · rw [if_pos h1] at h; cases h
  · rw [if_neg h1] at h
    have h2 := List.length_pos_iff.2 h1
    have h3 := takeN_le s
    by_cases h4 : isDot (s.drop (takeN s).length)
    · rw [if_pos h4] at h; cases h
    · rw [if_neg h4] at h
      split at h
      · cases h
        simp only [List.length_drop]; omega
      · cases h
theorem readF_le : ∀ (k : Nat) (l t : BL) (n : Nat), readF k l = some (t, n) → 1 ≤ n ∧ n ≤ l.length
  | 0, l, t, n, h => by simp [readF] at h
  | k + 1, l, t, n, h => by
    rw [readF] at h
    by_cases hne : l = []
    · rw [if_pos hne] at h; cases h
    · rw [if_neg hne] at h
      have hl := List.length_pos_iff.2 hne
      by_cases hq : l.getD 0 0 = 34
      · rw [if_pos hq] at h
        cases h
        exact ⟨Nat.le_refl _, hl⟩
      · rw [if_neg hq] at h
        by_cases hz : (charL l).2 = 0
        · rw [if_pos hz] at h; cases h
        · rw [if_neg hz] at h
          split at h
          · cases h
          · rename_i t2 m hr
            cases h
            have h1 := readF_le k _ _ _ hr
            have h2 := charL_le l hne
            rw [List.length_drop] at h1
            omega
theorem readL_le {l t : BL} {n : Nat} (h : readL l = some (t, n)) : 2 ≤ n ∧ n ≤ l.length := by
  unfold readL at h
  split at h
  · cases h
  · split at h
    · cases h
    · rename_i t2 m hr
      cases h
      have := readF_le _ _ _ _ hr
      rw [List.length_drop] at this
      omega
theorem text_less : Less textP := by
  intro s p h
  unfold textP at h
  split at h
  · rename_i t n hr
    cases h
    have := readL_le hr
    simp only [List.length_drop]; omega
  · cases h
theorem items_less {rec : BL → Res V} (hr : Less rec) : ∀ (f : Nat) (l : List V) (s : BL) (p : List V × BL), itemsP rec f l s = .ok p → p.2.length < s.length
  | 0, l, s, p, h => by simp [itemsP] at h
  | f + 1, l, s, p, h => by
    rw [itemsP] at h
    split at h
    · rename_i t ht
      cases h
      exact isL_less ht (by simp)
    · split at h
      · cases h
      · rename_i s2 h2
        split at h
        · cases h
        · rename_i q hq
          have h3 := items_less hr f _ _ _ h
          have h4 := blank_le q.2
          have h5 := hr _ _ hq
          have h6 := next_le h2
          omega
theorem items_fuel {rec : BL → Res V} (hr : Less rec) : ∀ (f g : Nat) (l : List V) (s : BL), s.length < f → s.length < g → itemsP rec f l s = itemsP rec g l s
  | 0, _, _, _, h, _ => absurd h (Nat.not_lt_zero _)
  | _, 0, _, _, _, h => absurd h (Nat.not_lt_zero _)
  | f + 1, g + 1, l, s, hf, hg => by
    rw [itemsP, itemsP]
    split
    · rfl
    · split
      · rfl
      · rename_i s2 h2
        split
        · rfl
        · rename_i q hq
          have h4 := blank_le q.2
          have h5 := hr _ _ hq
          have h6 := next_le h2
          exact items_fuel hr f g _ _ (by omega) (by omega)
theorem field_less {rec : BL → Res V} (hr : Less rec) (l : List (BL × V)) : Less (fieldP2 rec l) := by
  intro s p h
  unfold fieldP2 at h
  split at h
  · cases h
  · rename_i q hq
    have h1 := text_less _ _ hq
    split at h
    · cases h
    · split at h
      · cases h
      · rename_i t ht
        have h2 := isL_less ht (by simp)
        have h3 := blank_le q.2
        have h4 := blank_le t
        split at h
        · cases h
        · rename_i r hr2
          have h5 := hr _ _ hr2
          cases h
          show r.2.length < _
          omega
theorem fields_less {rec : BL → Res V} (hr : Less rec) : ∀ (f : Nat) (l : List (BL × V)) (s : BL) (p : List (BL × V) × BL), fieldsP rec f l s = .ok p → p.2.length < s.length
  | 0, l, s, p, h => by simp [fieldsP] at h
  | f + 1, l, s, p, h => by
    rw [fieldsP] at h
    split at h
    · rename_i t ht
      cases h
      exact isL_less ht (by simp)
    · split at h
      · cases h
      · rename_i s2 h2
        split at h
        · cases h
        · rename_i q hq
          have h3 := fields_less hr f _ _ _ h
          have h4 := blank_le q.2
          have h5 := field_less hr l _ _ hq
          have h6 := next_le h2
          omega
theorem fields_fuel {rec : BL → Res V} (hr : Less rec) : ∀ (f g : Nat) (l : List (BL × V)) (s : BL), s.length < f → s.length < g → fieldsP rec f l s = fieldsP rec g l s
  | 0, _, _, _, h, _ => absurd h (Nat.not_lt_zero _)
  | _, 0, _, _, _, h => absurd h (Nat.not_lt_zero _)
  | f + 1, g + 1, l, s, hf, hg => by
    rw [fieldsP, fieldsP]
    split
    · rfl
    · split
      · rfl
      · rename_i s2 h2
        split
        · rfl
        · rename_i q hq
          have h4 := blank_le q.2
          have h5 := field_less hr l _ _ hq
          have h6 := next_le h2
          exact fields_fuel hr f g _ _ (by omega) (by omega)
theorem list_less {rec : BL → Res V} (hr : Less rec) {s : BL} {p : V × BL} (h : listP rec s = .ok p) : p.2.length < s.length := by
  unfold listP at h
  split at h
  · cases h
  · rename_i q hq
    cases h
    have h1 := items_less hr _ _ _ _ hq
    have h2 := blank_le s
    show q.2.length < _
    omega
theorem obj_less {rec : BL → Res V} (hr : Less rec) {s : BL} {p : V × BL} (h : objP rec s = .ok p) : p.2.length < s.length := by
  unfold objP at h
  split at h
  · cases h
  · rename_i q hq
    cases h
    have h1 := fields_less hr _ _ _ _ hq
    have h2 := blank_le s
    show q.2.length < _
    omega
theorem body_less {rec : BL → Res V} (hr : Less rec) : Less (bodyP rec) := by
  intro s p h
  unfold bodyP at h
  split at h
  · rename_i t ht; cases h; exact isL_less ht (by simp)
  split at h
  · rename_i t ht; cases h; exact isL_less ht (by simp)
  split at h
  · rename_i t ht; cases h; exact isL_less ht (by simp)
  split at h
  · rename_i t ht
    have h1 := isL_less ht (by simp)
    have h2 := list_less hr h
    omega
  split at h
  · rename_i t ht
    have h1 := isL_less ht (by simp)
    have h2 := obj_less hr h
    omega
  split at h
  · split at h
    · cases h
    · rename_i q hq
      cases h
      exact text_less _ _ hq
  split at h
  · rename_i t ht
    have h1 := isL_less ht (by simp)
    have h2 := num_less true _ _ h
    omega
  · exact num_less false _ _ h
theorem val_less : ∀ n, Less (valP n)
  | 0 => fun s p h => by simp [valP] at h
  | n + 1 => fun s p h => body_less (val_less n) s p h
theorem jex1 : parseP [123, 34, 98, 34, 58, 49, 44, 32, 34, 97, 34, 58, 91, 93, 125] = .ok (.obj [([97], .list []), ([98], .int 1)]) := by rfl
theorem jex2 : parseP [49, 46, 48] = .error 4 := by rfl
theorem jex3 : parseP [123, 34, 97, 34, 58, 49, 44, 34, 97, 34, 58, 50, 125] = .error 5 := by rfl
end Go.Proofs.YtccnfnoonpfdfaaGreatDoor
