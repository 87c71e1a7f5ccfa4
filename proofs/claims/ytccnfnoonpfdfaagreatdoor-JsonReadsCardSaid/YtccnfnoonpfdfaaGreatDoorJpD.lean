/- The law's reader of lists and objects, in plain Lean: where its loops stand. -/
import Derived.Test.YtccnfnoonpfdfaaGreatDoorJpC
namespace Go.Proofs.YtccnfnoonpfdfaaGreatDoor
open Go.Lib

/-- a list's values, where the next one begins. -/
def manyI (rec : BL → Res V) (f : Nat) (l : List V) (s : BL) : Res (List V) := match rec s with
  | .error e => .error e
  | .ok p => itemsP rec f (l ++ [p.1]) (blankL p.2)
def manyF (rec : BL → Res V) (f : Nat) (l : List (BL × V)) (s : BL) : Res (List (BL × V)) := match fieldP2 rec l s with
  | .error e => .error e
  | .ok p => fieldsP rec f p.1 (blankL p.2)
def inList : Res (List V) → Res V
  | .error e => .error e
  | .ok p => .ok (.list p.1, p.2)
def inObj : Res (List (BL × V)) → Res V
  | .error e => .error e
  | .ok p => .ok (.obj p.1, p.2)
theorem listP_end (rec : BL → Res V) {r t : BL} (h : isL [93] (blankL r) = some t) : listP rec r = .ok (.list [], t) := by
  unfold listP
  rw [itemsP, h]
theorem listP_first (rec : BL → Res V) {r : BL} (h : isL [93] (blankL r) = none) : listP rec r = inList (manyI rec r.length [] (blankL r)) := by
  unfold listP manyI inList
  rw [itemsP, h]
  simp only [nextP, List.isEmpty_nil, if_true]
  cases rec (blankL r) with
  | error e => rfl
  | ok p =>
    simp only []
    cases itemsP rec r.length ([] ++ [p.1]) (blankL p.2) <;> rfl
theorem objP_end (rec : BL → Res V) {r t : BL} (h : isL [125] (blankL r) = some t) : objP rec r = .ok (.obj [], t) := by
  unfold objP
  rw [fieldsP, h]
theorem objP_first (rec : BL → Res V) {r : BL} (h : isL [125] (blankL r) = none) : objP rec r = inObj (manyF rec r.length [] (blankL r)) := by
  unfold objP manyF inObj
  rw [fieldsP, h]
  simp only [nextP, List.isEmpty_nil, if_true]
  cases fieldP2 rec [] (blankL r) with
  | error e => rfl
  | ok p =>
    simp only []
    cases fieldsP rec r.length p.1 (blankL p.2) <;> rfl
theorem manyI_err {rec : BL → Res V} {f : Nat} {l : List V} {s : BL} {e : Nat} (h : rec s = .error e) : manyI rec f l s = .error e := by
  unfold manyI
  rw [h]
theorem manyI_end {rec : BL → Res V} {f : Nat} {l : List V} {s t : BL} {p : V × BL} (h : rec s = .ok p) (h2 : isL [93] (blankL p.2) = some t) : manyI rec (f + 1) l s = .ok (l ++ [p.1], t) := by
  unfold manyI
  rw [h]
  simp only []
  rw [itemsP, h2]
theorem manyI_form {rec : BL → Res V} {f : Nat} {l : List V} {s : BL} {p : V × BL} (h : rec s = .ok p) (h2 : isL [93] (blankL p.2) = none) (h3 : isL [44] (blankL p.2) = none) : manyI rec (f + 1) l s = .error 1 := by
  unfold manyI
  rw [h]
  simp only []
  rw [itemsP, h2]
  have : (l ++ [p.1]).isEmpty = false := by cases l <;> rfl
  simp only [nextP, this, h3, Bool.false_eq_true, if_false]
theorem manyI_next {rec : BL → Res V} {f : Nat} {l : List V} {s t : BL} {p : V × BL} (h : rec s = .ok p) (h2 : isL [93] (blankL p.2) = none) (h3 : isL [44] (blankL p.2) = some t) : manyI rec (f + 1) l s = manyI rec f (l ++ [p.1]) (blankL t) := by
  unfold manyI
  rw [h]
  simp only []
  rw [itemsP, h2]
  have : (l ++ [p.1]).isEmpty = false := by cases l <;> rfl
  simp only [nextP, this, h3, Bool.false_eq_true, if_false]
  cases rec (blankL t) <;> rfl
theorem manyF_err {rec : BL → Res V} {f : Nat} {l : List (BL × V)} {s : BL} {e : Nat} (h : fieldP2 rec l s = .error e) : manyF rec f l s = .error e := by
  unfold manyF
  rw [h]
theorem manyF_end {rec : BL → Res V} {f : Nat} {l : List (BL × V)} {s t : BL} {p : List (BL × V) × BL} (h : fieldP2 rec l s = .ok p) (h2 : isL [125] (blankL p.2) = some t) : manyF rec (f + 1) l s = .ok (p.1, t) := by
  unfold manyF
  rw [h]
  simp only []
  rw [fieldsP, h2]
theorem setF_neR (l : List (BL × V)) (n : BL) (v : V) : setF l n v ≠ [] := by
  cases l with
  | nil => simp [setF]
  | cons a l => rw [setF]; split <;> simp
theorem fieldP2_ne {rec : BL → Res V} {l : List (BL × V)} {s : BL} {p : List (BL × V) × BL} (h : fieldP2 rec l s = .ok p) : p.1.isEmpty = false := by
  unfold fieldP2 at h
  split at h
  · cases h
  · rename_i q hq
    split at h
    · cases h
    · split at h
      · cases h
      · split at h
        · cases h
        · rename_i q2 hq2
          cases h
          have := setF_neR l q.1 q2.1
          cases hs : setF l q.1 q2.1 with
          | nil => exact absurd hs this
          | cons _ _ => rfl
theorem manyF_form {rec : BL → Res V} {f : Nat} {l : List (BL × V)} {s : BL} {p : List (BL × V) × BL} (h : fieldP2 rec l s = .ok p) (h2 : isL [125] (blankL p.2) = none) (h3 : isL [44] (blankL p.2) = none) : manyF rec (f + 1) l s = .error 1 := by
  unfold manyF
  rw [h]
  simp only []
  rw [fieldsP, h2]
  simp only [nextP, fieldP2_ne h, h3, Bool.false_eq_true, if_false]
theorem manyF_next {rec : BL → Res V} {f : Nat} {l : List (BL × V)} {s t : BL} {p : List (BL × V) × BL} (h : fieldP2 rec l s = .ok p) (h2 : isL [125] (blankL p.2) = none) (h3 : isL [44] (blankL p.2) = some t) : manyF rec (f + 1) l s = manyF rec f p.1 (blankL t) := by
  unfold manyF
  rw [h]
  simp only []
  rw [fieldsP, h2]
  simp only [nextP, fieldP2_ne h, h3, Bool.false_eq_true, if_false]
  cases fieldP2 rec p.1 (blankL t) <;> rfl
/-- a field's name and value, apart from the fields ahead of it. -/
def fieldQ (rec : BL → Res V) (l : List (BL × V)) (s : BL) : Res (BL × V) := match textP s with
  | .error e => .error e
  | .ok p => if hasF l p.1 then .error 5 else match isL [58] (blankL p.2) with
    | none => .error 1
    | some t => match rec (blankL t) with
      | .error e => .error e
      | .ok q => .ok ((p.1, q.1), q.2)
theorem fieldP2_eq (rec : BL → Res V) (l : List (BL × V)) (s : BL) : fieldP2 rec l s = match fieldQ rec l s with
  | .error e => .error e
  | .ok p => .ok (setF l p.1.1 p.1.2, p.2) := by
  unfold fieldP2 fieldQ
  cases textP s with
  | error e => rfl
  | ok p =>
    simp only []
    by_cases h : hasF l p.1 = true
    · rw [if_pos h, if_pos h]
    · rw [if_neg h, if_neg h]
      cases isL [58] (blankL p.2) with
      | none => rfl
      | some t =>
        simp only []
        cases rec (blankL t) <;> rfl
/-- the fields that were passed, with one more where it stands. -/
def laidGL (n : BL) (v : V) (l : List (BL × V)) : List (BL × V) × Bool := match l with
  | [] => ([], false)
  | f :: l => if lcmp f.1 n = .gt then ((n, v) :: f :: l, true) else ((f :: (laidGL n v l).1), (laidGL n v l).2)
theorem setF_laid (n : BL) (v : V) : ∀ l : List (BL × V), setF l n v = if (laidGL n v l).2 then (laidGL n v l).1 else (laidGL n v l).1 ++ [(n, v)]
  | [] => rfl
  | f :: l => by
    rw [setF, laidGL]
    split
    · simp
    · rw [setF_laid n v l]
      split <;> simp
/-- one more field of the row is passed. -/
theorem laidGL_snoc (n : BL) (v : V) : ∀ (l : List (BL × V)) (f : BL × V), laidGL n v (l ++ [f]) = if (laidGL n v l).2 = false ∧ lcmp f.1 n = .gt then ((laidGL n v l).1 ++ [(n, v), f], true) else ((laidGL n v l).1 ++ [f], (laidGL n v l).2)
  | [], f => by
    show (if lcmp f.1 n = .gt then _ else _) = _
    by_cases h : lcmp f.1 n = .gt
    · rw [if_pos h, if_pos ⟨rfl, h⟩]; rfl
    · rw [if_neg h, if_neg (fun e => h e.2)]; rfl
  | x :: l, f => by
    have ih := laidGL_snoc n v l f
    rw [List.cons_append, laidGL, laidGL]
    by_cases h : lcmp x.1 n = .gt
    · rw [if_pos h, if_pos h]; simp
    · rw [if_neg h, if_neg h, ih]
      by_cases h2 : (laidGL n v l).2 = false ∧ lcmp f.1 n = .gt
      · rw [if_pos h2, if_pos h2]; simp
      · rw [if_neg h2, if_neg h2]; simp
end Go.Proofs.YtccnfnoonpfdfaaGreatDoor
