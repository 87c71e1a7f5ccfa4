/- JSON: an object's fields in whatever order, and a name that comes twice. Plain. -/
import Derived.Test.YtccnfnoonpfdfaaGreatDoorJnD
namespace Go.Proofs.YtccnfnoonpfdfaaGreatDoor
open Go.Lib

/-- a field as the statement writes it. -/
def nameT (f : BL × V) : BL := 34 :: (f.1 ++ ([34, 32, 58, 32] ++ printV f.2))
def restT : List (BL × V) → BL
  | [] => []
  | f :: l => [44, 32] ++ (nameT f ++ restT l)
def namesT : List (BL × V) → BL
  | [] => []
  | f :: l => nameT f ++ restT l
theorem restT_append (l m : List (BL × V)) : restT (l ++ m) = restT l ++ restT m := by
  induction l with
  | nil => rfl
  | cons a l ih => simp [restT, ih]
theorem namesT_snoc (l : List (BL × V)) (f : BL × V) : namesT (l ++ [f]) = if l = [] then nameT f else namesT l ++ ([44, 32] ++ nameT f) := by
  cases l with
  | nil => simp [namesT, restT]
  | cons a l => simp [namesT, restT, restT_append]
def setG (l : List (BL × V)) (f : BL × V) : List (BL × V) := setF l f.1 f.2
def setAll (l m : List (BL × V)) : List (BL × V) := m.foldl setG l
theorem setF_mem {l : List (BL × V)} {n : BL} {v : V} {g : BL × V} : g ∈ setF l n v ↔ g ∈ l ∨ g = (n, v) := by
  induction l with
  | nil => simp [setF]
  | cons a l ih =>
    rw [setF]
    split
    · simp only [List.mem_cons]
      constructor
      · rintro (h | h | h)
        · exact .inr h
        · exact .inl (.inl h)
        · exact .inl (.inr h)
      · rintro ((h | h) | h)
        · exact .inr (.inl h)
        · exact .inr (.inr h)
        · exact .inl h
    · simp only [List.mem_cons, ih, or_assoc]
theorem setAll_mem : ∀ (m l : List (BL × V)) (g : BL × V), g ∈ setAll l m ↔ g ∈ l ∨ g ∈ m
  | [], l, g => by simp [setAll]
  | f :: m, l, g => by
    show g ∈ setAll (setG l f) m ↔ _
    rw [setAll_mem m, show (g ∈ setG l f) ↔ _ from setF_mem]
    simp [or_assoc]
theorem setF_ne (l : List (BL × V)) (n : BL) (v : V) : setF l n v ≠ [] := by
  cases l with
  | nil => simp [setF]
  | cons a l => rw [setF]; split <;> simp
theorem hasF_iff (l : List (BL × V)) (n : BL) : hasF l n = true ↔ ∃ g ∈ l, g.1 = n := by
  unfold hasF
  rw [List.any_eq_true]
  simp
theorem hasF_no {l : List (BL × V)} {n : BL} (h : ∀ g ∈ l, g.1 ≠ n) : hasF l n = false := by
  cases hh : hasF l n with
  | false => rfl
  | true =>
    obtain ⟨g, hg, e⟩ := (hasF_iff l n).1 hh
    exact absurd e (h g hg)
/-- a field that the object does not have yet is read. -/
structure FOk (rec : BL → Res V) (f : BL × V) : Prop where
  back : Back rec f.2
  valid : Lib.validD f.1 = true
  quote : quoteL f.1 = 34 :: (f.1 ++ [34])
theorem nameT_quote {rec : BL → Res V} {f : BL × V} (h : FOk rec f) : nameT f = quoteL f.1 ++ ([32, 58, 32] ++ printV f.2) := by
  unfold nameT
  rw [h.quote]
  simp
def noPad : Nat → BL := fun _ => []
theorem pads_none : Pads noPad := fun _ _ h => by simp [noPad] at h
theorem field_read {rec : BL → Res V} {f : BL × V} (h : FOk rec f) (l : List (BL × V)) (hl : ∀ g ∈ l, g.1 ≠ f.1) (r : BL) (hr : stopN r = true) : fieldP2 rec l (nameT f ++ r) = .ok (setG l f, r) := by
  unfold fieldP2
  rw [nameT_quote h, List.append_assoc, text_back _ _ h.valid]
  simp only []
  rw [hasF_no hl]
  obtain ⟨c, t, hc, hcb, hc3⟩ := printP_head noPad 0 f.2
  have h1 := h.back noPad 0 r pads_none hr
  rw [show printP noPad 0 f.2 = printV f.2 from printP_none 0 f.2] at h1 hc
  have e1 : blankL ([32, 58, 32] ++ printV f.2 ++ r) = 58 :: (32 :: (printV f.2 ++ r)) := rfl
  have e2 : blankL (32 :: (printV f.2 ++ r)) = printV f.2 ++ r := by
    show blankL (printV f.2 ++ r) = _
    rw [hc, List.cons_append, blank_sign c _ hcb]
  rw [e1, isL_one 58]
  simp only [Bool.false_eq_true, if_false]
  rw [e2, h1]
  rfl
theorem nameT_head (f : BL × V) (r : BL) : ∃ t, nameT f ++ r = 34 :: t := ⟨_, rfl⟩
theorem rest_stop (m : List (BL × V)) (r : BL) (hr : stopN r = true) : stopN (restT m ++ r) = true := by
  cases m with
  | nil => exact hr
  | cons f m => rfl
theorem rest_blank (m : List (BL × V)) (r : BL) (hr : blankL r = r) : blankL (restT m ++ r) = restT m ++ r := by
  cases m with
  | nil => exact hr
  | cons f m => exact blank_sign 44 _ rfl
theorem fields_rest {rec : BL → Res V} (r : BL) (hr : stopN r = true) (hb : blankL r = r) : ∀ (m : List (BL × V)) (acc : List (BL × V)) (f : Nat), acc ≠ [] → (∀ x ∈ m, FOk rec x) → (m.map (·.1)).Nodup → (∀ x ∈ m, ∀ g ∈ acc, g.1 ≠ x.1) →
    fieldsP rec (m.length + f) acc (restT m ++ r) = fieldsP rec f (setAll acc m) r
  | [], acc, f, _, _, _, _ => by simp [restT, setAll]
  | x :: m, acc, f, ha, hx, hn, hd => by
    have h1 : acc.isEmpty = false := by cases acc with
      | nil => exact absurd rfl ha
      | cons _ _ => rfl
    rw [List.map_cons, List.nodup_cons] at hn
    rw [restT, List.length_cons, show m.length + 1 + f = m.length + f + 1 by omega, fieldsP, List.append_assoc]
    rw [show isL [125] ([44, 32] ++ (nameT x ++ restT m ++ r)) = none from isL_ne _ _ (by decide), h1]
    have e1 : nextP false ([44, 32] ++ (nameT x ++ restT m ++ r)) = .ok (nameT x ++ (restT m ++ r)) := by
      obtain ⟨t, ht⟩ := nameT_head x (restT m ++ r)
      unfold nextP
      rw [show isL [44] ([44, 32] ++ (nameT x ++ restT m ++ r)) = some (32 :: (nameT x ++ restT m ++ r)) from isL_one 44 _]
      simp only [Bool.false_eq_true, if_false]
      show Except.ok (blankL (nameT x ++ restT m ++ r)) = _
      rw [List.append_assoc, ht, blank_sign 34 _ rfl]
    simp only [e1]
    rw [field_read (hx x (List.mem_cons_self ..)) acc (hd x (List.mem_cons_self ..)) _ (rest_stop m r hr)]
    simp only []
    rw [rest_blank m r hb, fields_rest r hr hb m (setG acc x) f (setF_ne _ _ _) (fun y hy => hx y (List.mem_cons_of_mem _ hy)) hn.2 (fun y hy g hg e => by
      rcases setF_mem.1 hg with hg | rfl
      · exact hd y (List.mem_cons_of_mem _ hy) g hg e
      · exact hn.1 (List.mem_map.2 ⟨y, hy, e.symm⟩))]
    rfl
theorem fields_names_read {rec : BL → Res V} (r : BL) (hr : stopN r = true) (hb : blankL r = r) (m : List (BL × V)) (f : Nat) (hm : m ≠ []) (hx : ∀ x ∈ m, FOk rec x) (hn : (m.map (·.1)).Nodup) :
    fieldsP rec (m.length + f) [] (namesT m ++ r) = fieldsP rec f (setAll [] m) r := by
  cases m with
  | nil => exact absurd rfl hm
  | cons x m =>
    rw [List.map_cons, List.nodup_cons] at hn
    rw [namesT, List.length_cons, show m.length + 1 + f = m.length + f + 1 by omega, fieldsP, List.append_assoc]
    obtain ⟨t, ht⟩ := nameT_head x (restT m ++ r)
    rw [show isL [125] (nameT x ++ (restT m ++ r)) = none by rw [ht]; exact isL_ne _ _ (by decide)]
    show (match fieldP2 rec [] (nameT x ++ (restT m ++ r)) with
      | .error e => .error e
      | .ok p => fieldsP rec (m.length + f) p.1 (blankL p.2) : Res (List (BL × V))) = _
    rw [field_read (hx x (List.mem_cons_self ..)) [] (fun g hg => by simp at hg) _ (rest_stop m r hr)]
    simp only []
    rw [rest_blank m r hb, fields_rest r hr hb m (setG [] x) f (setF_ne _ _ _) (fun y hy => hx y (List.mem_cons_of_mem _ hy)) hn.2 (fun y hy g hg e => by
      rcases setF_mem.1 hg with hg | rfl
      · simp at hg
      · exact hn.1 (List.mem_map.2 ⟨y, hy, e.symm⟩))]
    rfl

/-! ### in order, or turned -/
theorem rises_all : ∀ (l : List (BL × V)) (n : BL), risesL (some n) l = true → ∀ g ∈ l, lcmp n g.1 = .lt
  | [], _, _, g, h => by simp at h
  | x :: l, n, h, g, hg => by
    rw [risesL_cons, Bool.and_eq_true, Bool.and_eq_true] at h
    have h1 : lcmp n x.1 = .lt := by simpa using h.1.2
    rcases List.mem_cons.1 hg with rfl | hg
    · exact h1
    · exact lcmp_trans h1 (rises_all l x.1 h.2 g hg)
theorem rises_some : ∀ (l : List (BL × V)) (p : Option BL), risesL p l = true → risesL none l = true
  | [], _, _ => by rw [risesL]
  | x :: l, p, h => by
    rw [risesL_cons, Bool.and_eq_true, Bool.and_eq_true] at h
    rw [risesL_cons, h.2, h.1.1]; rfl
theorem set_order : ∀ (m acc : List (BL × V)), risesL none m = true → (∀ g ∈ acc, ∀ x ∈ m, lcmp g.1 x.1 = .lt) → setAll acc m = acc ++ m
  | [], acc, _, _ => by simp [setAll]
  | x :: m, acc, h, ha => by
    rw [risesL_cons, Bool.and_eq_true] at h
    have h2 := rises_all m x.1 h.2
    have e1 : setG acc x = acc ++ [x] := setF_end acc x.1 x.2 (fun g hg => ha g hg x (List.mem_cons_self ..))
    show setAll (setG acc x) m = _
    rw [e1, set_order m _ (rises_some m _ h.2) (fun g hg y hy => by
      rcases List.mem_append.1 hg with hg | hg
      · exact ha g hg y (List.mem_cons_of_mem _ hy)
      · rw [List.mem_singleton] at hg; rw [hg]; exact h2 y hy), List.append_assoc]
    rfl
theorem lcmp_gt {a b : BL} (h : lcmp a b = .lt) : lcmp b a = .gt := by
  rw [lcmp_swap, h]; rfl
theorem set_turned : ∀ (m : List (BL × V)), risesL none m = true → setAll [] m.reverse = m
  | [], _ => rfl
  | x :: m, h => by
    rw [risesL_cons, Bool.and_eq_true] at h
    have h2 := rises_all m x.1 h.2
    have ih := set_turned m (rises_some m _ h.2)
    unfold setAll at ih ⊢
    rw [List.reverse_cons, List.foldl_append, ih]
    show setF m x.1 x.2 = x :: m
    cases m with
    | nil => rfl
    | cons y m => rw [setF, if_pos (lcmp_gt (h2 y (List.mem_cons_self ..)))]
theorem rises_nodup : ∀ (m : List (BL × V)), risesL none m = true → (m.map (·.1)).Nodup
  | [], _ => List.nodup_nil
  | x :: m, h => by
    rw [risesL_cons, Bool.and_eq_true] at h
    have h2 := rises_all m x.1 h.2
    rw [List.map_cons, List.nodup_cons]
    refine ⟨fun hx => ?_, rises_nodup m (rises_some m _ h.2)⟩
    obtain ⟨g, hg, e⟩ := List.mem_map.1 hx
    have := h2 g hg
    rw [e, lcmp_refl] at this
    cases this
def turned (t : Bool) (m : List (BL × V)) : List (BL × V) := if t then m.reverse else m
theorem turned_set (t : Bool) {m : List (BL × V)} (h : risesL none m = true) : setAll [] (turned t m) = m := by
  unfold turned
  split
  · exact set_turned m h
  · have := set_order m [] h (fun g hg => by simp at hg)
    rwa [List.nil_append] at this
theorem turned_mem (t : Bool) (m : List (BL × V)) (x : BL × V) : x ∈ turned t m ↔ x ∈ m := by
  unfold turned
  split
  · exact List.mem_reverse
  · exact Iff.rfl
theorem turned_nodup (t : Bool) {m : List (BL × V)} (h : risesL none m = true) : ((turned t m).map (·.1)).Nodup := by
  unfold turned
  split
  · rw [List.map_reverse]; exact List.pairwise_reverse.2 (List.Pairwise.imp (fun h => Ne.symm h) (rises_nodup m h))
  · exact rises_nodup m h
theorem turned_len (t : Bool) (m : List (BL × V)) : (turned t m).length = m.length := by
  unfold turned
  split
  · exact List.length_reverse
  · rfl
theorem names_len (m : List (BL × V)) (k : Nat) (h : ∀ x ∈ m, (nameT x).length ≤ k) : (namesT m).length ≤ m.length * (k + 2) := by
  have h1 : ∀ (m : List (BL × V)), (∀ x ∈ m, (nameT x).length ≤ k) → (restT m).length ≤ m.length * (k + 2) := by
    intro m
    induction m with
    | nil => intro _; exact Nat.zero_le _
    | cons x m ih =>
      intro h
      have h1 := ih (fun y hy => h y (List.mem_cons_of_mem _ hy))
      have h2 := h x (List.mem_cons_self ..)
      rw [restT]
      simp only [List.length_cons, List.length_append, List.length_nil, Nat.succ_mul]
      omega
  cases m with
  | nil => exact Nat.zero_le _
  | cons x m =>
    have h2 := h1 m (fun y hy => h y (List.mem_cons_of_mem _ hy))
    have h3 := h x (List.mem_cons_self ..)
    rw [namesT]
    simp only [List.length_cons, List.length_append, Nat.succ_mul]
    omega
theorem names_count (m : List (BL × V)) : m.length ≤ (namesT m).length := by
  have h1 : ∀ m : List (BL × V), m.length ≤ (restT m).length := by
    intro m
    induction m with
    | nil => exact Nat.le_refl _
    | cons x m ih => rw [restT]; simp only [List.length_cons, List.length_append, List.length_nil]; omega
  cases m with
  | nil => exact Nat.le_refl _
  | cons x m =>
    have := h1 m
    rw [namesT]
    unfold nameT
    simp only [List.length_cons, List.length_append]
    omega
/-- the document of bytes: its fields. -/
def docLJ (l : BL) : List (BL × V) := (fieldsN (madeL 2) (l.headD 0 % 16).toNat 4 ((l.drop 1).take 59)).1
structure DocFJ (m : List (BL × V)) : Prop where
  rises : risesL none m = true
  ok : ∀ x ∈ m, FOk (valP 15) x
  few : m.length ≤ 4
  size : ∀ x ∈ m, (nameT x).length ≤ 620
theorem doc_fJ (n : Nat) (b : BL) (ho : ∀ x ∈ (fieldsN (madeL 2) n 4 b).1, okV x.2) : DocFJ (fieldsN (madeL 2) n 4 b).1 := by
  have h1 := fields_names (madeL 2) n b 4
  have h2 := fields_all (rec := madeL 2) (P := fun x => validV x = true ∧ depthV x ≤ 3 ∧ (printV x).length ≤ 610) (fun b => ⟨made_valid 2 b, made_depth 2 b, by
    have := made_size small_none 2 b 0
    rw [printP_none] at this
    exact this⟩) n b 4
  refine ⟨fields_valid (made_valid 2) n b 4 (Nat.le_refl _), fun x hx => ?_, fieldsN_len _ _ _ 4, fun x hx => ?_⟩
  · obtain ⟨j, hj, e⟩ := h1 x hx
    have hq := quote_name j hj
    exact ⟨val_back 15 x.2 (ho x hx) (h2 x hx).1 (by have := (h2 x hx).2.1; omega), by rw [e]; exact name_valid j, by rw [e]; exact hq.1⟩
  · obtain ⟨j, hj, e⟩ := h1 x hx
    have hq := (quote_name j hj).2
    have := (h2 x hx).2.2
    unfold nameT
    rw [e]
    simp only [List.length_cons, List.length_append, List.length_nil]
    omega
theorem obj_body {s t : BL} (rec : BL → Res V) (h : s = 123 :: t) : bodyP rec s = objP rec t := by
  subst h
  unfold bodyP
  rw [isL_ne _ _ (by decide), isL_ne _ _ (by decide), isL_ne _ _ (by decide), isL_ne _ _ (by decide), isL_one 123]
theorem names_parse (t : Bool) {m : List (BL × V)} (h : DocFJ m) : parseP (123 :: (namesT (turned t m) ++ [125])) = .ok (.obj m) := by
  have h1 := names_len (turned t m) 620 (fun x hx => h.size x ((turned_mem t m x).1 hx))
  have h2 : (turned t m).length * (620 + 2) ≤ 4 * (620 + 2) := Nat.mul_le_mul_right _ (by rw [turned_len]; exact h.few)
  have h3 := names_count (turned t m)
  unfold parseP
  rw [if_neg (by simp only [List.length_cons, List.length_append, List.length_nil]; omega), blank_sign 123 _ rfl]
  show (match bodyP (valP 15) (123 :: (namesT (turned t m) ++ [125])) with
    | .error e => .error e
    | .ok p => if blankL p.2 = [] then .ok p.1 else .error 1 : Except Nat V) = _
  rw [obj_body (valP 15) rfl]
  unfold objP
  by_cases he : m = []
  · subst he
    have : turned t ([] : List (BL × V)) = [] := by cases t <;> rfl
    rw [this]
    rfl
  · have hne : turned t m ≠ [] := fun e => he (List.eq_nil_of_length_eq_zero (by rw [← turned_len t m, e]; rfl))
    have e0 : blankL (namesT (turned t m) ++ [125]) = namesT (turned t m) ++ [125] := by
      cases hm : turned t m with
      | nil => exact absurd hm hne
      | cons x l =>
        rw [namesT, List.append_assoc]
        obtain ⟨q, hq⟩ := nameT_head x (restT l ++ [125])
        rw [hq, blank_sign 34 _ rfl]
    have e1 : (namesT (turned t m) ++ [125]).length + 1 = (turned t m).length + (((namesT (turned t m)).length - (turned t m).length) + 1 + 1) := by
      simp only [List.length_append, List.length_cons, List.length_nil]; omega
    rw [e0, e1, fields_names_read [125] rfl rfl _ _ hne (fun x hx => h.ok x ((turned_mem t m x).1 hx)) (turned_nodup t h.rises), turned_set t h.rises, fieldsP, isL_one 125]
    rfl
theorem names_twice (t : Bool) {m : List (BL × V)} (h : DocFJ m) {x : BL × V} {l : List (BL × V)} (hm : m = x :: l) : parseP (123 :: (namesT (turned t m) ++ (44 :: 34 :: (x.1 ++ [34, 58, 48, 125])))) = .error 5 := by
  have h1 := names_len (turned t m) 620 (fun x hx => h.size x ((turned_mem t m x).1 hx))
  have h2 : (turned t m).length * (620 + 2) ≤ 4 * (620 + 2) := Nat.mul_le_mul_right _ (by rw [turned_len]; exact h.few)
  have h3 := names_count (turned t m)
  have hx : x ∈ m := by rw [hm]; exact List.mem_cons_self ..
  have hxo := h.ok x hx
  have h6 : x.1.length ≤ 620 := by
    have := h.size x hx
    unfold nameT at this
    simp only [List.length_cons, List.length_append] at this
    omega
  obtain ⟨r, hr⟩ : ∃ r, (44 :: 34 :: (x.1 ++ [34, 58, 48, 125]) : BL) = r := ⟨_, rfl⟩
  have hrl : r.length ≤ 630 := by rw [← hr]; simp only [List.length_cons, List.length_append, List.length_nil]; omega
  have hrr : r = 44 :: (quoteL x.1 ++ [58, 48, 125]) := by rw [← hr, hxo.quote]; simp
  rw [hr]
  unfold parseP
  rw [if_neg (by simp only [List.length_cons, List.length_append]; omega), blank_sign 123 _ rfl]
  show (match bodyP (valP 15) (123 :: (namesT (turned t m) ++ r)) with
    | .error e => .error e
    | .ok p => if blankL p.2 = [] then .ok p.1 else .error 1 : Except Nat V) = _
  rw [obj_body (valP 15) rfl]
  unfold objP
  have hne : turned t m ≠ [] := fun e => by
    have := turned_len t m
    rw [e, hm] at this; simp at this
  have e0 : blankL (namesT (turned t m) ++ r) = namesT (turned t m) ++ r := by
    cases hm : turned t m with
    | nil => exact absurd hm hne
    | cons x l =>
      rw [namesT, List.append_assoc]
      obtain ⟨q, hq⟩ := nameT_head x (restT l ++ r)
      rw [hq, blank_sign 34 _ rfl]
  have e1 : (namesT (turned t m) ++ r).length + 1 = (turned t m).length + (((namesT (turned t m)).length - (turned t m).length) + r.length + 1) := by
    simp only [List.length_append]; omega
  rw [e0, e1, fields_names_read r (by rw [hrr]; rfl) (by rw [hrr]; exact blank_sign 44 _ rfl) _ _ hne (fun x hx => h.ok x ((turned_mem t m x).1 hx)) (turned_nodup t h.rises), turned_set t h.rises, fieldsP]
  have e2 : isL [125] r = none := by rw [hrr]; exact isL_ne _ _ (by decide)
  have e3 : nextP m.isEmpty r = .ok (quoteL x.1 ++ [58, 48, 125]) := by
    rw [hm]
    unfold nextP
    rw [hrr, isL_one 44]
    simp only [List.isEmpty_cons, Bool.false_eq_true, if_false]
    rw [quote_head, List.cons_append, blank_sign 34 _ rfl]
  rw [e2]
  simp only [e3]
  unfold fieldP2
  rw [text_back _ _ hxo.valid]
  simp only []
  rw [(hasF_iff m x.1).2 ⟨x, hx, rfl⟩]
  rfl
end Go.Proofs.YtccnfnoonpfdfaaGreatDoor
