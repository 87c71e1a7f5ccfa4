/- The values of the law's bytes may be, and stand at most four deep: a key is read as the value that it is of. Plain: no program in sight. -/
import Derived.Test.YthlioinmeimhoaaDoorKaP
namespace Go.Proofs.YthlioinmeimhoaaDoor
open Go.Shelf Go.RowKit Go.Lib

theorem word_valid (k : Nat) : Lib.validD (wordL k) = true := by
  rcases (show k = 0 ∨ k = 1 ∨ k = 2 ∨ k = 3 ∨ k = 4 ∨ k = 5 ∨ k = 6 ∨ k = 7 ∨ 8 ≤ k by omega) with rfl | rfl | rfl | rfl | rfl | rfl | rfl | rfl | h
  iterate 8 (· decide)
  · unfold wordL
    rw [List.getD_eq_getElem?_getD, List.getElem?_eq_none (by simpa using h)]
    rfl
theorem name_valid (k : Nat) : Lib.validD (nameL k) = true := by
  rcases (show k = 0 ∨ k = 1 ∨ k = 2 ∨ k = 3 ∨ 4 ≤ k by omega) with rfl | rfl | rfl | rfl | h
  iterate 4 (· decide)
  · unfold nameL
    rw [List.getD_eq_getElem?_getD, List.getElem?_eq_none (by simpa using h)]
    rfl
theorem name_lt (j k : Nat) (h : j < k) (h4 : k < 4) : lcmp (nameL j) (nameL k) = .lt := by
  rcases (show (j = 0 ∧ k = 1) ∨ (j = 0 ∧ k = 2) ∨ (j = 0 ∧ k = 3) ∨ (j = 1 ∧ k = 2) ∨ (j = 1 ∧ k = 3) ∨ (j = 2 ∧ k = 3) by omega) with ⟨rfl, rfl⟩ | ⟨rfl, rfl⟩ | ⟨rfl, rfl⟩ | ⟨rfl, rfl⟩ | ⟨rfl, rfl⟩ | ⟨rfl, rfl⟩
  iterate 6 (· decide)
theorem leaf_valid (c : Nat) : validV (leafL c) = true := by
  unfold leafL
  split
  · rw [validV]
    rcases (show c / 6 % 2 = 0 ∨ c / 6 % 2 = 1 by omega) with h | h <;> rw [h] <;> rfl
  · split
    · rw [validV]
    · split
      · rw [validV]; exact word_valid _
      · rw [validV]
theorem validVs_app : ∀ (l : List V) (x : V), validVs l = true → validV x = true → validVs (l ++ [x]) = true
  | [], x, _, h => by rw [List.nil_append, validVs, h]; rfl
  | y :: l, x, hl, h => by
    rw [validVs, Bool.and_eq_true] at hl
    rw [List.cons_append, validVs, hl.1, validVs_app l x hl.2 h]; rfl
theorem rises_app : ∀ (l : List (BL × V)) (p : Option BL) (f : BL × V), risesL p l = true → validF f = true → (∀ q, p = some q → lcmp q f.1 = .lt) → (∀ g ∈ l, lcmp g.1 f.1 = .lt) → risesL p (l ++ [f]) = true
  | [], p, f, _, hf, hp, _ => by
    rw [List.nil_append, risesL_cons, hf]
    cases p with
    | none => simp [risesL]
    | some q => simp [risesL, hp q rfl]
  | g :: l, p, f, hl, hf, hp, hg => by
    rw [risesL_cons, Bool.and_eq_true] at hl
    rw [List.cons_append, risesL_cons, hl.1, rises_app l (some g.1) f hl.2 hf (fun q e => by cases e; exact hg g (List.mem_cons_self ..)) (fun h hh => hg h (List.mem_cons_of_mem _ hh))]
    rfl
theorem times_valid {rec : BL → V × BL} (hv : ∀ b, validV (rec b).1 = true) (b : BL) : ∀ k, validVs (timesL rec k b).1 = true
  | 0 => by rw [timesL, validVs]
  | k + 1 => by
    rw [timesL_succ]
    exact validVs_app _ _ (times_valid hv b k) (hv _)
theorem fields_names (rec : BL → V × BL) (n : Nat) (b : BL) : ∀ k, ∀ g ∈ (fieldsN rec n k b).1, ∃ j, j < k ∧ g.1 = nameL j
  | 0, g, h => by simp [fieldsN] at h
  | k + 1, g, h => by
    rw [fieldsN] at h
    split at h
    · rcases List.mem_append.mp h with h | h
      · obtain ⟨j, hj, e⟩ := fields_names rec n b k g h
        exact ⟨j, by omega, e⟩
      · rw [List.mem_singleton] at h
        exact ⟨k, by omega, by rw [h]⟩
    · obtain ⟨j, hj, e⟩ := fields_names rec n b k g h
      exact ⟨j, by omega, e⟩
theorem fields_valid {rec : BL → V × BL} (hv : ∀ b, validV (rec b).1 = true) (n : Nat) (b : BL) : ∀ k, k ≤ 4 → risesL none (fieldsN rec n k b).1 = true
  | 0, _ => by rw [fieldsN, risesL]
  | k + 1, h => by
    have ih := fields_valid hv n b k (by omega)
    rw [fieldsN]
    split
    · refine rises_app _ _ _ ih ?_ (fun q e => by cases e) ?_
      · rw [validF, name_valid, hv]; rfl
      · intro g hg
        obtain ⟨j, hj, e⟩ := fields_names rec n b k g hg
        rw [e]
        exact name_lt j k hj (by omega)
    · exact ih
theorem made_valid : ∀ (d : Nat) (b : BL), validV (madeL d b).1 = true
  | d, [] => by rw [madeL_nil, validV]
  | 0, c :: b => by
    have := leaf_valid c.toNat
    simpa [madeL] using this
  | d + 1, c :: b => by
    have ih : ∀ b, validV (madeL d b).1 = true := made_valid d
    unfold madeL
    split
    · rw [validV]; exact times_valid ih b _
    · split
      · rw [validV]; exact fields_valid ih _ b 4 (by omega)
      · exact leaf_valid _
theorem of_valid (l : BL) : validV (ofL l) = true := made_valid 3 _

theorem leaf_depth (c : Nat) : depthV (leafL c) = 1 := by
  unfold leafL
  split
  · simp [depthV]
  · split
    · simp [depthV]
    · split
      · simp [depthV]
      · simp [depthV]
theorem depthVs_of (d : Nat) : ∀ (l : List V), (∀ x ∈ l, depthV x ≤ d) → depthVs l ≤ d
  | [], _ => by rw [depthVs]; omega
  | x :: l, h => by
    have h1 := h x (List.mem_cons_self ..)
    have h2 := depthVs_of d l (fun y hy => h y (List.mem_cons_of_mem _ hy))
    rw [depthVs]; omega
theorem depthFs_of (d : Nat) : ∀ (l : List (BL × V)), (∀ x ∈ l, depthV x.2 ≤ d) → depthFs l ≤ d
  | [], _ => by rw [depthFs]; omega
  | (n, x) :: l, h => by
    have h1 := h (n, x) (List.mem_cons_self ..)
    have h2 := depthFs_of d l (fun y hy => h y (List.mem_cons_of_mem _ hy))
    rw [depthFs, depthF]
    simp only [] at h1
    omega
theorem times_all {rec : BL → V × BL} {P : V → Prop} (hv : ∀ b, P (rec b).1) (b : BL) : ∀ k, ∀ x ∈ (timesL rec k b).1, P x
  | 0, x, h => by simp [timesL] at h
  | k + 1, x, h => by
    rw [timesL_succ] at h
    rcases List.mem_append.mp h with h | h
    · exact times_all hv b k x h
    · rw [List.mem_singleton] at h
      rw [h]; exact hv _
theorem fields_all {rec : BL → V × BL} {P : V → Prop} (hv : ∀ b, P (rec b).1) (n : Nat) (b : BL) : ∀ k, ∀ x ∈ (fieldsN rec n k b).1, P x.2
  | 0, x, h => by simp [fieldsN] at h
  | k + 1, x, h => by
    rw [fieldsN] at h
    split at h
    · rcases List.mem_append.mp h with h | h
      · exact fields_all hv n b k x h
      · rw [List.mem_singleton] at h
        rw [h]; exact hv _
    · exact fields_all hv n b k x h
theorem made_depth : ∀ (d : Nat) (b : BL), depthV (madeL d b).1 ≤ d + 1
  | d, [] => by
    rw [madeL_nil]
    show depthV .null ≤ _
    simp [depthV]
  | 0, c :: b => by
    have := leaf_depth c.toNat
    simp [madeL, this]
  | d + 1, c :: b => by
    have ih : ∀ b, depthV (madeL d b).1 ≤ d + 1 := made_depth d
    unfold madeL
    split
    · have := depthVs_of (d + 1) _ (times_all (P := fun x => depthV x ≤ d + 1) ih b (c.toNat / 6 % 4))
      rw [depthV]; omega
    · split
      · have := depthFs_of (d + 1) _ (fields_all (P := fun x => depthV x ≤ d + 1) ih (c.toNat / 6) b 4)
        rw [depthV]; omega
      · have := leaf_depth c.toNat
        simp only []
        omega
theorem of_depth (l : BL) : depthV (ofL l) ≤ 4 := made_depth 3 _

/-- a value's key is read as that value. -/
theorem getL_of (l : BL) (ho : okV (ofL l)) : getL (keyL (ofL l)) = some (ofL l) := by
  have h := rvalueL_of 15 (ofL l) ho (by have := of_depth l; omega) []
  rw [List.append_nil] at h
  unfold getL
  rw [h]
  simp [of_valid]
theorem icmp_eq {a b : Int} (h : icmp a b = .eq) : a = b := by
  unfold icmp at h
  split at h
  · cases h
  · split at h
    · cases h
    · omega
/-- two values that do not differ are one. -/
theorem cmpO_same (x y : V) (hx : okV x) (hy : okV y) (h : cmpO x y = .eq) : keyL x = keyL y := lcmp_eq (by rw [keyL_order x y hx hy, h])
theorem cmpO_key (x y : V) (hx : okV x) (hy : okV y) (h : keyL x = keyL y) : cmpO x y = .eq := by rw [← keyL_order x y hx hy, h, lcmp_refl]
theorem sgn_eq0 (o : Ordering) : (sgnO o == 0) = (o == .eq) := by cases o <;> rfl
end Go.Proofs.YthlioinmeimhoaaDoor
