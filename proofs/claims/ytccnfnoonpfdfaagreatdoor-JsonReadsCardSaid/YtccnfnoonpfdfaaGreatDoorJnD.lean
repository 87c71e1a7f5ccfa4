/- JSON: how long a made value's text is; the scan of a text for its signs. Plain. -/
import Derived.Test.YtccnfnoonpfdfaaGreatDoorJnC
namespace Go.Proofs.YtccnfnoonpfdfaaGreatDoor
open Go.Lib

/-! ### sizes -/
def sizeB : Nat → Nat
  | 0 => 20
  | d + 1 => 6 + 4 * (sizeB d + 13)
theorem sizeB_20 : ∀ d, 20 ≤ sizeB d
  | 0 => Nat.le_refl _
  | d + 1 => by have := sizeB_20 d; rw [sizeB]; omega
def Small (pd : Nat → BL) : Prop := ∀ i, (pd i).length ≤ 4
theorem quote_word (k : Nat) : (quoteL (wordL k)).length ≤ 18 := by
  rcases (show k = 0 ∨ k = 1 ∨ k = 2 ∨ k = 3 ∨ k = 4 ∨ k = 5 ∨ k = 6 ∨ k = 7 ∨ 8 ≤ k by omega) with rfl | rfl | rfl | rfl | rfl | rfl | rfl | rfl | h
  iterate 8 (· decide)
  · unfold wordL
    rw [List.getD_eq_getElem?_getD, List.getElem?_eq_none (by simpa using h)]
    decide
theorem quote_name (k : Nat) (hk : k < 4) : quoteL (nameL k) = 34 :: (nameL k ++ [34]) ∧ (nameL k).length = 1 := by
  rcases (show k = 0 ∨ k = 1 ∨ k = 2 ∨ k = 3 by omega) with rfl | rfl | rfl | rfl
  iterate 4 (· decide)
theorem one_rangeJ (c : Nat) (hc : c < 256) : -9223372036854775808 ≤ oneL c ∧ oneL c ≤ 9223372036854775807 := by
  unfold oneL
  split
  · omega
  · split
    · omega
    · split <;> omega
theorem leaf_size (pd : Nat → BL) (i : Nat) (c : UInt8) : (printP pd i (leafL c.toNat)).length ≤ 20 := by
  have hc := c.toNat_lt
  unfold leafL
  split
  · rw [printP]; split <;> decide
  · split
    · rw [printP]; exact intL_len _ (one_rangeJ _ (by omega))
    · split
      · rw [printP]; have := quote_word (c.toNat / 6 % 8); omega
      · rw [printP]; decide
theorem join_size {pd : Nat → BL} (hp : Small pd) {l : List V} {m : Nat} (h : ∀ x ∈ l, ∀ i, (printP pd i x).length ≤ m) : (∀ i, (tailP pd i l).length ≤ l.length * (m + 5)) ∧ ∀ i, (joinP pd i l).length ≤ l.length * (m + 5) := by
  have h1 : ∀ i, (tailP pd i l).length ≤ l.length * (m + 5) := by
    induction l with
    | nil => intro i; rw [tailP]; simp
    | cons v l ih =>
      intro i
      have h2 := ih (fun x hx => h x (List.mem_cons_of_mem _ hx)) (i + 1 + (printV v).length)
      have h3 := h v (List.mem_cons_self ..) (i + 1)
      have h4 := hp i
      rw [tailP]
      simp only [List.length_cons, List.length_append, Nat.succ_mul]
      omega
  refine ⟨h1, fun i => ?_⟩
  cases l with
  | nil => rw [joinP]; simp
  | cons v l =>
    have h2 := h1 (i - 1)
    have h3 := h v (List.mem_cons_self ..) i
    have h5 : (tailP pd (i + (printV v).length) l).length ≤ l.length * (m + 5) := by
      have key : ∀ (l : List V), (∀ x ∈ l, ∀ i, (printP pd i x).length ≤ m) → ∀ i, (tailP pd i l).length ≤ l.length * (m + 5) := by
        intro l
        induction l with
        | nil => intro _ i; rw [tailP]; simp
        | cons v l ih =>
          intro h i
          have h2 := ih (fun x hx => h x (List.mem_cons_of_mem _ hx)) (i + 1 + (printV v).length)
          have h3 := h v (List.mem_cons_self ..) (i + 1)
          have h4 := hp i
          rw [tailP]
          simp only [List.length_cons, List.length_append, Nat.succ_mul]
          omega
      exact key l (fun x hx => h x (List.mem_cons_of_mem _ hx)) _
    rw [joinP]
    simp only [List.length_cons, List.length_append, Nat.succ_mul]
    omega
theorem tailG_size {pd : Nat → BL} (hp : Small pd) {m : Nat} : ∀ (l : List (BL × V)), (∀ x ∈ l, (∀ i, (printP pd i x.2).length ≤ m) ∧ (quoteL x.1).length ≤ 3) → ∀ i, (tailG pd i l).length ≤ l.length * (m + 13)
  | [], _, i => by rw [tailG]; simp
  | (n, v) :: l, h, i => by
    have h2 := tailG_size hp l (fun x hx => h x (List.mem_cons_of_mem _ hx)) (i + 1 + (printF (n, v)).length)
    have h3 := (h (n, v) (List.mem_cons_self ..)).1 (i + 1 + (quoteL n).length + 1)
    have h4 : (quoteL n).length ≤ 3 := (h (n, v) (List.mem_cons_self ..)).2
    have h5 := hp i
    have h6 := hp (i + 1 + (quoteL n).length)
    rw [tailG, printG]
    simp only [List.length_cons, List.length_append, Nat.succ_mul] at h3 ⊢
    omega
theorem joinG_size {pd : Nat → BL} (hp : Small pd) {m : Nat} : ∀ (l : List (BL × V)), (∀ x ∈ l, (∀ i, (printP pd i x.2).length ≤ m) ∧ (quoteL x.1).length ≤ 3) → ∀ i, (joinG pd i l).length ≤ l.length * (m + 13)
  | [], _, i => by rw [joinG]; simp
  | (n, v) :: l, h, i => by
    have h2 := tailG_size hp l (fun x hx => h x (List.mem_cons_of_mem _ hx)) (i + (printF (n, v)).length)
    have h3 := (h (n, v) (List.mem_cons_self ..)).1 (i + (quoteL n).length + 1)
    have h4 : (quoteL n).length ≤ 3 := (h (n, v) (List.mem_cons_self ..)).2
    have h6 := hp (i + (quoteL n).length)
    rw [joinG, printG]
    simp only [List.length_cons, List.length_append, Nat.succ_mul] at h3 ⊢
    omega
theorem times_len (rec : BL → V × BL) (b : BL) : ∀ k, (timesL rec k b).1.length = k
  | 0 => rfl
  | k + 1 => by rw [timesL, List.length_append, times_len rec b k]; rfl
theorem fieldsN_len (rec : BL → V × BL) (n : Nat) (b : BL) : ∀ k, (fieldsN rec n k b).1.length ≤ k
  | 0 => Nat.le_refl _
  | k + 1 => by
    have := fieldsN_len rec n b k
    rw [fieldsN]
    split
    · rw [List.length_append]; simp; omega
    · omega
theorem made_size {pd : Nat → BL} (hp : Small pd) : ∀ (d : Nat) (b : BL) (i : Nat), (printP pd i (madeL d b).1).length ≤ sizeB d
  | d, [], i => by
    have := sizeB_20 d
    rw [madeL_nil, printP]
    simp; omega
  | 0, c :: b, i => by
    have := leaf_size pd i c
    rw [show sizeB 0 = 20 from rfl]
    simpa [madeL] using this
  | d + 1, c :: b, i => by
    have ih := made_size hp d
    have hp0 := hp i
    have h20 := sizeB_20 d
    rw [madeL, sizeB]
    split
    · obtain ⟨l, hl⟩ : ∃ l, (timesL (madeL d) (c.toNat / 6 % 4) b).1 = l := ⟨_, rfl⟩
      have h1 := times_len (madeL d) b (c.toNat / 6 % 4)
      have h2 : ∀ x ∈ (timesL (madeL d) (c.toNat / 6 % 4) b).1, ∀ i, (printP pd i x).length ≤ sizeB d := times_all (P := fun x => ∀ i, (printP pd i x).length ≤ sizeB d) (fun b i => ih b i) b _
      show (printP pd i (.list _)).length ≤ _
      rw [hl] at h1 h2 ⊢
      have h3 := (join_size hp h2).2 (i + 1)
      have h4 : l.length * (sizeB d + 5) ≤ 3 * (sizeB d + 5) := Nat.mul_le_mul_right _ (by omega)
      rw [printP]
      simp only [List.length_cons, List.length_append, List.length_nil]
      omega
    · split
      · obtain ⟨l, hl⟩ : ∃ l, (fieldsN (madeL d) (c.toNat / 6) 4 b).1 = l := ⟨_, rfl⟩
        have h1 := fieldsN_len (madeL d) (c.toNat / 6) b 4
        have h2 : ∀ x ∈ (fieldsN (madeL d) (c.toNat / 6) 4 b).1, ∀ i, (printP pd i x.2).length ≤ sizeB d := fields_all (P := fun x => ∀ i, (printP pd i x).length ≤ sizeB d) (fun b i => ih b i) _ b 4
        have h3 := fields_names (madeL d) (c.toNat / 6) b 4
        show (printP pd i (.obj _)).length ≤ _
        rw [hl] at h1 h2 h3 ⊢
        have h4 := joinG_size hp (m := sizeB d) l (fun x hx => ⟨h2 x hx, by
          obtain ⟨j, hj, e⟩ := h3 x hx
          have := quote_name j hj
          rw [e, this.1]; simp only [List.length_cons, List.length_append, List.length_nil]; omega⟩) (i + 1)
        have h5 : l.length * (sizeB d + 13) ≤ 4 * (sizeB d + 13) := Nat.mul_le_mul_right _ h1
        rw [printP]
        simp only [List.length_cons, List.length_append, List.length_nil]
        omega
      · have := leaf_size pd i c
        show (printP pd i (leafL c.toNat)).length ≤ _
        omega
theorem size3 : sizeB 3 = 2498 := by rfl

/-! ### the scan -/
def sepB (c : UInt8) : Bool := c == 44 || c == 58 || c == 91 || c == 123
/-- is the next character one that does not end the text? p1 and p2: those ahead of it. -/
def escB (p2 p1 : UInt8) (b : Bool) : Bool := b && p1 == 92 && p2 != 92
def inB (p2 p1 : UInt8) (b : Bool) (c : UInt8) : Bool := if c == 34 && !escB p2 p1 b then !b else b
def scanF (pd : Nat → BL) : Nat → UInt8 → UInt8 → Bool → BL → BL
  | _, _, _, _, [] => []
  | i, p2, p1, b, c :: t => c :: ((if !inB p2 p1 b c && sepB c then pd i else []) ++ scanF pd (i + 1) p1 c (inB p2 p1 b c) t)
theorem inB_out (p2 p1 c : UInt8) : inB p2 p1 false c = (c == 34) := by
  unfold inB escB
  cases h : c == 34 <;> simp
theorem scan_q (pd : Nat → BL) (p2 q2 p1 : UInt8) (b : Bool) (hp : p1 ≠ 92) (i : Nat) (s : BL) : scanF pd i p2 p1 b s = scanF pd i q2 p1 b s := by
  cases s with
  | nil => rfl
  | cons c t =>
    have h : ∀ p2, inB p2 p1 b c = inB 0 p1 b c := fun p2 => by
      unfold inB escB
      rw [beq_eq_false_iff_ne.2 hp]; simp
    rw [scanF, scanF, h p2, h q2]
theorem scan_out (pd : Nat → BL) (p2 p1 q2 q1 : UInt8) (i : Nat) : ∀ s : BL, scanF pd i p2 p1 false s = scanF pd i q2 q1 false s
  | [] => rfl
  | c :: t => by
    rw [scanF, scanF, inB_out, inB_out]
    by_cases hc : c = 34
    · rw [scan_q pd p1 q1 c _ (by rw [hc]; decide)]
    · rw [beq_eq_false_iff_ne.2 hc, scan_out pd p1 c q1 c (i + 1) t]
/-- a text's signs, outside quotes. -/
def scanO (pd : Nat → BL) (i : Nat) (s : BL) : BL := scanF pd i 0 0 false s
theorem scanO_cons (pd : Nat → BL) (i : Nat) (c : UInt8) (t : BL) (hc : c ≠ 34) : scanO pd i (c :: t) = c :: ((if sepB c then pd i else []) ++ scanO pd (i + 1) t) := by
  unfold scanO
  rw [scanF, inB_out, beq_eq_false_iff_ne.2 hc, scan_out pd 0 c 0 0 (i + 1) t]
  rfl
theorem scanO_plain (pd : Nat → BL) : ∀ (l : BL) (i : Nat) (r : BL), (∀ c ∈ l, c ≠ 34 ∧ sepB c = false) → scanO pd i (l ++ r) = l ++ scanO pd (i + l.length) r
  | [], i, r, _ => rfl
  | c :: l, i, r, h => by
    obtain ⟨h1, h2⟩ := h c (List.mem_cons_self ..)
    rw [List.cons_append, scanO_cons pd i c _ h1, h2, scanO_plain pd l (i + 1) r (fun c hc => h c (List.mem_cons_of_mem _ hc)), List.length_cons, show i + (l.length + 1) = i + 1 + l.length by omega]
    rfl
/-- a text whose quotes have neither a quote nor a backslash at their end within. -/
def Good (s : BL) : Prop := ∃ b, quoteL s = 34 :: (b ++ [34]) ∧ (∀ c ∈ b, c ≠ 34) ∧ b.getLast? ≠ some 92
theorem scan_body (pd : Nat → BL) : ∀ (b : BL) (i : Nat) (p2 p1 : UInt8) (r : BL), (∀ c ∈ b, c ≠ 34) → (b = [] → p1 ≠ 92) → b.getLast? ≠ some 92 → scanF pd i p2 p1 true (b ++ 34 :: r) = b ++ 34 :: scanO pd (i + b.length + 1) r
  | [], i, p2, p1, r, _, hp, _ => by
    have hi : inB p2 p1 true 34 = false := by
      unfold inB escB
      rw [beq_eq_false_iff_ne.2 (hp rfl)]; rfl
    rw [List.nil_append, scanF, hi]
    show 34 :: ([] ++ _) = _
    rw [List.nil_append]
    unfold scanO
    rw [scan_out pd p1 34 0 0]
    rfl
  | c :: b, i, p2, p1, r, hb, hp, hl => by
    have hc := hb c (List.mem_cons_self ..)
    have hi : inB p2 p1 true c = true := by
      unfold inB
      rw [beq_eq_false_iff_ne.2 hc]; rfl
    rw [List.cons_append, scanF, hi, scan_body pd b (i + 1) p1 c r (fun x hx => hb x (List.mem_cons_of_mem _ hx)) (fun e => by subst e; intro e; exact hl (by rw [e]; rfl)) (fun e => by
      cases b with
      | nil => cases e
      | cons d b => exact hl (by rw [List.getLast?_cons_cons]; exact e)), List.length_cons, show i + (b.length + 1) + 1 = i + 1 + b.length + 1 by omega]
    rfl
theorem scan_quote (pd : Nat → BL) (i : Nat) (s r : BL) (h : Good s) : scanO pd i (quoteL s ++ r) = quoteL s ++ scanO pd (i + (quoteL s).length) r := by
  obtain ⟨b, e, h1, h2⟩ := h
  rw [e]
  unfold scanO
  rw [List.cons_append, scanF, inB_out, List.append_assoc]
  have h3 := scan_body pd b (i + 1) 0 34 r h1 (fun _ => by decide) h2
  rw [show (34 : UInt8) == 34 from rfl]
  simp only [Bool.not_true, Bool.false_and, Bool.false_eq_true, if_false, List.nil_append, List.singleton_append]
  simp only [List.length_cons, List.length_append, List.length_nil]
  rw [h3, show i + (b.length + (0 + 1) + 1) = i + 1 + b.length + 1 by omega]
  unfold scanO
  simp
mutual
def GoodV : V → Prop
  | .text s => Good s
  | .list l => GoodVs l
  | .obj l => GoodFs l
  | .null => True
  | .bool _ => True
  | .int _ => True
def GoodVs : List V → Prop
  | [] => True
  | v :: l => GoodV v ∧ GoodVs l
def GoodFs : List (BL × V) → Prop
  | [] => True
  | f :: l => GoodF f ∧ GoodFs l
def GoodF : BL × V → Prop
  | (n, v) => Good n ∧ GoodV v
end
theorem goodVs_all : ∀ {l : List V}, (∀ x ∈ l, GoodV x) → GoodVs l
  | [], _ => by rw [GoodVs]; trivial
  | v :: l, h => by rw [GoodVs]; exact ⟨h v (List.mem_cons_self ..), goodVs_all (fun x hx => h x (List.mem_cons_of_mem _ hx))⟩
theorem goodFs_all : ∀ {l : List (BL × V)}, (∀ x ∈ l, Good x.1 ∧ GoodV x.2) → GoodFs l
  | [], _ => by rw [GoodFs]; trivial
  | (n, v) :: l, h => by rw [GoodFs, GoodF]; exact ⟨h (n, v) (List.mem_cons_self ..), goodFs_all (fun x hx => h x (List.mem_cons_of_mem _ hx))⟩
theorem good_word (k : Nat) : Good (wordL k) := by
  have key : ∀ w b : BL, quoteL w = 34 :: (b ++ [34]) → (b.all fun c => c != 34) = true → b.getLast? ≠ some 92 → Good w := fun w b h1 h2 h3 => ⟨b, h1, (fun c hc e => by
    have := List.all_eq_true.1 h2 c hc
    rw [e] at this
    exact absurd this (by decide)), h3⟩
  rcases (show k = 0 ∨ k = 1 ∨ k = 2 ∨ k = 3 ∨ k = 4 ∨ k = 5 ∨ k = 6 ∨ k = 7 ∨ 8 ≤ k by omega) with rfl | rfl | rfl | rfl | rfl | rfl | rfl | rfl | h
  iterate 8 (· exact key _ (chunks _) rfl (by decide) (by decide))
  · unfold wordL
    rw [List.getD_eq_getElem?_getD, List.getElem?_eq_none (by simpa using h)]
    exact key _ (chunks _) rfl (by decide) (by decide)
theorem good_name (k : Nat) (hk : k < 4) : Good (nameL k) := by
  rcases (show k = 0 ∨ k = 1 ∨ k = 2 ∨ k = 3 by omega) with rfl | rfl | rfl | rfl
  · exact good_word 1
  · exact good_word 2
  · exact ⟨[99], by rfl, by decide, by decide⟩
  · exact ⟨[110], by rfl, by decide, by decide⟩
theorem good_leaf (c : Nat) : GoodV (leafL c) := by
  unfold leafL
  by_cases h1 : c % 6 = 1
  · rw [if_pos h1, GoodV]; trivial
  rw [if_neg h1]
  by_cases h2 : c % 6 = 2
  · rw [if_pos h2, GoodV]; trivial
  rw [if_neg h2]
  by_cases h3 : c % 6 = 3
  · rw [if_pos h3, GoodV]; exact good_word _
  · rw [if_neg h3, GoodV]; trivial
theorem made_good : ∀ (d : Nat) (b : BL), GoodV (madeL d b).1
  | d, [] => by
    rw [madeL_nil]
    exact good_leaf 0
  | 0, c :: b => by
    have := good_leaf c.toNat
    simpa [madeL] using this
  | d + 1, c :: b => by
    have ih := made_good d
    rw [madeL]
    split
    · show GoodV (.list _)
      rw [GoodV]
      exact goodVs_all (times_all (P := GoodV) (fun b => ih b) b _)
    · split
      · show GoodV (.obj _)
        rw [GoodV]
        refine goodFs_all fun x hx => ⟨?_, fields_all (P := GoodV) (fun b => ih b) _ b 4 x hx⟩
        obtain ⟨j, hj, e⟩ := fields_names (madeL d) (c.toNat / 6) b 4 x hx
        rw [e]; exact good_name j hj
      · exact good_leaf c.toNat
theorem int_sep (n : Int) : ∀ c ∈ intL n, c ≠ 34 ∧ sepB c = false := by
  have key : ∀ c : UInt8, isDig c = true → c ≠ 34 ∧ sepB c = false := fun c h => by
    unfold isDig at h
    have h1 : 48 ≤ c.toNat ∧ c.toNat ≤ 57 := by simpa using h
    have ne : ∀ k : UInt8, (k.toNat < 48 ∨ 57 < k.toNat) → (c == k) = false := fun k hk => by
      rw [beq_eq_false_iff_ne]; rintro rfl; omega
    refine ⟨fun e => ?_, ?_⟩
    · have := ne 34 (by decide)
      rw [e] at this; cases this
    · unfold sepB
      rw [ne 44 (by decide), ne 58 (by decide), ne 91 (by decide), ne 123 (by decide)]; rfl
  intro c hc
  unfold intL at hc
  split at hc
  · rcases List.mem_cons.1 hc with rfl | hc
    · exact ⟨by decide, by decide⟩
    · exact key c (digN_dig _ c hc)
  · exact key c (digN_dig _ c hc)
mutual
theorem scan_V (pd : Nat → BL) : ∀ (v : V) (i : Nat) (r : BL), GoodV v → scanO pd i (printV v ++ r) = printP pd i v ++ scanO pd (i + (printV v).length) r
  | .null, i, r, _ => by rw [printV, printP]; exact scanO_plain pd _ i r (by decide)
  | .bool n, i, r, _ => by
    rw [printV, printP]
    split
    · exact scanO_plain pd _ i r (by decide)
    · exact scanO_plain pd _ i r (by decide)
  | .int n, i, r, _ => by rw [printV, printP]; exact scanO_plain pd _ i r (int_sep n)
  | .text s, i, r, h => by
    rw [GoodV] at h
    rw [printV, printP]
    exact scan_quote pd i s r h
  | .list l, i, r, h => by
    rw [GoodV] at h
    have h1 := scan_J pd l (i + 1) ([93] ++ r) h
    have h2 := scanO_cons pd (i + 1 + (joinV l).length) 93 r (by decide)
    rw [printV, printP, List.cons_append, scanO_cons pd i 91 _ (by decide), List.append_assoc, h1, List.singleton_append, h2, show sepB 91 = true from rfl, show sepB 93 = false from rfl]
    simp only [List.length_cons, List.length_append, List.length_nil, if_true, Bool.false_eq_true, if_false, List.nil_append, List.cons_append, List.append_assoc]
    rw [show i + ((joinV l).length + (0 + 1) + 1) = i + 1 + (joinV l).length + 1 by omega]
  | .obj l, i, r, h => by
    rw [GoodV] at h
    have h1 := scan_K pd l (i + 1) ([125] ++ r) h
    have h2 := scanO_cons pd (i + 1 + (joinF l).length) 125 r (by decide)
    rw [printV, printP, List.cons_append, scanO_cons pd i 123 _ (by decide), List.append_assoc, h1, List.singleton_append, h2, show sepB 123 = true from rfl, show sepB 125 = false from rfl]
    simp only [List.length_cons, List.length_append, List.length_nil, if_true, Bool.false_eq_true, if_false, List.nil_append, List.cons_append, List.append_assoc]
    rw [show i + ((joinF l).length + (0 + 1) + 1) = i + 1 + (joinF l).length + 1 by omega]
theorem scan_J (pd : Nat → BL) : ∀ (l : List V) (i : Nat) (r : BL), GoodVs l → scanO pd i (joinV l ++ r) = joinP pd i l ++ scanO pd (i + (joinV l).length) r
  | [], i, r, _ => by rw [joinV, joinP]; rfl
  | v :: l, i, r, h => by
    rw [GoodVs] at h
    rw [joinV, joinP, List.append_assoc, scan_V pd v i _ h.1, scan_T pd l _ r h.2, List.length_append, List.append_assoc, Nat.add_assoc]
theorem scan_T (pd : Nat → BL) : ∀ (l : List V) (i : Nat) (r : BL), GoodVs l → scanO pd i (tailV l ++ r) = tailP pd i l ++ scanO pd (i + (tailV l).length) r
  | [], i, r, _ => by rw [tailV, tailP]; rfl
  | v :: l, i, r, h => by
    rw [GoodVs] at h
    rw [tailV, tailP, List.cons_append, scanO_cons pd i 44 _ (by decide), List.append_assoc, scan_V pd v (i + 1) _ h.1, scan_T pd l _ r h.2, show sepB 44 = true from rfl]
    simp only [List.length_cons, List.length_append, if_true, List.cons_append, List.append_assoc]
    rw [show i + ((printV v).length + (tailV l).length + 1) = i + 1 + (printV v).length + (tailV l).length by omega]
theorem scan_K (pd : Nat → BL) : ∀ (l : List (BL × V)) (i : Nat) (r : BL), GoodFs l → scanO pd i (joinF l ++ r) = joinG pd i l ++ scanO pd (i + (joinF l).length) r
  | [], i, r, _ => by rw [joinF, joinG]; rfl
  | v :: l, i, r, h => by
    rw [GoodFs] at h
    rw [joinF, joinG, List.append_assoc, scan_F pd v i _ h.1, scan_U pd l _ r h.2, List.length_append, List.append_assoc, Nat.add_assoc]
theorem scan_U (pd : Nat → BL) : ∀ (l : List (BL × V)) (i : Nat) (r : BL), GoodFs l → scanO pd i (tailF l ++ r) = tailG pd i l ++ scanO pd (i + (tailF l).length) r
  | [], i, r, _ => by rw [tailF, tailG]; rfl
  | v :: l, i, r, h => by
    rw [GoodFs] at h
    rw [tailF, tailG, List.cons_append, scanO_cons pd i 44 _ (by decide), List.append_assoc, scan_F pd v (i + 1) _ h.1, scan_U pd l _ r h.2, show sepB 44 = true from rfl]
    simp only [List.length_cons, List.length_append, if_true, List.cons_append, List.append_assoc]
    rw [show i + ((printF v).length + (tailF l).length + 1) = i + 1 + (printF v).length + (tailF l).length by omega]
theorem scan_F (pd : Nat → BL) : ∀ (f : BL × V) (i : Nat) (r : BL), GoodF f → scanO pd i (printF f ++ r) = printG pd i f ++ scanO pd (i + (printF f).length) r
  | (n, v), i, r, h => by
    rw [GoodF] at h
    rw [printF, printG, List.append_assoc, scan_quote pd i n _ h.1, List.cons_append, scanO_cons pd _ 58 _ (by decide), scan_V pd v _ _ h.2, show sepB 58 = true from rfl]
    simp only [List.length_cons, List.length_append, if_true, List.cons_append, List.append_assoc]
    rw [show i + ((quoteL n).length + ((printV v).length + 1)) = i + (quoteL n).length + 1 + (printV v).length by omega]
end
/-- the scan of what is printed puts the pads where printP has them. -/
theorem scan_print (pd : Nat → BL) (v : V) (h : GoodV v) : scanO pd 0 (printV v) = printP pd 0 v := by
  have := scan_V pd v 0 [] h
  rw [List.append_nil] at this
  rw [this]
  show _ ++ scanF pd _ 0 0 false [] = _
  rw [scanF, List.append_nil]
/-- blanks between the parts make no difference. -/
theorem blanks_back (l : BL) (ho : okV (ofL l)) (pd : Nat → BL) (hp : Pads pd) (hs : Small pd) : parseP ([10, 32] ++ (scanO pd 0 (printV (ofL l)) ++ [9])) = .ok (ofL l) := by
  rw [scan_print pd (ofL l) (made_good 3 _)]
  have h1 := made_size hs 3 (l.take 60) 0
  rw [size3] at h1
  refine parse_back (ofL l) ho (of_valid l) (by have := of_depth l; omega) pd hp [10, 32] [9] (by decide) (by decide) ?_
  simp only [List.length_append, List.length_cons, List.length_nil]
  unfold ofL
  omega
theorem small_none : Small (fun _ => []) := fun _ => Nat.zero_le _
theorem print_size (l : BL) : (printV (ofL l)).length ≤ 2498 := by
  have h1 := made_size small_none 3 (l.take 60) 0
  rw [printP_none, size3] at h1
  exact h1
theorem print_back (l : BL) (ho : okV (ofL l)) : parseP (printV (ofL l)) = .ok (ofL l) := by
  have h := parse_back (ofL l) ho (of_valid l) (by have := of_depth l; omega) (fun _ => []) (fun _ _ h => by simp at h) [] [] (fun _ h => by simp at h) (fun _ h => by simp at h)
  rw [printP_none, List.append_nil, List.nil_append] at h
  exact h (by have := print_size l; omega)
end Go.Proofs.YtccnfnoonpfdfaaGreatDoor
