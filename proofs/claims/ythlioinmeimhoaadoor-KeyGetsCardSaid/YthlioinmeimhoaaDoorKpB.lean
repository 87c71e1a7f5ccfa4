/- A key read: what the reader makes of bytes; that is the value whose key they are. Plain: no program in sight. -/
import Derived.Test.YthlioinmeimhoaaDoorKpA
namespace Go.Proofs.YthlioinmeimhoaaDoor
open Go.Shelf Go.RowKit Go.Lib

/-- what was written, read: the text, and what is left. -/
def rtextL : BL → Option (BL × BL)
  | [] => none
  | [_] => none
  | c :: d :: s =>
    if c = 0 then
      if d = 1 then some ([], s)
      else if d = 255 then (rtextL s).map fun p => (0 :: p.1, p.2)
      else none
    else (rtextL (d :: s)).map fun p => (c :: p.1, p.2)
/-- a number's eight bytes, read. -/
def beN (l : BL) : Nat := l.foldl (fun n c => n * 256 + c.toNat) 0
def rnumL (s : BL) : Option (Int × BL) := if s.length < 8 then none else some ((beN (s.take 8) : Int) - 9223372036854775808, s.drop 8)
def rlistL (rec : BL → Option (V × BL)) : Nat → BL → Option (List V × BL)
  | 0, _ => none
  | _ + 1, [] => none
  | f + 1, c :: s =>
    if c = 0 then some ([], s)
    else match rec (c :: s) with
      | none => none
      | some (v, r) => (rlistL rec f r).map fun p => (v :: p.1, p.2)
def rfieldL (rec : BL → Option (V × BL)) : BL → Option ((BL × V) × BL)
  | [] => none
  | c :: s =>
    if c = 1 then match rtextL s with
      | none => none
      | some (n, r) => (rec r).map fun p => ((n, p.1), p.2)
    else none
def rfieldsL (rec : BL → Option (V × BL)) : Nat → BL → Option (List (BL × V) × BL)
  | 0, _ => none
  | _ + 1, [] => none
  | f + 1, c :: s =>
    if c = 0 then some ([], s)
    else match rfieldL rec (c :: s) with
      | none => none
      | some (v, r) => (rfieldsL rec f r).map fun p => (v :: p.1, p.2)
def rboolL : BL → Option (V × BL)
  | [] => none
  | c :: r => some (.bool c.toNat, r)
def rbodyL (rec : BL → Option (V × BL)) : BL → Option (V × BL)
  | [] => none
  | k :: s =>
    if k = 1 then some (.null, s)
    else if k = 2 then rboolL s
    else if k = 3 then (rnumL s).map fun p => (.int p.1, p.2)
    else if k = 4 then (rtextL s).map fun p => (.text p.1, p.2)
    else if k = 5 then (rlistL rec (s.length + 1) s).map fun p => (.list p.1, p.2)
    else if k = 6 then (rfieldsL rec (s.length + 1) s).map fun p => (.obj p.1, p.2)
    else none
theorem rbodyL_cons (rec : BL → Option (V × BL)) (k : UInt8) (s : BL) : rbodyL rec (k :: s) =
    if k = 1 then some (.null, s)
    else if k = 2 then rboolL s
    else if k = 3 then (rnumL s).map fun p => (.int p.1, p.2)
    else if k = 4 then (rtextL s).map fun p => (.text p.1, p.2)
    else if k = 5 then (rlistL rec (s.length + 1) s).map fun p => (.list p.1, p.2)
    else if k = 6 then (rfieldsL rec (s.length + 1) s).map fun p => (.obj p.1, p.2)
    else none := rfl
/-- what the reader makes of bytes where values may stand so much deeper still. -/
def rvalueL : Nat → BL → Option (V × BL)
  | 0 => rbodyL fun _ => none
  | n + 1 => rbodyL (rvalueL n)

theorem rtextL_key : ∀ (s t r : BL), rtextL s = some (t, r) → s = writtenK t ++ r
  | [], _, _, h => by simp [rtextL] at h
  | [c], _, _, h => by simp [rtextL] at h
  | c :: d :: s, t, r, h => by
    unfold rtextL at h
    by_cases h0 : c = 0
    · rw [if_pos h0] at h
      by_cases h1 : d = 1
      · rw [if_pos h1] at h
        cases h
        rw [h0, h1]; rfl
      · rw [if_neg h1] at h
        by_cases h2 : d = 255
        · rw [if_pos h2] at h
          cases hr : rtextL s with
          | none => rw [hr] at h; cases h
          | some p =>
            rw [hr] at h
            cases h
            have := rtextL_key s p.1 p.2 hr
            rw [h0, h2, this]
            simp [writtenK, escK]
        · rw [if_neg h2] at h; cases h
    · rw [if_neg h0] at h
      cases hr : rtextL (d :: s) with
      | none => rw [hr] at h; cases h
      | some p =>
        rw [hr] at h
        cases h
        have := rtextL_key (d :: s) p.1 p.2 hr
        rw [this]
        simp [writtenK, escK, h0]
theorem rtextL_of : ∀ (t r : BL), rtextL (writtenK t ++ r) = some (t, r)
  | [], r => by simp [writtenK, escK, rtextL]
  | c :: t, r => by
    have ih := rtextL_of t r
    by_cases h : c = 0
    · subst h
      rw [show writtenK (0 :: t) ++ r = 0 :: 255 :: (writtenK t ++ r) by simp [writtenK, escK]]
      unfold rtextL
      rw [if_pos rfl, if_neg (by decide), if_pos rfl, ih]
      rfl
    · rw [show writtenK (c :: t) ++ r = c :: (writtenK t ++ r) by simp [writtenK, escK, h]]
      obtain ⟨d, s, hd⟩ : ∃ d s, writtenK t ++ r = d :: s := by
        cases hw : writtenK t ++ r with
        | nil => simp [writtenK] at hw
        | cons d s => exact ⟨d, s, rfl⟩
      rw [hd] at ih ⊢
      unfold rtextL
      rw [if_neg h, ih]
      rfl

theorem foldN_lt : ∀ (l : BL) (n : Nat), l.foldl (fun n c => n * 256 + c.toNat) n < (n + 1) * 256 ^ l.length
  | [], n => by simp
  | c :: l, n => by
    have h := foldN_lt l (n * 256 + c.toNat)
    rw [List.foldl_cons, List.length_cons, Nat.pow_succ]
    have hc := c.toNat_lt
    have h2 : (n * 256 + c.toNat + 1) * 256 ^ l.length ≤ (n + 1) * 256 * 256 ^ l.length := Nat.mul_le_mul_right _ (by omega)
    rw [Nat.mul_assoc, Nat.mul_comm 256] at h2
    omega
theorem beN_lt (l : BL) : beN l < 256 ^ l.length := by
  have := foldN_lt l 0
  unfold beN
  omega
theorem foldN_be : ∀ (k x n : Nat), (beK k x).foldl (fun n c => n * 256 + c.toNat) n = n * 256 ^ k + x % 256 ^ k
  | 0, x, n => by simp [beK, Nat.mod_one]
  | k + 1, x, n => by
    rw [beK, List.foldl_cons, foldN_be k, Nat.mod_pow_succ, UInt8.toNat_ofNat']
    have h1 : x / 256 ^ k % 256 % 2 ^ 8 = x / 256 ^ k % 256 := by omega
    rw [h1, Nat.add_mul, Nat.mul_assoc n 256, Nat.mul_comm 256 (256 ^ k), Nat.mul_comm (x / 256 ^ k % 256) (256 ^ k), Nat.pow_succ]
    omega
theorem eight (l : BL) (h : l.length = 8) : ∃ a b c d e f g i, l = [a, b, c, d, e, f, g, i] := by
  match l, h with
  | [a, b, c, d, e, f, g, i], _ => exact ⟨a, b, c, d, e, f, g, i, rfl⟩
theorem numK_beN (l : BL) (h : l.length = 8) : numK ((beN l : Int) - 9223372036854775808) = l := by
  obtain ⟨a, b, c, d, e, f, g, i, rfl⟩ := eight l h
  unfold numK beN
  simp only [List.foldl]
  have ha := a.toNat_lt; have hb := b.toNat_lt; have hc := c.toNat_lt; have hd := d.toNat_lt; have he := e.toNat_lt; have hf := f.toNat_lt; have hg := g.toNat_lt; have hi := i.toNat_lt
  have back : ∀ (x : Nat) (u : UInt8), x = u.toNat → UInt8.ofNat x = u := fun x u e => by rw [e]; exact UInt8.ofNat_toNat
  rw [show ((((((((((0 * 256 + a.toNat) * 256 + b.toNat) * 256 + c.toNat) * 256 + d.toNat) * 256 + e.toNat) * 256 + f.toNat) * 256 + g.toNat) * 256 + i.toNat : Nat) : Int) - 9223372036854775808 + 9223372036854775808).toNat = (((((((0 * 256 + a.toNat) * 256 + b.toNat) * 256 + c.toNat) * 256 + d.toNat) * 256 + e.toNat) * 256 + f.toNat) * 256 + g.toNat) * 256 + i.toNat by omega]
  congr 1
  · exact back _ _ (by omega)
  congr 1
  · exact back _ _ (by omega)
  congr 1
  · exact back _ _ (by omega)
  congr 1
  · exact back _ _ (by omega)
  congr 1
  · exact back _ _ (by omega)
  congr 1
  · exact back _ _ (by omega)
  congr 1
  · exact back _ _ (by omega)
  congr 1
  · exact back _ _ (by omega)
theorem beN_numK (n : Int) (h : -9223372036854775808 ≤ n ∧ n ≤ 9223372036854775807) : (beN (numK n) : Int) - 9223372036854775808 = n := by
  rw [numK_be]
  unfold beN
  rw [foldN_be]
  omega
theorem numK_len (n : Int) : (numK n).length = 8 := rfl
theorem rnumL_key (s : BL) (n : Int) (r : BL) (h : rnumL s = some (n, r)) : s = numK n ++ r ∧ -9223372036854775808 ≤ n ∧ n ≤ 9223372036854775807 := by
  unfold rnumL at h
  by_cases h8 : s.length < 8
  · rw [if_pos h8] at h; cases h
  · rw [if_neg h8] at h
    cases h
    have hl : (s.take 8).length = 8 := by rw [List.length_take]; omega
    rw [numK_beN _ hl, List.take_append_drop]
    have := beN_lt (s.take 8)
    rw [hl] at this
    exact ⟨rfl, by omega, by omega⟩
theorem rnumL_of (n : Int) (r : BL) (h : -9223372036854775808 ≤ n ∧ n ≤ 9223372036854775807) : rnumL (numK n ++ r) = some (n, r) := by
  unfold rnumL
  rw [if_neg (by rw [List.length_append, numK_len]; omega), show (numK n ++ r).take 8 = numK n from List.take_left' (numK_len n), show (numK n ++ r).drop 8 = r from List.drop_left' (numK_len n), beN_numK n h]

/-- what a reader hands back is the value whose key it took. -/
def RKey (rec : BL → Option (V × BL)) : Prop := ∀ s v r, rec s = some (v, r) → s = keyL v ++ r ∧ okV v
theorem rlistL_key {rec : BL → Option (V × BL)} (hr : RKey rec) : ∀ (f : Nat) (s : BL) (l : List V) (r : BL), rlistL rec f s = some (l, r) → s = keysL l ++ 0 :: r ∧ okVs l
  | 0, _, _, _, h => by simp [rlistL] at h
  | _ + 1, [], _, _, h => by simp [rlistL] at h
  | f + 1, c :: s, l, r, h => by
    unfold rlistL at h
    by_cases h0 : c = 0
    · rw [if_pos h0] at h
      cases h
      exact ⟨by rw [h0]; rfl, by simp [okVs]⟩
    · rw [if_neg h0] at h
      cases hx : rec (c :: s) with
      | none => rw [hx] at h; cases h
      | some p =>
        rw [hx] at h
        simp only [] at h
        cases hy : rlistL rec f p.2 with
        | none => rw [hy] at h; cases h
        | some q =>
          rw [hy] at h
          cases h
          obtain ⟨e1, o1⟩ := hr (c :: s) p.1 p.2 hx
          obtain ⟨e2, o2⟩ := rlistL_key hr f p.2 q.1 q.2 hy
          refine ⟨?_, by rw [okVs]; exact ⟨o1, o2⟩⟩
          rw [e1, e2]
          simp [keysL]
theorem rfieldL_key {rec : BL → Option (V × BL)} (hr : RKey rec) (s : BL) (n : BL) (v : V) (r : BL) (h : rfieldL rec s = some ((n, v), r)) : s = fieldL (n, v) ++ r ∧ okV v := by
  cases s with
  | nil => simp [rfieldL] at h
  | cons c s =>
    rw [rfieldL] at h
    by_cases h0 : c = 1
    · rw [if_pos h0] at h
      cases hx : rtextL s with
      | none => rw [hx] at h; cases h
      | some p =>
        rw [hx] at h
        simp only [] at h
        cases hy : rec p.2 with
        | none => rw [hy] at h; cases h
        | some q =>
          rw [hy] at h
          cases h
          have e1 := rtextL_key s p.1 p.2 hx
          obtain ⟨e2, o2⟩ := hr p.2 q.1 q.2 hy
          refine ⟨?_, o2⟩
          rw [h0, e1, e2]
          simp [fieldL_eq]
    · rw [if_neg h0] at h; cases h
theorem rfieldsL_key {rec : BL → Option (V × BL)} (hr : RKey rec) : ∀ (f : Nat) (s : BL) (l : List (BL × V)) (r : BL), rfieldsL rec f s = some (l, r) → s = fieldsL l ++ 0 :: r ∧ okFs l
  | 0, _, _, _, h => by simp [rfieldsL] at h
  | _ + 1, [], _, _, h => by simp [rfieldsL] at h
  | f + 1, c :: s, l, r, h => by
    unfold rfieldsL at h
    by_cases h0 : c = 0
    · rw [if_pos h0] at h
      cases h
      exact ⟨by rw [h0]; rfl, by simp [okFs]⟩
    · rw [if_neg h0] at h
      cases hx : rfieldL rec (c :: s) with
      | none => rw [hx] at h; cases h
      | some p =>
        rw [hx] at h
        simp only [] at h
        cases hy : rfieldsL rec f p.2 with
        | none => rw [hy] at h; cases h
        | some q =>
          rw [hy] at h
          cases h
          obtain ⟨e1, o1⟩ := rfieldL_key hr (c :: s) p.1.1 p.1.2 p.2 hx
          obtain ⟨e2, o2⟩ := rfieldsL_key hr f p.2 q.1 q.2 hy
          refine ⟨?_, by rw [okFs, okF]; exact ⟨o1, o2⟩⟩
          rw [e1, e2]
          simp [fieldsL]
theorem rbodyL_key {rec : BL → Option (V × BL)} (hr : RKey rec) : RKey (rbodyL rec) := by
  intro s v r h
  cases s with
  | nil => simp [rbodyL] at h
  | cons k s =>
    rw [rbodyL_cons] at h
    by_cases h1 : k = 1
    · rw [if_pos h1] at h; cases h
      exact ⟨by rw [h1]; rfl, by simp [okV]⟩
    rw [if_neg h1] at h
    by_cases h2 : k = 2
    · rw [if_pos h2] at h
      cases s with
      | nil => simp [rboolL] at h
      | cons c s =>
        rw [rboolL] at h
        cases h
        refine ⟨?_, by rw [okV]; have := c.toNat_lt; omega⟩
        rw [h2]
        simp [keyL]
    rw [if_neg h2] at h
    by_cases h3 : k = 3
    · rw [if_pos h3] at h
      cases hx : rnumL s with
      | none => rw [hx] at h; cases h
      | some p =>
        rw [hx] at h; cases h
        obtain ⟨e, hb⟩ := rnumL_key s p.1 p.2 hx
        exact ⟨by rw [h3, e]; simp [keyL], by rw [okV]; exact hb⟩
    rw [if_neg h3] at h
    by_cases h4 : k = 4
    · rw [if_pos h4] at h
      cases hx : rtextL s with
      | none => rw [hx] at h; cases h
      | some p =>
        rw [hx] at h; cases h
        have e := rtextL_key s p.1 p.2 hx
        exact ⟨by rw [h4, e]; simp [keyL], by simp [okV]⟩
    rw [if_neg h4] at h
    by_cases h5 : k = 5
    · rw [if_pos h5] at h
      cases hx : rlistL rec (s.length + 1) s with
      | none => rw [hx] at h; cases h
      | some p =>
        rw [hx] at h; cases h
        obtain ⟨e, o⟩ := rlistL_key hr _ s p.1 p.2 hx
        exact ⟨by rw [h5, e]; simp [keyL], by rw [okV]; exact o⟩
    rw [if_neg h5] at h
    by_cases h6 : k = 6
    · rw [if_pos h6] at h
      cases hx : rfieldsL rec (s.length + 1) s with
      | none => rw [hx] at h; cases h
      | some p =>
        rw [hx] at h; cases h
        obtain ⟨e, o⟩ := rfieldsL_key hr _ s p.1 p.2 hx
        exact ⟨by rw [h6, e]; simp [keyL], by rw [okV]; exact o⟩
    rw [if_neg h6] at h
    cases h
theorem rvalueL_key : ∀ n, RKey (rvalueL n)
  | 0 => rbodyL_key (fun _ _ _ h => by cases h)
  | n + 1 => rbodyL_key (rvalueL_key n)

mutual
def depthV : V → Nat
  | .list l => depthVs l + 1
  | .obj l => depthFs l + 1
  | _ => 1
def depthVs : List V → Nat
  | [] => 0
  | v :: l => max (depthV v) (depthVs l)
def depthF : BL × V → Nat
  | (_, v) => depthV v
def depthFs : List (BL × V) → Nat
  | [] => 0
  | f :: l => max (depthF f) (depthFs l)
end
theorem keyL_ne0 (v : V) : ∃ k r, keyL v = k :: r ∧ k ≠ 0 := by
  cases v <;> exact ⟨_, _, by rw [keyL], by decide⟩
def ROf (rec : BL → Option (V × BL)) (v : V) : Prop := ∀ r, rec (keyL v ++ r) = some (v, r)
theorem rlistL_of {rec : BL → Option (V × BL)} : ∀ (l : List V) (f : Nat) (r : BL), (∀ x ∈ l, ROf rec x) → l.length < f → rlistL rec f (keysL l ++ 0 :: r) = some (l, r)
  | [], 0, _, _, h => absurd h (Nat.not_lt_zero _)
  | [], f + 1, r, _, _ => by simp [keysL, rlistL]
  | v :: l, 0, _, _, h => absurd h (Nat.not_lt_zero _)
  | v :: l, f + 1, r, hv, h => by
    have h1 := hv v (List.mem_cons_self ..) (keysL l ++ 0 :: r)
    have h2 := rlistL_of l f r (fun x hx => hv x (List.mem_cons_of_mem _ hx)) (by simp at h; omega)
    obtain ⟨k, s, e, hk⟩ := keyL_ne0 v
    rw [keysL, List.append_assoc]
    rw [e] at h1 ⊢
    simp only [List.cons_append] at h1 ⊢
    unfold rlistL
    rw [if_neg hk, h1]
    simp only []
    rw [h2]
    rfl
theorem rfieldsL_of {rec : BL → Option (V × BL)} : ∀ (l : List (BL × V)) (f : Nat) (r : BL), (∀ x ∈ l, ROf rec x.2) → l.length < f → rfieldsL rec f (fieldsL l ++ 0 :: r) = some (l, r)
  | [], 0, _, _, h => absurd h (Nat.not_lt_zero _)
  | [], f + 1, r, _, _ => by simp [fieldsL, rfieldsL]
  | v :: l, 0, _, _, h => absurd h (Nat.not_lt_zero _)
  | (n, v) :: l, f + 1, r, hv, h => by
    have h1 := hv (n, v) (List.mem_cons_self ..) (fieldsL l ++ 0 :: r)
    have h2 := rfieldsL_of l f r (fun x hx => hv x (List.mem_cons_of_mem _ hx)) (by simp at h; omega)
    have h3 := rtextL_of n (keyL v ++ (fieldsL l ++ 0 :: r))
    rw [fieldsL, fieldL_eq, List.append_assoc, List.cons_append, List.append_assoc]
    unfold rfieldsL
    rw [if_neg (by decide)]
    rw [rfieldL]
    rw [if_pos rfl, h3]
    simp only [] at h1 ⊢
    rw [h1]
    simp only [Option.map_some]
    rw [h2]
    rfl
theorem depthVs_le : ∀ {l : List V} {x : V}, x ∈ l → depthV x ≤ depthVs l
  | v :: l, x, h => by
    rw [depthVs]
    rcases List.mem_cons.mp h with rfl | h
    · omega
    · have := depthVs_le h; omega
theorem depthFs_le : ∀ {l : List (BL × V)} {x : BL × V}, x ∈ l → depthV x.2 ≤ depthFs l
  | (n, v) :: l, x, h => by
    rw [depthFs, depthF]
    rcases List.mem_cons.mp h with rfl | h
    · show depthV v ≤ _; omega
    · have := depthFs_le h; omega
theorem okVs_mem : ∀ {l : List V} {x : V}, okVs l → x ∈ l → okV x
  | v :: l, x, ho, h => by
    rw [okVs] at ho
    rcases List.mem_cons.mp h with rfl | h
    · exact ho.1
    · exact okVs_mem ho.2 h
theorem okFs_mem : ∀ {l : List (BL × V)} {x : BL × V}, okFs l → x ∈ l → okV x.2
  | (n, v) :: l, x, ho, h => by
    rw [okFs, okF] at ho
    rcases List.mem_cons.mp h with rfl | h
    · exact ho.1
    · exact okFs_mem ho.2 h
theorem rbodyL_of {rec : BL → Option (V × BL)} (v : V) (ho : okV v) (hl : ∀ l, v = .list l → ∀ x ∈ l, ROf rec x) (hf : ∀ l, v = .obj l → ∀ x ∈ l, ROf rec x.2) : ROf (rbodyL rec) v := by
  intro r
  cases v with
  | null => simp [keyL, rbodyL_cons]
  | bool n =>
    rw [okV] at ho
    simp only [keyL, List.cons_append, List.nil_append]
    rw [rbodyL_cons]
    rw [if_neg (by decide), if_pos rfl, rboolL]
    simp only [UInt8.toNat_ofNat']
    rw [show n.toNat % 2 ^ 8 = n.toNat by omega, show ((n.toNat : Nat) : Int) = n by omega]
  | int n =>
    rw [okV] at ho
    simp only [keyL, List.cons_append]
    rw [rbodyL_cons]
    rw [if_neg (by decide), if_neg (by decide), if_pos rfl, rnumL_of n r ho]
    rfl
  | text s =>
    simp only [keyL, List.cons_append]
    rw [rbodyL_cons]
    rw [if_neg (by decide), if_neg (by decide), if_neg (by decide), if_pos rfl, rtextL_of s r]
    rfl
  | list l =>
    simp only [keyL, List.cons_append, List.append_assoc, List.nil_append]
    rw [rbodyL_cons]
    rw [if_neg (by decide), if_neg (by decide), if_neg (by decide), if_neg (by decide), if_pos rfl, rlistL_of l _ r (hl l rfl) (by have := keysL_long l; rw [List.length_append]; omega)]
    rfl
  | obj l =>
    simp only [keyL, List.cons_append, List.append_assoc, List.nil_append]
    rw [rbodyL_cons]
    rw [if_neg (by decide), if_neg (by decide), if_neg (by decide), if_neg (by decide), if_neg (by decide), if_pos rfl, rfieldsL_of l _ r (hf l rfl) (by have := fieldsL_long l; rw [List.length_append]; omega)]
    rfl
/-- a value's key is read as the value, if it is not too deep. -/
theorem rvalueL_of : ∀ (n : Nat) (v : V), okV v → depthV v ≤ n + 1 → ROf (rvalueL n) v
  | 0, v, ho, hd => by
    refine rbodyL_of v ho ?_ ?_
    · rintro l rfl x hx
      have h1 := depthVs_le hx
      rw [depthV] at hd
      have h2 : 1 ≤ depthV x := by cases x <;> simp [depthV]
      omega
    · rintro l rfl x hx
      have h1 := depthFs_le hx
      rw [depthV] at hd
      have h2 : 1 ≤ depthV x.2 := by cases x.2 <;> simp [depthV]
      omega
  | n + 1, v, ho, hd => by
    refine rbodyL_of v ho ?_ ?_
    · rintro l rfl x hx
      have h1 := depthVs_le hx
      rw [depthV] at hd
      rw [okV] at ho
      exact rvalueL_of n x (okVs_mem ho hx) (by omega)
    · rintro l rfl x hx
      have h1 := depthFs_le hx
      rw [depthV] at hd
      rw [okV] at ho
      exact rvalueL_of n x.2 (okFs_mem ho hx) (by omega)
end Go.Proofs.YthlioinmeimhoaaDoor
