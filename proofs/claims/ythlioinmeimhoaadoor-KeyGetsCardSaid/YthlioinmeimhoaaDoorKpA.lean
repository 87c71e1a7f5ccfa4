/- Keys in order: how texts and values stand to one another, and what becomes of that in their keys. Plain: no program in sight. -/
import Derived.Test.YthlioinmeimhoaaDoorGD
namespace Go.Proofs.YthlioinmeimhoaaDoor
open Go.Shelf Go.RowKit Go.Lib

def lcmp : BL → BL → Ordering
  | [], [] => .eq
  | [], _ :: _ => .lt
  | _ :: _, [] => .gt
  | a :: l, b :: m => if a < b then .lt else if b < a then .gt else lcmp l m
theorem lcmp_cons (a b : UInt8) (l m : BL) : lcmp (a :: l) (b :: m) = if a < b then .lt else if b < a then .gt else lcmp l m := by rw [lcmp]
def icmp (a b : Int) : Ordering := if a < b then .lt else if b < a then .gt else .eq
def sgnO : Ordering → Int
  | .lt => -1
  | .eq => 0
  | .gt => 1

theorem lcmp_same (p s t : BL) : lcmp (p ++ s) (p ++ t) = lcmp s t := by
  induction p with
  | nil => rfl
  | cons a p ih => simp [lcmp, ih]
theorem lcmp_refl (p : BL) : lcmp p p = .eq := by
  have := lcmp_same p [] []
  simpa [lcmp] using this
theorem lcmp_eq : ∀ {l m : BL}, lcmp l m = .eq → l = m
  | [], [], _ => rfl
  | [], _ :: _, h => by simp [lcmp] at h
  | _ :: _, [], h => by simp [lcmp] at h
  | a :: l, b :: m, h => by
    unfold lcmp at h
    by_cases h1 : a < b
    · rw [if_pos h1] at h; cases h
    · rw [if_neg h1] at h
      by_cases h2 : b < a
      · rw [if_pos h2] at h; cases h
      · rw [if_neg h2] at h
        have e : a = b := by
          apply UInt8.toNat_inj.mp
          have h1' : ¬ a.toNat < b.toNat := fun h => h1 (UInt8.lt_iff_toNat_lt.mpr h)
          have h2' : ¬ b.toNat < a.toNat := fun h => h2 (UInt8.lt_iff_toNat_lt.mpr h)
          omega
        rw [e, lcmp_eq h]
theorem lcmp_less : ∀ (l m : BL), Op.bytesLess l m = (lcmp l m == .lt)
  | [], [] => rfl
  | [], _ :: _ => rfl
  | _ :: _, [] => rfl
  | a :: l, b :: m => by
    show (decide (a < b) || (a == b && Op.bytesLess l m)) = _
    rw [lcmp_less l m, lcmp_cons]
    by_cases h1 : a < b
    · simp [h1]
    · by_cases h2 : b < a
      · have e : (a == b) = false := by
          simp
          rintro rfl
          exact h1 h2
        simp [h1, h2, e]
      · have e : a = b := by
          apply UInt8.toNat_inj.mp
          have h1' : ¬ a.toNat < b.toNat := fun h => h1 (UInt8.lt_iff_toNat_lt.mpr h)
          have h2' : ¬ b.toNat < a.toNat := fun h => h2 (UInt8.lt_iff_toNat_lt.mpr h)
          omega
        subst e
        simp [h1]
theorem lcmp_swap : ∀ (l m : BL), lcmp m l = (lcmp l m).swap
  | [], [] => rfl
  | [], _ :: _ => rfl
  | _ :: _, [] => rfl
  | a :: l, b :: m => by
    rw [lcmp_cons, lcmp_cons]
    by_cases h1 : a < b
    · have h2 : ¬ b < a := fun h => by
        have h1' := UInt8.lt_iff_toNat_lt.mp h1
        have h2' := UInt8.lt_iff_toNat_lt.mp h
        omega
      rw [if_pos h1, if_neg h2, if_pos h1]; rfl
    · by_cases h2 : b < a
      · rw [if_pos h2, if_neg h1, if_pos h2]; rfl
      · rw [if_neg h2, if_neg h1, if_neg h1, if_neg h2]
        exact lcmp_swap l m

def kindV : V → Int
  | .null => 0
  | .bool _ => 1
  | .int _ => 2
  | .text _ => 3
  | .list _ => 4
  | .obj _ => 5
mutual
def cmpO : V → V → Ordering
  | .null, .null => .eq
  | .bool a, .bool b => icmp a b
  | .int a, .int b => icmp a b
  | .text a, .text b => lcmp a b
  | .list a, .list b => cmpsO a b
  | .obj a, .obj b => cmpfsO a b
  | x, y => icmp (kindV x) (kindV y)
def cmpsO : List V → List V → Ordering
  | [], [] => .eq
  | [], _ :: _ => .lt
  | _ :: _, [] => .gt
  | x :: l, y :: m => (cmpO x y).then (cmpsO l m)
def cmpfO : BL × V → BL × V → Ordering
  | (n, x), (k, y) => (lcmp n k).then (cmpO x y)
def cmpfsO : List (BL × V) → List (BL × V) → Ordering
  | [], [] => .eq
  | [], _ :: _ => .lt
  | _ :: _, [] => .gt
  | x :: l, y :: m => (cmpfO x y).then (cmpfsO l m)
end
mutual
def okV : V → Prop
  | .bool n => 0 ≤ n ∧ n < 256
  | .int n => -9223372036854775808 ≤ n ∧ n ≤ 9223372036854775807
  | .list l => okVs l
  | .obj l => okFs l
  | _ => True
def okVs : List V → Prop
  | [] => True
  | v :: l => okV v ∧ okVs l
def okF : BL × V → Prop
  | (_, v) => okV v
def okFs : List (BL × V) → Prop
  | [] => True
  | f :: l => okF f ∧ okFs l
end
mutual
theorem VAt.ok {S : Nat → Prop} {w : World} : ∀ {v : V} {c : List Value}, VAt S w v c → okV v
  | _, _, .null => by simp [okV]
  | _, _, .bool n h => by simpa [okV] using h
  | _, _, .int n h => by simpa [okV] using h
  | _, _, .text s => by simp [okV]
  | _, _, .list l cs sl h hr => by rw [okV]; exact VsAt.ok h
  | _, _, .obj l cs sl h hr => by rw [okV]; exact FsAt.ok h
theorem VsAt.ok {S : Nat → Prop} {w : World} : ∀ {l : List V} {cs : List Value}, VsAt S w l cs → okVs l
  | _, _, .nil => by simp [okVs]
  | _, _, .cons v l c0 c1 c2 c3 c4 cs h t => by rw [okVs]; exact ⟨VAt.ok h, VsAt.ok t⟩
theorem FsAt.ok {S : Nat → Prop} {w : World} : ∀ {l : List (BL × V)} {cs : List Value}, FsAt S w l cs → okFs l
  | _, _, .nil => by simp [okFs]
  | _, _, .cons n v l c0 c1 c2 c3 c4 cs h t => by rw [okFs, okF]; exact ⟨VAt.ok h, FsAt.ok t⟩
end

theorem esc_cmp : ∀ (a b s t : BL), lcmp (escK a ++ 0 :: 1 :: s) (escK b ++ 0 :: 1 :: t) = (lcmp a b).then (lcmp s t)
  | [], [], s, t => by simp [escK, lcmp, Ordering.then]
  | [], c :: b, s, t => by
    by_cases h : c = 0
    · subst h; simp [escK, lcmp, Ordering.then]
    · have h0 : (0 : UInt8) < c := by rw [UInt8.lt_iff_toNat_lt]; have : c.toNat ≠ 0 := fun e => h (UInt8.toNat_inj.mp e); show 0 < c.toNat; omega
      simp [escK, lcmp, h, h0, Ordering.then]
  | c :: a, [], s, t => by
    by_cases h : c = 0
    · subst h; simp [escK, lcmp, Ordering.then]
    · have h0 : (0 : UInt8) < c := by rw [UInt8.lt_iff_toNat_lt]; have : c.toNat ≠ 0 := fun e => h (UInt8.toNat_inj.mp e); show 0 < c.toNat; omega
      have h1 : ¬ c < 0 := by rw [UInt8.lt_iff_toNat_lt]; show ¬ c.toNat < 0; omega
      simp [escK, lcmp, h, h0, Ordering.then]
  | c :: a, d :: b, s, t => by
    have ih := esc_cmp a b s t
    by_cases h : c = 0
    · subst h
      by_cases h2 : d = 0
      · subst h2; simp [escK, lcmp, ih]
      · have h0 : (0 : UInt8) < d := by rw [UInt8.lt_iff_toNat_lt]; have : d.toNat ≠ 0 := fun e => h2 (UInt8.toNat_inj.mp e); show 0 < d.toNat; omega
        simp [escK, lcmp, h2, h0, Ordering.then]
    · have h0 : (0 : UInt8) < c := by rw [UInt8.lt_iff_toNat_lt]; have : c.toNat ≠ 0 := fun e => h (UInt8.toNat_inj.mp e); show 0 < c.toNat; omega
      by_cases h2 : d = 0
      · subst h2
        simp [escK, lcmp, h, h0, Ordering.then]
      · simp only [escK, if_neg h, if_neg h2, List.cons_append, lcmp]
        by_cases h3 : c < d
        · rw [if_pos h3, if_pos h3]; rfl
        · rw [if_neg h3, if_neg h3]
          by_cases h4 : d < c
          · rw [if_pos h4, if_pos h4]; rfl
          · rw [if_neg h4, if_neg h4, ih]
theorem written_cmp (a b s t : BL) : lcmp (writtenK a ++ s) (writtenK b ++ t) = (lcmp a b).then (lcmp s t) := by
  have := esc_cmp a b s t
  simpa [writtenK] using this

/-- k bytes of a number, the greatest first. -/
def beK : Nat → Nat → BL
  | 0, _ => []
  | k + 1, x => UInt8.ofNat (x / 256 ^ k % 256) :: beK k x
theorem numK_be (n : Int) : numK n = beK 8 (n + 9223372036854775808).toNat := by
  unfold numK
  simp [beK]
theorem beK_mod : ∀ (k x : Nat), beK k (x % 256 ^ k) = beK k x
  | 0, _ => rfl
  | k + 1, x => by
    unfold beK
    have e1 : x % 256 ^ (k + 1) / 256 ^ k % 256 = x / 256 ^ k % 256 := by
      rw [Nat.pow_succ, Nat.mod_mul_right_div_self, Nat.mod_mod]
    have e2 : beK k (x % 256 ^ (k + 1)) = beK k x := by
      rw [← beK_mod k (x % 256 ^ (k + 1)), Nat.pow_succ, Nat.mod_mul_right_mod, beK_mod k x]
    rw [e1, e2]
theorem be_cmp : ∀ (k x y : Nat) (s t : BL), x < 256 ^ k → y < 256 ^ k → lcmp (beK k x ++ s) (beK k y ++ t) = (icmp x y).then (lcmp s t)
  | 0, x, y, s, t, hx, hy => by
    obtain rfl : x = 0 := by simpa using hx
    obtain rfl : y = 0 := by simpa using hy
    simp [beK, icmp, Ordering.then]
  | k + 1, x, y, s, t, hx, hy => by
    have hp : 0 < 256 ^ k := Nat.pow_pos (by omega)
    have ih := be_cmp k (x % 256 ^ k) (y % 256 ^ k) s t (Nat.mod_lt _ hp) (Nat.mod_lt _ hp)
    rw [beK_mod, beK_mod] at ih
    have hx1 : x / 256 ^ k < 256 := by rw [Nat.div_lt_iff_lt_mul hp]; rw [Nat.pow_succ] at hx; omega
    have hy1 : y / 256 ^ k < 256 := by rw [Nat.div_lt_iff_lt_mul hp]; rw [Nat.pow_succ] at hy; omega
    have ex := Nat.div_add_mod x (256 ^ k)
    have ey := Nat.div_add_mod y (256 ^ k)
    have mx := Nat.mod_lt x hp
    have my := Nat.mod_lt y hp
    unfold beK
    simp only [List.cons_append, lcmp]
    rw [Nat.mod_eq_of_lt hx1, Nat.mod_eq_of_lt hy1]
    have lt_iff : ∀ a b : Nat, a < 256 → b < 256 → (UInt8.ofNat a < UInt8.ofNat b ↔ a < b) := fun a b ha hb => by
      rw [UInt8.lt_iff_toNat_lt, UInt8.toNat_ofNat', UInt8.toNat_ofNat', Nat.mod_eq_of_lt (by simpa using ha), Nat.mod_eq_of_lt (by simpa using hb)]
    by_cases h1 : x / 256 ^ k < y / 256 ^ k
    · rw [if_pos ((lt_iff _ _ hx1 hy1).mpr h1)]
      have hlt : x < y := by
        have := Nat.mul_le_mul_left (256 ^ k) (show x / 256 ^ k + 1 ≤ y / 256 ^ k from h1)
        rw [Nat.mul_add, Nat.mul_one] at this
        omega
      unfold icmp
      rw [if_pos (by omega)]; rfl
    · rw [if_neg (fun h => h1 ((lt_iff _ _ hx1 hy1).mp h))]
      by_cases h2 : y / 256 ^ k < x / 256 ^ k
      · rw [if_pos ((lt_iff _ _ hy1 hx1).mpr h2)]
        have hlt : y < x := by
          have := Nat.mul_le_mul_left (256 ^ k) (show y / 256 ^ k + 1 ≤ x / 256 ^ k from h2)
          rw [Nat.mul_add, Nat.mul_one] at this
          omega
        unfold icmp
        rw [if_neg (by omega), if_pos (by omega)]; rfl
      · rw [if_neg (fun h => h2 ((lt_iff _ _ hy1 hx1).mp h)), ih]
        have he : x / 256 ^ k = y / 256 ^ k := by omega
        congr 1
        unfold icmp
        rw [he] at ex
        by_cases h3 : x % 256 ^ k < y % 256 ^ k
        · rw [if_pos (by omega), if_pos (by omega)]
        · rw [if_neg (by omega)]
          by_cases h4 : y % 256 ^ k < x % 256 ^ k
          · rw [if_pos (by omega), if_neg (by omega), if_pos (by omega)]
          · rw [if_neg (by omega), if_neg (by omega), if_neg (by omega)]
theorem num_cmp (a b : Int) (s t : BL) (ha : -9223372036854775808 ≤ a ∧ a ≤ 9223372036854775807) (hb : -9223372036854775808 ≤ b ∧ b ≤ 9223372036854775807) :
    lcmp (numK a ++ s) (numK b ++ t) = (icmp a b).then (lcmp s t) := by
  rw [numK_be, numK_be, be_cmp 8 _ _ s t (by omega) (by omega)]
  congr 1
  unfold icmp
  by_cases h1 : a < b
  · rw [if_pos h1, if_pos (by omega)]
  · rw [if_neg h1, if_neg (by omega)]
    by_cases h2 : b < a
    · rw [if_pos h2, if_pos (by omega)]
    · rw [if_neg h2, if_neg (by omega)]

theorem keyL_head (v : V) : ∃ k r, keyL v = k :: r ∧ (0 : UInt8) < k := by
  cases v <;> exact ⟨_, _, by rw [keyL], by decide⟩
theorem then_assoc (a b c : Ordering) : (a.then b).then c = a.then (b.then c) := by cases a <;> rfl

def KeyCmp (x : V) : Prop := okV x → ∀ y, okV y → ∀ s t, lcmp (keyL x ++ s) (keyL y ++ t) = (cmpO x y).then (lcmp s t)
theorem keysL_cmp : ∀ (l : List V) (m : List V), (∀ x ∈ l, KeyCmp x) → okVs l → okVs m → ∀ s t, lcmp (keysL l ++ 0 :: s) (keysL m ++ 0 :: t) = (cmpsO l m).then (lcmp s t)
  | [], [], _, _, _, s, t => by simp [keysL, lcmp, cmpsO, Ordering.then]
  | [], y :: m, _, _, _, s, t => by
    obtain ⟨k, r, e, hk⟩ := keyL_head y
    simp [keysL, e, lcmp, cmpsO, hk, Ordering.then]
  | x :: l, [], _, _, _, s, t => by
    obtain ⟨k, r, e, hk⟩ := keyL_head x
    have h1 : ¬ k < 0 := by rw [UInt8.lt_iff_toNat_lt]; show ¬ k.toNat < 0; omega
    simp [keysL, e, lcmp, cmpsO, hk, Ordering.then]
  | x :: l, y :: m, hM, h1, h2, s, t => by
    rw [okVs] at h1 h2
    have ih := keysL_cmp l m (fun z hz => hM z (List.mem_cons_of_mem _ hz)) h1.2 h2.2 s t
    have hx := hM x (List.mem_cons_self ..) h1.1 y h2.1 (keysL l ++ 0 :: s) (keysL m ++ 0 :: t)
    rw [ih] at hx
    simp only [keysL, cmpsO, List.append_assoc]
    rw [hx, then_assoc]
theorem fieldsL_cmp : ∀ (l : List (BL × V)) (m : List (BL × V)), (∀ x ∈ l, KeyCmp x.2) → okFs l → okFs m → ∀ s t, lcmp (fieldsL l ++ 0 :: s) (fieldsL m ++ 0 :: t) = (cmpfsO l m).then (lcmp s t)
  | [], [], _, _, _, s, t => by simp [fieldsL, lcmp, cmpfsO, Ordering.then]
  | [], y :: m, _, _, _, s, t => by simp [fieldsL, fieldL_eq, lcmp, cmpfsO, Ordering.then]
  | x :: l, [], _, _, _, s, t => by simp [fieldsL, fieldL_eq, lcmp, cmpfsO, Ordering.then]
  | (n, x) :: l, (k, y) :: m, hM, h1, h2, s, t => by
    rw [okFs, okF] at h1 h2
    have ih := fieldsL_cmp l m (fun z hz => hM z (List.mem_cons_of_mem _ hz)) h1.2 h2.2 s t
    have hx := hM (n, x) (List.mem_cons_self ..) h1.1 y h2.1 (fieldsL l ++ 0 :: s) (fieldsL m ++ 0 :: t)
    have hw := written_cmp n k (keyL x ++ (fieldsL l ++ 0 :: s)) (keyL y ++ (fieldsL m ++ 0 :: t))
    simp only [] at hx
    rw [hx, ih] at hw
    simp only [fieldsL, fieldL_eq, cmpfsO, cmpfO, List.append_assoc, List.cons_append, lcmp]
    simp only [UInt8.lt_irrefl, if_false]
    rw [hw, then_assoc, then_assoc]
/-- keys stand as their values do, whatever stands behind them. -/
theorem keyL_cmp (x : V) : KeyCmp x := by
  refine V_kids ?_ ?_ ?_ ?_ ?_ ?_ x
  · intro l ih hx y hy s t
    cases y with
    | list m =>
      rw [okV] at hx hy
      have := keysL_cmp l m ih hx hy s t
      simpa [keyL, cmpO, lcmp] using this
    | _ => simp [keyL, cmpO, lcmp, icmp, kindV, Ordering.then]
  · intro l ih hx y hy s t
    cases y with
    | obj m =>
      rw [okV] at hx hy
      have := fieldsL_cmp l m ih hx hy s t
      simpa [keyL, cmpO, lcmp] using this
    | _ => simp [keyL, cmpO, lcmp, icmp, kindV, Ordering.then]
  · intro hx y hy s t
    cases y <;> simp [keyL, cmpO, lcmp, icmp, kindV, Ordering.then]
  · intro n hx y hy s t
    cases y with
    | bool k =>
      rw [okV] at hx hy
      have h := be_cmp 1 n.toNat k.toNat s t (by omega) (by omega)
      have e1 : (n.toNat : Int) = n := by omega
      have e2 : (k.toNat : Int) = k := by omega
      have e3 : n.toNat % 256 = n.toNat := by omega
      have e4 : k.toNat % 256 = k.toNat := by omega
      rw [e1, e2] at h
      simp only [beK, Nat.pow_zero, Nat.div_one, e3, e4] at h
      simpa [keyL, cmpO, lcmp] using h
    | _ => simp [keyL, cmpO, lcmp, icmp, kindV, Ordering.then]
  · intro n hx y hy s t
    cases y with
    | int k =>
      rw [okV] at hx hy
      have h := num_cmp n k s t hx hy
      simpa [keyL, cmpO, lcmp] using h
    | _ => simp [keyL, cmpO, lcmp, icmp, kindV, Ordering.then]
  · intro a hx y hy s t
    cases y with
    | text b =>
      have h := written_cmp a b s t
      simpa [keyL, cmpO, lcmp] using h
    | _ => simp [keyL, cmpO, lcmp, icmp, kindV, Ordering.then]
theorem keyL_order (x y : V) (hx : okV x) (hy : okV y) : lcmp (keyL x) (keyL y) = cmpO x y := by
  have h := keyL_cmp x hx y hy [] []
  rw [List.append_nil, List.append_nil] at h
  rw [h]
  cases cmpO x y <;> rfl
/-- no key begins another one. -/
theorem keyL_apart (x y : V) (r s : BL) (hx : okV x) (hy : okV y) (h : keyL x ++ s = keyL y ++ r) : cmpO x y = .eq ∧ s = r := by
  have e := keyL_cmp x hx y hy s r
  rw [h, lcmp_refl] at e
  have : cmpO x y = .eq := by
    cases hc : cmpO x y <;> rw [hc] at e <;> first | rfl | cases e
  refine ⟨this, ?_⟩
  rw [this] at e
  exact lcmp_eq e.symm
end Go.Proofs.YthlioinmeimhoaaDoor
