/- A clock with deadlines: what it holds, and which of them are due, in order. Plain: no program in sight. -/
namespace Go.Proofs.Ytlhlbedbfjanhaa

structure Clk where
  now : Int
  at_ : Int → Option Int
def maxT : Int := 1099511627776
def maxK : Int := 1048576
def Clk.new : Clk := ⟨0, fun _ => none⟩
def Clk.when (c : Clk) (a : Int) : Int := min (max a c.now) maxT
def Clk.clear (c : Clk) (id : Int) : Clk := ⟨c.now, fun k => if k = id then none else c.at_ k⟩
def Clk.set (c : Clk) (id a : Int) : Clk := ⟨c.now, fun k => if k = id then some (c.when a) else c.at_ k⟩
def Clk.next (c : Clk) (n : Int) : Int := min (c.now + min (max n 0) maxK) maxT
def isDue (now : Int) : Option Int → Bool
  | some t => decide (t ≤ now)
  | none => false
def Clk.tick (c : Clk) (n : Int) : Clk := ⟨c.next n, fun k => if isDue (c.next n) (c.at_ k) then none else c.at_ k⟩

structure Clk.OK (c : Clk) : Prop where
  lo : 0 ≤ c.now
  hi : c.now ≤ maxT
  at_ : ∀ k t, c.at_ k = some t → c.now ≤ t ∧ t ≤ maxT
/-- what holds between the steps of a tick, too. -/
structure Clk.OK0 (c : Clk) : Prop where
  lo : 0 ≤ c.now
  hi : c.now ≤ maxT
  at_ : ∀ k t, c.at_ k = some t → 0 ≤ t ∧ t ≤ maxT
theorem Clk.OK.weak {c : Clk} (h : c.OK) : c.OK0 := ⟨h.lo, h.hi, fun k t e => by have := h.at_ k t e; have := h.lo; omega⟩
theorem Clk.new_ok : Clk.new.OK := ⟨by decide, by decide, fun k t h => by cases h⟩
theorem Clk.when_in {c : Clk} (h : c.OK0) (a : Int) : c.now ≤ c.when a ∧ c.when a ≤ maxT := by
  have := h.hi
  unfold Clk.when
  omega
theorem Clk.clear_ok {c : Clk} (h : c.OK) (id : Int) : (c.clear id).OK := ⟨h.lo, h.hi, fun k t e => by
  unfold Clk.clear at e
  simp only at e
  split at e
  · cases e
  · exact h.at_ k t e⟩
theorem Clk.set_ok {c : Clk} (h : c.OK) (id a : Int) : (c.set id a).OK := ⟨h.lo, h.hi, fun k t e => by
  unfold Clk.set at e
  simp only at e
  split at e
  · cases e; exact Clk.when_in h.weak a
  · exact h.at_ k t e⟩
theorem Clk.clear_ok0 {c : Clk} (h : c.OK0) (id : Int) : (c.clear id).OK0 := ⟨h.lo, h.hi, fun k t e => by
  unfold Clk.clear at e
  simp only at e
  split at e
  · cases e
  · exact h.at_ k t e⟩
theorem Clk.set_ok0 {c : Clk} (h : c.OK0) (id a : Int) : (c.set id a).OK0 := ⟨h.lo, h.hi, fun k t e => by
  unfold Clk.set at e
  simp only at e
  split at e
  · cases e
    have := Clk.when_in h a
    have := h.lo
    omega
  · exact h.at_ k t e⟩
theorem Clk.next_in {c : Clk} (h : c.OK0) (n : Int) : c.now ≤ c.next n ∧ c.next n ≤ maxT := by
  have := h.hi
  unfold Clk.next maxK
  omega
theorem Clk.tick_ok {c : Clk} (h : c.OK) (n : Int) : (c.tick n).OK := by
  have h1 := Clk.next_in h.weak n
  refine ⟨by have := h.lo; show 0 ≤ c.next n; omega, h1.2, fun k t e => ?_⟩
  unfold Clk.tick at e
  simp only at e
  split at e
  · cases e
  · rename_i hd
    rw [e] at hd
    have h2 := h.at_ k t e
    have h3 : ¬ t ≤ c.next n := by simpa [isDue] using hd
    exact ⟨by show c.next n ≤ t; omega, h2.2⟩

/-- a's deadline comes ahead of b's; of two at once the lesser. -/
def ahead (m : Int → Option Int) (a b : Int) : Prop := (m a).getD 0 < (m b).getD 0 ∨ ((m a).getD 0 = (m b).getD 0 ∧ a < b)
instance (m : Int → Option Int) (a b : Int) : Decidable (ahead m a b) := by unfold ahead; exact inferInstance
theorem ahead_irrefl (m : Int → Option Int) (a : Int) : ¬ ahead m a a := by unfold ahead; omega
theorem ahead_asymm {m : Int → Option Int} {a b : Int} (h : ahead m a b) : ¬ ahead m b a := by unfold ahead at *; omega
theorem ahead_trans {m : Int → Option Int} {a b c : Int} (h : ahead m a b) (g : ahead m b c) : ahead m a c := by unfold ahead at *; omega
theorem ahead_total {m : Int → Option Int} {a b : Int} (h : ¬ ahead m a b) (g : ¬ ahead m b a) : a = b := by unfold ahead at *; omega

/-- l is the list of those that are due, in order. -/
structure DueL (m : Int → Option Int) (now : Int) (l : List Int) : Prop where
  order : l.Pairwise (ahead m)
  mem : ∀ k, k ∈ l ↔ isDue now (m k) = true
theorem order_unique {m : Int → Option Int} : ∀ {l r : List Int}, l.Pairwise (ahead m) → r.Pairwise (ahead m) → (∀ k, k ∈ l ↔ k ∈ r) → l = r
  | [], [], _, _, _ => rfl
  | [], b :: r, _, _, h => by simpa using (h b).2 (List.mem_cons_self ..)
  | a :: l, [], _, _, h => by simpa using (h a).1 (List.mem_cons_self ..)
  | a :: l, b :: r, hl, hr, h => by
    rw [List.pairwise_cons] at hl hr
    have e : a = b := by
      rcases List.mem_cons.1 ((h a).1 (List.mem_cons_self ..)) with e | hm
      · exact e
      · rcases List.mem_cons.1 ((h b).2 (List.mem_cons_self ..)) with e | hn
        · exact e.symm
        · exact absurd (hl.1 b hn) (ahead_asymm (hr.1 a hm))
    subst e
    rw [order_unique hl.2 hr.2 fun k => ?_]
    constructor
    · intro hk
      rcases List.mem_cons.1 ((h k).1 (List.mem_cons_of_mem _ hk)) with e | hm
      · exact absurd (hl.1 k hk) (by rw [e]; exact ahead_irrefl m a)
      · exact hm
    · intro hk
      rcases List.mem_cons.1 ((h k).2 (List.mem_cons_of_mem _ hk)) with e | hm
      · exact absurd (hr.1 k hk) (by rw [e]; exact ahead_irrefl m a)
      · exact hm
theorem DueL.unique {m : Int → Option Int} {now : Int} {l r : List Int} (h : DueL m now l) (g : DueL m now r) : l = r :=
  order_unique h.order g.order fun k => by rw [h.mem, g.mem]
theorem DueL.nil {m : Int → Option Int} {now : Int} (h : ∀ k, isDue now (m k) = false) : DueL m now [] := ⟨List.Pairwise.nil, fun k => by simp [h k]⟩
theorem DueL.empty {m : Int → Option Int} {now : Int} {l : List Int} (h : DueL m now l) (hn : ∀ k, isDue now (m k) = false) : l = [] := h.unique (DueL.nil hn)
theorem DueL.one {m : Int → Option Int} {now : Int} {l : List Int} (h : DueL m now l) (id : Int) (hn : ∀ k, isDue now (m k) = true ↔ k = id) : l = [id] :=
  h.unique ⟨by simp, fun k => by simp [hn k]⟩
theorem DueL.congr {m m2 : Int → Option Int} {now : Int} {l : List Int} (h : DueL m now l) (e : ∀ k, m2 k = m k) : DueL m2 now l := by
  have : m2 = m := funext e
  rw [this]; exact h
/-- whoever is due at the earlier time, and those that are then, are those that are at the later one. -/
theorem DueL.parts {m : Int → Option Int} {a b : Int} (hab : a ≤ b) {l r : List Int} (h : DueL m a l) (g : DueL (fun k => if isDue a (m k) then none else m k) b r) : DueL m b (l ++ r) := by
  have hr : ∀ k ∈ r, ∃ t, m k = some t ∧ a < t ∧ t ≤ b := fun k hk => by
    have := (g.mem k).1 hk
    split at this
    · cases this
    · rename_i hd
      cases hm : m k with
      | none => rw [hm] at this; cases this
      | some t =>
        rw [hm] at this hd
        simp only [isDue, decide_eq_true_eq] at this hd
        exact ⟨t, rfl, by omega, this⟩
  have hl : ∀ k ∈ l, ∃ t, m k = some t ∧ t ≤ a := fun k hk => by
    have := (h.mem k).1 hk
    cases hm : m k with
    | none => rw [hm] at this; cases this
    | some t => rw [hm] at this; exact ⟨t, rfl, by simpa [isDue] using this⟩
  refine ⟨List.pairwise_append.2 ⟨h.order, ?_, fun x hx y hy => ?_⟩, fun k => ?_⟩
  · refine g.order.imp_of_mem fun {x y} hx hy hxy => ?_
    obtain ⟨t, ht, h1, _⟩ := hr x hx
    obtain ⟨u, hu, h2, _⟩ := hr y hy
    have e1 : isDue a (m x) = false := by rw [ht]; simp [isDue]; omega
    have e2 : isDue a (m y) = false := by rw [hu]; simp [isDue]; omega
    unfold ahead at hxy ⊢
    simpa [e1, e2] using hxy
  · obtain ⟨t, ht, h1⟩ := hl x hx
    obtain ⟨u, hu, h2, _⟩ := hr y hy
    unfold ahead
    rw [ht, hu]
    simp
    omega
  · rw [List.mem_append, h.mem, g.mem]
    cases hm : m k with
    | none => simp [isDue]
    | some t =>
      simp only [isDue, decide_eq_true_eq]
      by_cases h1 : t ≤ a
      · simp [h1]; omega
      · simp [h1]
end Go.Proofs.Ytlhlbedbfjanhaa
