/- One queue of locks behind deeds: what stays true of it, and what follows. -/
import Derived.Test.YteghcgiclpbkdaaDoorPureK
namespace Go.Proofs.YteghcgiclpbkdaaDoor

structure LDeed where
  k : Int
  i : Int
  m : Int
structure LDeed.OK (a : LDeed) : Prop where
  k : 0 ≤ a.k ∧ a.k ≤ 255
  i : 0 ≤ a.i ∧ a.i ≤ 255
  m : 0 ≤ a.m ∧ a.m ≤ 255
def LDeed.id (a : LDeed) : Int := a.i % 12
def LDeed.mode (a : LDeed) : Int := a.m % 4 + 1
abbrev QS := List (Int × Int) × List (Int × Int)
def askS (s : QS) (i m : Int) : QS := (askQ s.1 s.2 i m).2
def freeS (s : QS) (i : Int) : QS := ((freeQ s.1 s.2 i).1, (freeQ s.1 s.2 i).2.1)
def stepL (s : QS) (a : LDeed) : QS := if a.k < 150 then askS s a.id a.mode else freeS s a.id
def runL (l : List LDeed) : QS := l.foldl stepL ([], [])
def ReachL (s : QS) : Prop := ∃ l : List LDeed, (∀ a ∈ l, a.OK) ∧ s = runL l
theorem ReachL.empty : ReachL ([], []) := ⟨[], by simp, rfl⟩
theorem ReachL.step {s : QS} (h : ReachL s) {a : LDeed} (ha : a.OK) : ReachL (stepL s a) := by
  obtain ⟨l, h1, rfl⟩ := h
  exact ⟨l ++ [a], fun b hb => by rcases List.mem_append.1 hb with h | h; exact h1 b h; simp at h; exact h ▸ ha, by simp [runL]⟩
theorem runL_snoc (l : List LDeed) (a : LDeed) : runL (l ++ [a]) = stepL (runL l) a := by simp [runL]
theorem LDeed.id_mem {a : LDeed} (ha : a.OK) : a.id ∈ I12 := Deed.id_mem (a := ⟨a.k, a.i, 0, a.m⟩) ⟨ha.k, ha.i, ⟨Int.le_refl _, by show (0 : Int) ≤ 255; decide⟩, ha.m⟩
theorem LDeed.mode_ok {a : LDeed} : 1 ≤ a.mode ∧ a.mode ≤ 4 := by unfold LDeed.mode; omega

structure QInv (s : QS) : Prop where
  q : ((s.1 ++ s.2).map Prod.fst).Nodup
  pair : s.1.Pairwise fun a b => fitsB a.2 b.2 = true
  head : ∀ g l, s.2 = g :: l → mayB s.1 g.2 = false
  mode : ∀ g ∈ s.1 ++ s.2, 1 ≤ g.2 ∧ g.2 ≤ 4
theorem QInv.empty : QInv ([], []) := ⟨by simp, by simp, fun g l e => by simp at e, by simp⟩

theorem QInv.ask {s : QS} (h : QInv s) (i m : Int) (hm : 1 ≤ m ∧ m ≤ 4) : QInv (askS s i m) := by
  unfold askS askQ
  split
  · exact h
  · rename_i hc
    have hn : i ∉ (s.1 ++ s.2).map Prod.fst := fun e => hc (.inr ((thereB_iff s.1 s.2 i).2 e))
    have key : ((s.1 ++ s.2 ++ [(i, m)]).map Prod.fst).Nodup := by
      rw [List.map_append, List.nodup_append]
      exact ⟨h.q, by simp, fun a ha b hb e => by simp at hb; subst hb; subst e; exact hn ha⟩
    have kmode : ∀ g ∈ s.1 ++ s.2 ++ [(i, m)], 1 ≤ g.2 ∧ g.2 ≤ 4 := fun g hg => by
      rcases List.mem_append.1 hg with hg | hg
      · exact h.mode g hg
      · simp only [List.mem_singleton] at hg; subst hg; exact hm
    split
    · rename_i hl
      obtain ⟨hl, hmay⟩ := hl
      rw [hl, List.append_nil] at key kmode
      refine ⟨?_, ?_, ?_, ?_⟩
      · simp only [hl, List.append_nil]; exact key
      · rw [List.pairwise_append]
        exact ⟨h.pair, by simp, fun a ha b hb => by
          simp only [List.mem_singleton] at hb; subst hb
          exact List.all_eq_true.1 hmay a ha⟩
      · intro g l e; simp only [hl] at e; simp at e
      · simp only [hl, List.append_nil]; exact kmode
    · rename_i hl
      rw [List.append_assoc] at key kmode
      refine ⟨key, h.pair, ?_, kmode⟩
      intro g l e
      simp only at e
      cases hs : s.2 with
      | nil =>
        rw [hs] at e
        simp only [List.nil_append, List.cons.injEq] at e
        rw [← e.1]
        cases hb : mayB s.1 m with
        | false => rfl
        | true => exact absurd ⟨hs, hb⟩ hl
      | cons g2 l2 =>
        rw [hs] at e
        simp only [List.cons_append, List.cons.injEq] at e
        rw [← e.1]
        exact h.head g2 l2 hs

theorem freeS_split (s : QS) (i : Int) : ∃ l1 l2, stay i s.2 = l1 ++ l2 ∧ freeQ s.1 s.2 i = (stay i s.1 ++ l1, l2, l1.map Prod.fst) ∧ (∀ g t, l2 = g :: t → mayB (stay i s.1 ++ l1) g.2 = false) ∧
    ((stay i s.1).Pairwise (fun a b => fitsB a.2 b.2 = true) → (stay i s.1 ++ l1).Pairwise (fun a b => fitsB a.2 b.2 = true)) := promote_split (stay i s.2) (stay i s.1)

theorem QInv.free {s : QS} (h : QInv s) (i : Int) : QInv (freeS s i) := by
  obtain ⟨l1, l2, el, ep, hhead, hpair⟩ := freeS_split s i
  unfold freeS
  rw [ep]
  have hsub : (stay i s.1 ++ l1 ++ l2).Sublist (s.1 ++ s.2) := by
    rw [List.append_assoc, ← el]
    exact List.Sublist.append List.filter_sublist List.filter_sublist
  exact ⟨(hsub.map _).nodup h.q, hpair (h.pair.sublist List.filter_sublist), hhead, fun g hg => h.mode g (hsub.subset hg)⟩

theorem reachL_inv {s : QS} (h : ReachL s) : QInv s := by
  obtain ⟨l, hl, rfl⟩ := h
  have key : ∀ (l : List LDeed) (s : QS), QInv s → QInv (l.foldl stepL s) := by
    intro l
    induction l with
    | nil => intro s hs; exact hs
    | cons a l ih =>
      intro s hs
      refine ih _ ?_
      unfold stepL
      split
      · exact hs.ask _ _ LDeed.mode_ok
      · exact hs.free _
  exact key l _ QInv.empty

/-- As many as there have been deeds, at most. -/
theorem runL_len (l : List LDeed) : (runL l).1.length + (runL l).2.length ≤ l.length := by
  have key : ∀ (l : List LDeed) (s : QS), (l.foldl stepL s).1.length + (l.foldl stepL s).2.length ≤ s.1.length + s.2.length + l.length := by
    intro l
    induction l with
    | nil => intro s; simp
    | cons a l ih =>
      intro s
      refine Nat.le_trans (ih _) ?_
      have : (stepL s a).1.length + (stepL s a).2.length ≤ s.1.length + s.2.length + 1 := by
        unfold stepL
        split
        · unfold askS askQ
          split
          · simp only; omega
          · split
            · simp only [List.length_append, List.length_singleton]; omega
            · simp only [List.length_append, List.length_singleton]; omega
        · obtain ⟨l1, l2, el, ep, _, _⟩ := freeS_split s a.id
          unfold freeS
          rw [ep]
          have h1 := List.length_filter_le (fun g : Int × Int => !(g.1 == a.id)) s.1
          have h2 := List.length_filter_le (fun g : Int × Int => !(g.1 == a.id)) s.2
          have e2 := congrArg List.length el
          unfold stay at e2 ⊢
          simp only [List.length_append] at e2 ⊢
          omega
      simp only [List.length_cons]
      omega
  have := key l ([], [])
  unfold runL
  simpa using this
theorem ids12 {s : QS} (h : ReachL s) : ∀ g ∈ s.1 ++ s.2, g.1 ∈ I12 := by
  obtain ⟨l, hl, rfl⟩ := h
  have key : ∀ (l : List LDeed) (s : QS), (∀ a ∈ l, a.OK) → (∀ g ∈ s.1 ++ s.2, g.1 ∈ I12) → ∀ g ∈ (l.foldl stepL s).1 ++ (l.foldl stepL s).2, g.1 ∈ I12 := by
    intro l
    induction l with
    | nil => intro s _ hs; exact hs
    | cons a l ih =>
      intro s hl hs
      refine ih _ (fun b hb => hl b (by simp [hb])) ?_
      have hid := LDeed.id_mem (hl a (by simp))
      unfold stepL
      split
      · unfold askS askQ
        split
        · exact hs
        · split
          · intro g hg
            simp only [List.append_assoc, List.mem_append, List.mem_singleton] at hg
            rcases hg with hg | rfl | hg
            · exact hs g (List.mem_append_left _ hg)
            · exact hid
            · exact hs g (List.mem_append_right _ hg)
          · intro g hg
            simp only [List.mem_append, List.mem_singleton] at hg
            rcases hg with hg | hg | rfl
            · exact hs g (List.mem_append_left _ hg)
            · exact hs g (List.mem_append_right _ hg)
            · exact hid
      · obtain ⟨l1, l2, el, ep, _, _⟩ := freeS_split s a.id
        unfold freeS
        rw [ep]
        have hsub : (stay a.id s.1 ++ l1 ++ l2).Sublist (s.1 ++ s.2) := by
          rw [List.append_assoc, ← el]
          exact List.Sublist.append List.filter_sublist List.filter_sublist
        exact fun g hg => hs g (hsub.subset hg)
  exact key l _ hl (by simp)
theorem reachL_len {s : QS} (h : ReachL s) : s.1.length + s.2.length ≤ 12 := by
  have h1 := ids12 h
  have h2 := (reachL_inv h).q
  have : QOK I12 s := ⟨h2, h1⟩
  exact this.len

/-! ### the laws -/
theorem fitsB_symm (a b : Int) : fitsB a b = fitsB b a := by
  unfold fitsB
  by_cases a1 : a = 1 <;> by_cases b1 : b = 1 <;> by_cases a2 : a = 2 <;> by_cases b2 : b = 2 <;> by_cases a3 : a = 3 <;> by_cases b3 : b = 3 <;> simp_all <;> omega
/-- Two who have locks: their modes go together, and they are two. -/
theorem safeL {s : QS} (h : QInv s) {i k : Nat} (hi : i < s.1.length) (hk : k < i) : fitsB s.1[i].2 (s.1[k]'(by omega)).2 = true ∧ (s.1[i].1 == (s.1[k]'(by omega)).1) = false := by
  constructor
  · rw [fitsB_symm]
    exact List.pairwise_iff_getElem.1 h.pair k i (by omega) hi hk
  · have hn : (s.1.map Prod.fst).Nodup := by
      have := h.q
      rw [List.map_append, List.nodup_append] at this
      exact this.1
    have := List.pairwise_iff_getElem.1 hn k i (by simpa using by omega) (by simpa using hi) hk
    simp only [List.getElem_map] at this
    simpa using fun e => this e.symm
/-- The first who waits: somebody has what does not go with it. -/
theorem needsL {s : QS} (h : QInv s) {g : Int × Int} {l : List (Int × Int)} (hg : s.2 = g :: l) : ∃ k, ∃ hk : k < s.1.length, fitsB s.1[k].2 g.2 = false := by
  have := h.head g l hg
  unfold mayB at this
  rw [List.all_eq_false] at this
  obtain ⟨x, hx, hf⟩ := this
  obtain ⟨k, hk, rfl⟩ := List.getElem_of_mem hx
  exact ⟨k, hk, by simpa using hf⟩
theorem stay_none {l : List (Int × Int)} {i : Int} (h : l.any (fun g => g.1 == i) = false) : stay i l = l := by
  unfold stay
  rw [List.filter_eq_self]
  intro g hg
  have := List.any_eq_false.1 h g hg
  simpa using this
theorem stay_not (l : List (Int × Int)) (i : Int) : (stay i l).any (fun g => g.1 == i) = false := by
  rw [List.any_eq_false]
  intro g hg
  have := (stay_mem.1 hg).2
  simpa using this
/-- Who goes is there no more. -/
theorem goneL (s : QS) (i : Int) : thereB (freeS s i).1 (freeS s i).2 i = false := by
  obtain ⟨l1, l2, el, ep, _, _⟩ := freeS_split s i
  unfold freeS
  rw [ep]
  have h1 := stay_not s.1 i
  have h2 := stay_not s.2 i
  rw [el, List.any_append] at h2
  simp only [Bool.or_eq_false_iff] at h2
  unfold thereB
  simp only [List.any_append, h1, h2.1, h2.2, Bool.or_self]
/-- Who was not there changes nothing. -/
theorem goneL_none {s : QS} (h : QInv s) {i : Int} (hn : thereB s.1 s.2 i = false) : freeQ s.1 s.2 i = (s.1, s.2, []) := by
  unfold thereB at hn
  simp only [Bool.or_eq_false_iff] at hn
  unfold freeQ
  rw [stay_none hn.1, stay_none hn.2]
  cases e : s.2 with
  | nil => rfl
  | cons g l => unfold promote; rw [h.head g l e]; simp

/-- One round of LockFair: one who has a lock goes. -/
def fairS (s : QS) : QS × List Int := match s.1[s.1.length / 2]? with
  | none => (s, [])
  | some g => (freeS s g.1, (freeQ s.1 s.2 g.1).2.2)
def fairN : Nat → QS → QS × List Int
  | 0, s => (s, [])
  | n + 1, s => ((fairS (fairN n s).1).1, (fairN n s).2 ++ (fairS (fairN n s).1).2)
theorem fairS_inv {s : QS} (h : QInv s) : QInv (fairS s).1 ∧ (fairS s).2 ++ (fairS s).1.2.map Prod.fst = s.2.map Prod.fst ∧ ((fairS s).1.1.length + (fairS s).1.2.length + 1 ≤ s.1.length + s.2.length ∨ (s = ([], []) ∧ (fairS s).1 = ([], []))) := by
  unfold fairS
  cases e : s.1[s.1.length / 2]? with
  | none =>
    have h0 : s.1 = [] := by
      rw [List.getElem?_eq_none_iff] at e
      apply List.eq_nil_of_length_eq_zero
      omega
    have h1 : s.2 = [] := by
      cases e2 : s.2 with
      | nil => rfl
      | cons g l =>
        have := h.head g l e2
        rw [h0] at this
        simp [mayB] at this
    refine ⟨h, rfl, .inr ⟨Prod.ext h0 h1, Prod.ext h0 h1⟩⟩
  | some g =>
    have hg : g ∈ s.1 := List.mem_of_getElem? e
    obtain ⟨l1, l2, el, ep, _, _⟩ := freeS_split s g.1
    have hns : s.2.any (fun x => x.1 == g.1) = false := by
      rw [List.any_eq_false]
      intro x hx
      have := not_both h.q hg hx
      simpa using fun e => this e.symm
    refine ⟨h.free _, ?_, .inl ?_⟩
    · have := promote_out (stay g.1 s.2) (stay g.1 s.1)
      rw [stay_none hns] at this
      show (freeQ s.1 s.2 g.1).2.2 ++ (freeQ s.1 s.2 g.1).2.1.map Prod.fst = _
      unfold freeQ
      rw [stay_none hns]
      exact this
    · show (freeQ s.1 s.2 g.1).1.length + (freeQ s.1 s.2 g.1).2.1.length + 1 ≤ _
      rw [ep]
      have e2 := congrArg List.length el
      rw [stay_none hns] at e2
      simp only [List.length_append] at e2 ⊢
      have : (stay g.1 s.1).length < s.1.length := by
        unfold stay
        exact List.length_filter_lt_length_iff_exists.2 ⟨g, hg, by simp⟩
      omega
theorem fairN_inv {s : QS} (h : QInv s) : ∀ n, QInv (fairN n s).1 ∧ (fairN n s).2 ++ (fairN n s).1.2.map Prod.fst = s.2.map Prod.fst ∧ ((fairN n s).1.1.length + (fairN n s).1.2.length + n ≤ s.1.length + s.2.length ∨ (fairN n s).1 = ([], [])) := by
  intro n
  induction n with
  | zero => exact ⟨h, rfl, .inl (by simp [fairN])⟩
  | succ n ih =>
    obtain ⟨h1, h2, h3⟩ := ih
    obtain ⟨k1, k2, k3⟩ := fairS_inv h1
    refine ⟨k1, ?_, ?_⟩
    · rw [← h2, ← k2]; simp [fairN]
    · rcases h3 with h3 | h3
      · rcases k3 with k3 | k3
        · left
          simp only [fairN]
          omega
        · exact .inr k3.2
      · right
        show (fairS (fairN n s).1).1 = _
        rw [h3]; rfl
/-- All have gone behind as many rounds as there were, and were told in their order. -/
theorem fairL {s : QS} (h : QInv s) {n : Nat} (hn : s.1.length + s.2.length < n) : (fairN n s).1 = ([], []) ∧ (fairN n s).2 = s.2.map Prod.fst := by
  obtain ⟨_, h2, h3⟩ := fairN_inv h n
  rcases h3 with h3 | h3
  · omega
  · refine ⟨h3, ?_⟩
    rw [h3] at h2
    simpa using h2
theorem fairN_len {s : QS} (h : QInv s) (n : Nat) : (fairN n s).2.length ≤ s.2.length := by
  have := congrArg List.length (fairN_inv h n).2.1
  simp only [List.length_append, List.length_map] at this
  omega
/-- What one asks for above. -/
theorem modesL (a b : Int) (h : fitsB a b = true) : fitsB (intentI a) b = true := by
  unfold fitsB at h
  by_cases a1 : a = 1
  · subst a1; exact h
  · by_cases a2 : a = 2
    · subst a2; exact h
    · by_cases a3 : a = 3
      · subst a3
        have hb : b = 3 ∨ b = 1 := by simpa using h
        rcases hb with rfl | rfl <;> decide
      · simp [a1, a2, a3] at h
theorem intent_intent (a : Int) : intentI (intentI a) = intentI a := by
  unfold intentI
  split
  · rfl
  · split
    · rfl
    · rfl
end Go.Proofs.YteghcgiclpbkdaaDoor
