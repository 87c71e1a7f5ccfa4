/- What stays true of towers: no id stands twice in a queue, climbs are within their ways. -/
import Derived.Test.YteghcgiclpbkdaaDoorPureQ
namespace Go.Proofs.YteghcgiclpbkdaaDoor

def QOK (I : List Int) (q : List (Int × Int) × List (Int × Int)) : Prop := ((q.1 ++ q.2).map Prod.fst).Nodup ∧ ∀ g ∈ q.1 ++ q.2, g.1 ∈ I

theorem nodup_len {I : List Int} : ∀ {l : List Int}, l.Nodup → (∀ x ∈ l, x ∈ I) → l.length ≤ I.length := by
  intro l
  induction l generalizing I with
  | nil => intro _ _; simp
  | cons a l ih =>
    intro hn hs
    rw [List.nodup_cons] at hn
    have ha : a ∈ I := hs a (by simp)
    have := ih (I := I.erase a) hn.2 (fun x hx => by
      have h1 : x ≠ a := fun e => hn.1 (e ▸ hx)
      exact (List.mem_erase_of_ne h1).2 (hs x (by simp [hx])))
    rw [List.length_erase_of_mem ha] at this
    have : 0 < I.length := List.length_pos_of_mem ha
    simp; omega
theorem QOK.len {I : List Int} {q : List (Int × Int) × List (Int × Int)} (h : QOK I q) : q.1.length + q.2.length ≤ I.length := by
  have := nodup_len h.1 (fun x hx => by
    obtain ⟨g, hg, rfl⟩ := List.mem_map.1 hx
    exact h.2 g hg)
  simpa using this

theorem thereB_iff (h l : List (Int × Int)) (id : Int) : thereB h l id = true ↔ id ∈ (h ++ l).map Prod.fst := by
  simp [thereB, List.any_eq_true]

theorem askQ_ok {I : List Int} {h l : List (Int × Int)} (hq : QOK I (h, l)) {id m : Int} (hi : id ∈ I) : QOK I (askQ h l id m).2 := by
  unfold askQ
  split
  · exact hq
  · rename_i hc
    have hn : id ∉ (h ++ l).map Prod.fst := fun e => hc (.inr ((thereB_iff h l id).2 e))
    have key : ((h ++ l ++ [(id, m)]).map Prod.fst).Nodup ∧ ∀ g ∈ h ++ l ++ [(id, m)], g.1 ∈ I := by
      constructor
      · rw [List.map_append, List.nodup_append]
        exact ⟨hq.1, by simp, fun a ha b hb e => by
          simp at hb; subst hb; subst e; exact hn ha⟩
      · intro g hg
        rcases List.mem_append.1 hg with hg | hg
        · exact hq.2 g hg
        · simp at hg; subst hg; exact hi
    split
    · rename_i hl
      have : l = [] := hl.1
      subst this
      simpa [QOK] using key
    · simpa [QOK, List.append_assoc] using key

theorem promote_append (l : List (Int × Int)) : ∀ h, (promote h l).1 ++ (promote h l).2.1 = h ++ l := by
  induction l with
  | nil => intro h; simp [promote]
  | cons g l ih =>
    intro h
    unfold promote
    split
    · have := ih (h ++ [g]); simpa using this
    · rfl
theorem promote_out (l : List (Int × Int)) : ∀ h, (promote h l).2.2 ++ (promote h l).2.1.map Prod.fst = l.map Prod.fst := by
  induction l with
  | nil => intro h; simp [promote]
  | cons g l ih =>
    intro h
    unfold promote
    split
    · simp [ih (h ++ [g])]
    · simp
theorem promote_wait (l : List (Int × Int)) : ∀ h g, g ∈ (promote h l).2.1 → g ∈ l := by
  induction l with
  | nil => intro h g hg; simp [promote] at hg
  | cons a l ih =>
    intro h g hg
    unfold promote at hg
    split at hg
    · exact List.mem_cons_of_mem _ (ih _ g hg)
    · exact hg

theorem freeQ_ok {I : List Int} {h l : List (Int × Int)} (hq : QOK I (h, l)) (id : Int) : QOK I ((freeQ h l id).1, (freeQ h l id).2.1) := by
  unfold freeQ QOK
  simp only
  rw [promote_append]
  have hs : (stay id h ++ stay id l).Sublist (h ++ l) := List.Sublist.append List.filter_sublist List.filter_sublist
  exact ⟨(hs.map _).nodup hq.1, fun g hg => hq.2 g (hs.subset hg)⟩
theorem freeQ_out {h l : List (Int × Int)} {id x : Int} (hx : x ∈ (freeQ h l id).2.2) : x ≠ id ∧ ∃ g ∈ l, g.1 = x := by
  have := promote_out (stay id l) (stay id h)
  have hm : x ∈ (stay id l).map Prod.fst := by
    rw [← this]; exact List.mem_append_left _ hx
  obtain ⟨g, hg, rfl⟩ := List.mem_map.1 hm
  simp only [stay, List.mem_filter] at hg
  refine ⟨fun e => ?_, g, hg.1, rfl⟩
  have := hg.2
  simp [e] at this
theorem freeQ_wait {h l : List (Int × Int)} {id : Int} {g : Int × Int} (hg : g ∈ (freeQ h l id).2.1) : g ∈ l ∧ g.1 ≠ id := by
  have := promote_wait _ _ g hg
  simp only [stay, List.mem_filter] at this
  exact ⟨this.1, fun e => by have := this.2; simp [e] at this⟩

structure WF (I : List Int) (σ : TS) : Prop where
  q : ∀ x, QOK I (σ.getQ x)
  c : ∀ i c, σ.who i = some c → i ∈ I ∧ c.asked ≤ c.way.length ∧ c.way.length ≤ 3

theorem getQ_setQ' (σ : TS) (x y : Thing) (a : List (Int × Int) × List (Int × Int)) : (σ.setQ x a).getQ y = if y = x then a else σ.getQ y := by
  by_cases e : y = x <;> simp [TS.getQ, TS.setQ, e]

theorem WF.setQ {I : List Int} {σ : TS} (h : WF I σ) {x : Thing} {a : List (Int × Int) × List (Int × Int)} (ha : QOK I a) : WF I (σ.setQ x a) :=
  ⟨fun y => by rw [getQ_setQ']; split; exact ha; exact h.q y, h.c⟩
theorem WF.setC {I : List Int} {σ : TS} (h : WF I σ) {i : Int} {c : Climb} (hi : i ∈ I) (h1 : c.asked ≤ c.way.length) (h2 : c.way.length ≤ 3) : WF I (σ.setC i (some c)) :=
  ⟨h.q, fun j d hj => by
    by_cases e : j = i
    · subst e
      simp only [TS.setC, if_true, Option.some.injEq] at hj
      subst hj; exact ⟨hi, h1, h2⟩
    · simp only [TS.setC, e, if_false] at hj; exact h.c j d hj⟩
theorem WF.delC {I : List Int} {σ : TS} (h : WF I σ) (i : Int) : WF I (σ.setC i none) :=
  ⟨h.q, fun j d hj => by
    by_cases e : j = i
    · subst e; simp [TS.setC] at hj
    · simp only [TS.setC, e, if_false] at hj; exact h.c j d hj⟩

theorem askT_ok {I : List Int} {σ : TS} (h : WF I σ) {id : Int} {c : Climb} (hc : σ.who id = some c) (hlt : c.asked < c.way.length) : WF I (askT σ id c).1 := by
  obtain ⟨hi, h1, h2⟩ := h.c id c hc
  exact (h.setQ (askQ_ok (h.q _) hi)).setC hi hlt h2
theorem askT_who (σ : TS) (id : Int) (c : Climb) (j : Int) : (askT σ id c).1.who j = if j = id then some { c with asked := c.asked + 1 } else σ.who j := rfl

/-- Those who wait, but one of whom it is not asked, are there. -/
def WaitIn (σ : TS) (id : Option Int) : Prop := ∀ x g, g ∈ (σ.getQ x).2 → some g.1 ≠ id → (σ.who g.1).isSome
theorem askQ_wait {h l : List (Int × Int)} {id m : Int} {g : Int × Int} (hg : g ∈ (askQ h l id m).2.2) : g ∈ l ∨ g.1 = id := by
  unfold askQ at hg
  split at hg
  · exact .inl hg
  · split at hg
    · exact .inl hg
    · rcases List.mem_append.1 hg with h | h
      · exact .inl h
      · simp at h; exact .inr (by rw [h])
theorem askT_waitIn {σ : TS} {o : Option Int} (h : WaitIn σ o) {id : Int} {c : Climb} : WaitIn (askT σ id c).1 o := by
  intro x g hg hne
  rw [askT_who]
  by_cases e : g.1 = id
  · simp [e]
  · simp only [e, if_false]
    have : ((askT σ id c).1.getQ x) = if x = c.way.getD c.asked nothing then (askQ (σ.getQ (c.way.getD c.asked nothing)).1 (σ.getQ (c.way.getD c.asked nothing)).2 id (modeAt c)).2 else σ.getQ x := getQ_setQ' σ _ x _
    rw [this] at hg
    split at hg
    · rcases askQ_wait hg with h1 | h1
      · exact h _ g h1 hne
      · exact absurd h1 e
    · exact h x g hg hne

theorem onN_ok {I : List Int} : ∀ (n : Nat) {σ : TS} {o : Option Int} {id : Int} {c : Climb}, WF I σ → WaitIn σ o → σ.who id = some c → c.asked + n = c.way.length →
    WF I (onN n σ id).1 ∧ WaitIn (onN n σ id).1 o ∧ ∀ j, ((onN n σ id).1.who j).isSome = (σ.who j).isSome
  | 0, σ, o, id, c, h, hw, hc, hn => by
    unfold onN; rw [hc]
    obtain ⟨hi, h1, h2⟩ := h.c id c hc
    have hd : ∀ j, ((σ.setC id (some { c with whole := true })).who j).isSome = (σ.who j).isSome := fun j => by
      by_cases e : j = id
      · subst e; simp [TS.setC, hc]
      · simp [TS.setC, e]
    exact ⟨h.setC hi h1 h2, fun x g hg hne => by
      show ((σ.setC id (some { c with whole := true })).who g.1).isSome = true
      rw [hd]; exact hw x g hg hne, hd⟩
  | n + 1, σ, o, id, c, h, hw, hc, hn => by
    unfold onN; rw [hc]
    simp only
    have h1 := askT_ok h hc (by omega)
    have h2 := askT_waitIn hw (id := id) (c := c)
    have hd : ∀ j, ((askT σ id c).1.who j).isSome = (σ.who j).isSome := fun j => by
      rw [askT_who]
      by_cases e : j = id
      · subst e; simp [hc]
      · simp [e]
    split
    · obtain ⟨a, b, d⟩ := onN_ok n h1 h2 (id := id) (c := { c with asked := c.asked + 1 }) (by rw [askT_who]; simp) (by show c.asked + 1 + n = c.way.length; omega)
      exact ⟨a, b, fun j => (d j).trans (hd j)⟩
    · exact ⟨h1, h2, hd⟩
theorem onT_ok {I : List Int} {σ : TS} {o : Option Int} (id : Int) (h : WF I σ) (hw : WaitIn σ o) :
    WF I (onT σ id).1 ∧ WaitIn (onT σ id).1 o ∧ ∀ j, ((onT σ id).1.who j).isSome = (σ.who j).isSome := by
  unfold onT
  cases hc : σ.who id with
  | none => exact ⟨h, hw, fun _ => rfl⟩
  | some c =>
    obtain ⟨_, h1, _⟩ := h.c id c hc
    exact onN_ok _ h hw hc (by omega)
theorem onAll_ok {I : List Int} {o : Option Int} : ∀ (xs : List Int) {σ : TS}, WF I σ → WaitIn σ o → WF I (onAll xs σ).1 ∧ WaitIn (onAll xs σ).1 o ∧ ∀ j, ((onAll xs σ).1.who j).isSome = (σ.who j).isSome
  | [], σ, h, hw => ⟨h, hw, fun _ => rfl⟩
  | x :: xs, σ, h, hw => by
    obtain ⟨a, b, d⟩ := onT_ok x h hw
    obtain ⟨a2, b2, d2⟩ := onAll_ok xs a b
    exact ⟨a2, b2, fun j => (d2 j).trans (d j)⟩
theorem setQ_free_waitIn {σ : TS} {o : Option Int} (h : WaitIn σ o) (x : Thing) (id : Int) : WaitIn (σ.setQ x ((freeQ (σ.getQ x).1 (σ.getQ x).2 id).1, (freeQ (σ.getQ x).1 (σ.getQ x).2 id).2.1)) o := by
  intro y g hg hne
  rw [getQ_setQ'] at hg
  split at hg
  · exact h x g (freeQ_wait hg).1 hne
  · exact h y g hg hne
theorem freeN_ok {I : List Int} (id : Int) (way : List Thing) : ∀ (k : Nat) {σ : TS} {o : Option Int}, WF I σ → WaitIn σ o → WF I (freeN id way k σ).1 ∧ WaitIn (freeN id way k σ).1 o ∧ ∀ j, ((freeN id way k σ).1.who j).isSome = (σ.who j).isSome
  | 0, σ, o, h, hw => ⟨h, hw, fun _ => rfl⟩
  | k + 1, σ, o, h, hw => by
    have h1 := h.setQ (x := way.getD k nothing) (freeQ_ok (h.q (way.getD k nothing)) id)
    have h2 := setQ_free_waitIn hw (way.getD k nothing) id
    obtain ⟨a, b, d⟩ := onAll_ok (freeQ (σ.getQ (way.getD k nothing)).1 (σ.getQ (way.getD k nothing)).2 id).2.2 h1 h2
    obtain ⟨a2, b2, d2⟩ := freeN_ok id way k a b
    exact ⟨a2, b2, fun j => (d2 j).trans (d j)⟩
end Go.Proofs.YteghcgiclpbkdaaDoor
