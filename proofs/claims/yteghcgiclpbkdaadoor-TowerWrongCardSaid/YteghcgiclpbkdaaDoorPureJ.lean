/- Asking and going on keep the invariant. -/
import Derived.Test.YteghcgiclpbkdaaDoorPureI
namespace Go.Proofs.YteghcgiclpbkdaaDoor
variable {P : Int → Prop} {E : Int → Thing → Prop} {σ : TS}

theorem COK.up {i : Int} {c : Climb} (h : COK i c) (hlt : c.asked < c.way.length) : COK i { c with asked := c.asked + 1 } := ⟨h.way, h.mode, h.id, hlt⟩

theorem ask_inv (h : Inv P E σ) {id : Int} (hp : P id) {c : Climb} (hc : σ.who id = some c) (hlt : c.asked < c.way.length) :
    ((askT σ id c).2 = true → Inv P E (askT σ id c).1) ∧ ((askT σ id c).2 = false → Inv (fun i => P i ∧ i ≠ id) E (askT σ id c).1 ∧ (askT σ id c).1.wholeB id = false) := by
  obtain ⟨x, hx⟩ : ∃ x, c.way[c.asked]? = some x := ⟨c.way[c.asked], by simp [hlt]⟩
  have hnt := h.not_there hc hx
  have hni : id ∉ (σ.heldL x ++ σ.waitL x).map Prod.fst := fun e => by rw [(thereB_iff _ _ _).2 e] at hnt; simp at hnt
  have hwho := askT_who σ id c
  obtain ⟨c0, hc0, hpe⟩ := h.pend id hp
  rw [hc] at hc0
  obtain rfl := Option.some.inj hc0
  have hcl : ∀ i d, (askT σ id c).1.who i = some d → COK i d := fun i d hd => by
    rw [hwho] at hd
    split at hd
    · rename_i e; subst e
      obtain rfl := Option.some.inj hd
      exact (h.cl _ _ hc).up hlt
    · exact h.cl _ _ hd
  have hnoE : ∀ i x, E i x → (askT σ id c).1.who i = none := fun i y he => by
    have := h.noE _ _ he
    rw [hwho]
    split
    · rename_i e; subst e; rw [hc] at this; simp at this
    · exact this
  rcases ask_cases h hc hx with ⟨h2, hw0, hmay, hH, hW⟩ | ⟨h2, hmay, hH, hW⟩
  · refine ⟨fun _ => ?_, fun e => by rw [h2] at e; simp at e⟩
    have hkH : ∀ y g, g ∈ σ.heldL y → g ∈ (askT σ id c).1.heldL y := fun y g hg => by
      rw [hH]; split
      · rename_i e; subst e; exact List.mem_append_left _ hg
      · exact hg
    have hkW : ∀ y g, g ∈ σ.waitL y → g ∈ (askT σ id c).1.waitL y := fun y g hg => by rw [hW]; exact hg
    refine ⟨fun y => ?_, fun y => ?_, fun y g l hg => ?_, fun y g hg => ?_, hcl, fun i hi => ?_, fun i d hd hni => ?_, hnoE⟩
    · rw [hH, hW]; split
      · rename_i e; subst e
        rw [hw0] at hni ⊢
        simp only [List.append_nil] at hni ⊢
        rw [List.map_append, List.nodup_append]
        have := h.q y
        rw [hw0, List.append_nil] at this
        exact ⟨this, by simp, fun a ha b hb e => by simp at hb; subst hb; subst e; exact hni ha⟩
      · exact h.q y
    · rw [hH]; split
      · rename_i e; subst e
        rw [List.pairwise_append]
        refine ⟨h.pair y, by simp, fun a ha b hb => ?_⟩
        simp only [List.mem_singleton] at hb; subst hb
        exact List.all_eq_true.1 hmay a ha
      · exact h.pair y
    · rw [hW] at hg
      rw [hH]; split
      · rename_i e; subst e; rw [hw0] at hg; simp at hg
      · exact h.head y g l hg
    · rw [hH, hW] at hg
      have hold : g ∈ σ.heldL y ++ σ.waitL y → E g.1 y ∨ ∃ d, (askT σ id c).1.who g.1 = some d ∧ ∃ j, j < d.asked ∧ d.way[j]? = some y ∧ g.2 = modeOf d j := fun hg => by
        rcases h.ent y g hg with e | ⟨d, hd, j, hj, hjx, hm⟩
        · exact .inl e
        · refine .inr ?_
          rw [hwho]
          split
          · rename_i e
            rw [e, hc] at hd
            obtain rfl := Option.some.inj hd
            exact ⟨_, rfl, j, Nat.lt_succ_of_lt hj, hjx, hm⟩
          · exact ⟨d, hd, j, hj, hjx, hm⟩
      split at hg
      · rename_i e; subst e
        rw [hw0, List.append_nil] at hg
        rcases List.mem_append.1 hg with hg | hg
        · exact hold (List.mem_append_left _ hg)
        · simp only [List.mem_singleton] at hg
          subst hg
          refine .inr ⟨{ c with asked := c.asked + 1 }, by rw [hwho]; simp, c.asked, Nat.lt_succ_self _, hx, rfl⟩
      · exact hold hg
    · obtain ⟨d, hd, hpd⟩ := h.pend i hi
      rw [hwho]
      split
      · rename_i e; subst e
        rw [hc] at hd
        obtain rfl := Option.some.inj hd
        refine ⟨_, rfl, hpd.1, fun j y hj hjy => ?_⟩
        have hj' : j < c.asked + 1 := hj
        by_cases e : j = c.asked
        · subst e
          have : y = x := by rw [hx] at hjy; exact (Option.some.inj hjy).symm
          subst this
          rw [hH, if_pos rfl]
          exact List.mem_append_right _ (List.mem_singleton.2 rfl)
        · exact hkH _ _ (hpd.2 j y (by omega) hjy)
      · exact ⟨d, hd, hpd.1, hpd.2.keep rfl rfl (fun y g hg _ => hkH y g hg)⟩
    · have hne : i ≠ id := fun e => hni (e ▸ hp)
      rw [hwho, if_neg hne] at hd
      exact (h.done i d hd hni).keep (fun y g hg _ => hkH y g hg) (fun y g hg _ => hkW y g hg)
  · refine ⟨fun e => by rw [h2] at e; simp at e, fun _ => ⟨?_, by simp [TS.wholeB, hwho, hpe.1]⟩⟩
    have hkH : ∀ y g, g ∈ σ.heldL y → g ∈ (askT σ id c).1.heldL y := fun y g hg => by rw [hH]; exact hg
    have hkW : ∀ y g, g ∈ σ.waitL y → g ∈ (askT σ id c).1.waitL y := fun y g hg => by
      rw [hW]; split
      · rename_i e; subst e; exact List.mem_append_left _ hg
      · exact hg
    refine ⟨fun y => ?_, fun y => ?_, fun y g l hg => ?_, fun y g hg => ?_, hcl, fun i hi => ?_, fun i d hd hni => ?_, hnoE⟩
    · rw [hH, hW]; split
      · rename_i e; subst e
        rw [← List.append_assoc, List.map_append, List.nodup_append]
        exact ⟨h.q y, by simp, fun a ha b hb e => by simp at hb; subst hb; subst e; exact hni ha⟩
      · exact h.q y
    · rw [hH]; exact h.pair y
    · rw [hW] at hg
      rw [hH]
      split at hg
      · rename_i e; subst e
        cases hw : σ.waitL y with
        | nil =>
          rw [hw] at hg
          simp only [List.nil_append, List.cons.injEq] at hg
          rw [← hg.1]; exact hmay hw
        | cons g2 l2 =>
          rw [hw] at hg
          simp only [List.cons_append, List.cons.injEq] at hg
          rw [← hg.1]; exact h.head y g2 l2 hw
      · exact h.head y g l hg
    · rw [hH, hW] at hg
      have hold : g ∈ σ.heldL y ++ σ.waitL y → E g.1 y ∨ ∃ d, (askT σ id c).1.who g.1 = some d ∧ ∃ j, j < d.asked ∧ d.way[j]? = some y ∧ g.2 = modeOf d j := fun hg => by
        rcases h.ent y g hg with e | ⟨d, hd, j, hj, hjx, hm⟩
        · exact .inl e
        · refine .inr ?_
          rw [hwho]
          split
          · rename_i e
            rw [e, hc] at hd
            obtain rfl := Option.some.inj hd
            exact ⟨_, rfl, j, Nat.lt_succ_of_lt hj, hjx, hm⟩
          · exact ⟨d, hd, j, hj, hjx, hm⟩
      split at hg
      · rename_i e; subst e
        rw [← List.append_assoc] at hg
        rcases List.mem_append.1 hg with hg | hg
        · exact hold hg
        · simp only [List.mem_singleton] at hg
          subst hg
          refine .inr ⟨{ c with asked := c.asked + 1 }, by rw [hwho]; simp, c.asked, Nat.lt_succ_self _, hx, rfl⟩
      · exact hold hg
    · obtain ⟨d, hd, hpd⟩ := h.pend i hi.1
      rw [hwho, if_neg hi.2]
      exact ⟨d, hd, hpd.1, hpd.2.keep rfl rfl (fun y g hg _ => hkH y g hg)⟩
    · by_cases e : i = id
      · subst e
        rw [hwho, if_pos rfl] at hd
        obtain rfl := Option.some.inj hd
        refine .inr ⟨hpe.1, c.asked, x, rfl, hx, fun j y hj hjy => hkH _ _ (hpe.2 j y hj hjy), ?_⟩
        rw [hW, if_pos rfl]
        exact List.mem_append_right _ (List.mem_singleton.2 rfl)
      · rw [hwho, if_neg e] at hd
        exact (h.done i d hd (fun hp2 => hni ⟨hp2, e⟩)).keep (fun y g hg _ => hkH y g hg) (fun y g hg _ => hkW y g hg)

theorem onN_inv : ∀ (n : Nat) {P : Int → Prop} {σ : TS} {id : Int} {c : Climb}, Inv P E σ → P id → σ.who id = some c → c.asked + n = c.way.length →
    Inv (fun i => P i ∧ i ≠ id) E (onN n σ id).1 ∧ (onN n σ id).1.wholeB id = (onN n σ id).2 ∧ ∀ j, j ≠ id → (onN n σ id).1.who j = σ.who j
  | 0, P, σ, id, c, h, hp, hc, hn => by
    unfold onN; rw [hc]
    obtain ⟨c0, hc0, hpe⟩ := h.pend id hp
    rw [hc] at hc0
    obtain rfl := Option.some.inj hc0
    have hwho : ∀ j, (σ.setC id (some { c with whole := true })).who j = if j = id then some { c with whole := true } else σ.who j := fun j => rfl
    refine ⟨⟨h.q, h.pair, h.head, fun y g hg => ?_, fun i d hd => ?_, fun i hi => ?_, fun i d hd hni => ?_, fun i x he => ?_⟩, ?_, fun j hj => by simp only [hwho, if_neg hj]⟩
    · rcases h.ent y g hg with e | ⟨d, hd, j, hj, hjx, hm⟩
      · exact .inl e
      · refine .inr ?_
        simp only [hwho]
        split
        · rename_i e
          rw [e, hc] at hd
          obtain rfl := Option.some.inj hd
          exact ⟨_, rfl, j, hj, hjx, hm⟩
        · exact ⟨d, hd, j, hj, hjx, hm⟩
    · simp only [hwho] at hd
      split at hd
      · rename_i e; subst e
        obtain rfl := Option.some.inj hd
        have := h.cl _ _ hc
        exact ⟨this.way, this.mode, this.id, this.asked⟩
      · exact h.cl _ _ hd
    · obtain ⟨d, hd, hpd⟩ := h.pend i hi.1
      refine ⟨d, ?_, hpd⟩
      simp only [hwho, if_neg hi.2]; exact hd
    · by_cases e : i = id
      · subst e
        simp only [hwho, if_pos] at hd
        obtain rfl := Option.some.inj hd
        exact .inl ⟨rfl, by show c.asked = c.way.length; omega, hpe.2⟩
      · simp only [hwho, if_neg e] at hd
        exact h.done i d hd (fun hp2 => hni ⟨hp2, e⟩)
    · have := h.noE _ _ he
      simp only [hwho]
      split
      · rename_i e; subst e; rw [hc] at this; simp at this
      · exact this
    · simp [TS.wholeB, hwho]
  | n + 1, P, σ, id, c, h, hp, hc, hn => by
    unfold onN; rw [hc]
    simp only
    obtain ⟨h1, h2⟩ := ask_inv h hp hc (by omega)
    have hwho := askT_who σ id c
    cases hr : (askT σ id c).2 with
    | true =>
      rw [if_pos rfl]
      obtain ⟨a, b, d⟩ := onN_inv n (h1 hr) hp (c := { c with asked := c.asked + 1 }) (by rw [hwho]; simp) (by show c.asked + 1 + n = c.way.length; omega)
      exact ⟨a, b, fun j hj => by rw [d j hj, hwho, if_neg hj]⟩
    | false =>
      rw [if_neg (by simp)]
      exact ⟨(h2 hr).1, (h2 hr).2, fun j hj => by simp only [hwho, if_neg hj]⟩
theorem onT_inv (h : Inv P E σ) {id : Int} (hp : P id) :
    Inv (fun i => P i ∧ i ≠ id) E (onT σ id).1 ∧ (onT σ id).1.wholeB id = (onT σ id).2 ∧ ∀ j, j ≠ id → (onT σ id).1.who j = σ.who j := by
  obtain ⟨c, hc, hpe⟩ := h.pend id hp
  have := (h.cl _ _ hc).asked
  unfold onT; rw [hc]
  exact onN_inv _ h hp hc (by omega)
theorem Inv.wholeF (h : Inv P E σ) {id : Int} (hp : P id) : σ.wholeB id = false := by
  obtain ⟨c, hc, hpe⟩ := h.pend id hp
  simp [TS.wholeB, hc, hpe.1]
theorem onAll_cons (x : Int) (xs : List Int) (σ : TS) : onAll (x :: xs) σ = ((onAll xs (onT σ x).1).1, (if (onT σ x).2 then [x] else []) ++ (onAll xs (onT σ x).1).2) := rfl
theorem onAll_inv : ∀ (xs : List Int) {σ : TS}, xs.Nodup → Inv (fun i => i ∈ xs) E σ →
    Inv (fun _ => False) E (onAll xs σ).1 ∧ (∀ j, (onAll xs σ).1.wholeB j = (σ.wholeB j || decide (j ∈ (onAll xs σ).2))) ∧ (∀ j ∈ (onAll xs σ).2, j ∈ xs) ∧ (onAll xs σ).2.Nodup
  | [], σ, _, h => ⟨⟨h.q, h.pair, h.head, h.ent, h.cl, by simp, fun i c hc _ => h.done i c hc (by simp), h.noE⟩, by simp [onAll], by simp [onAll], by simp [onAll]⟩
  | x :: xs, σ, hn, h => by
    rw [List.nodup_cons] at hn
    obtain ⟨a, b, d⟩ := onT_inv h (id := x) (by simp)
    have a' : Inv (fun i => i ∈ xs) E (onT σ x).1 := by
      have : (fun i => i ∈ x :: xs ∧ i ≠ x) = (fun i => i ∈ xs) := by
        funext i; apply propext
        constructor
        · rintro ⟨h1, h2⟩
          rcases List.mem_cons.1 h1 with h1 | h1
          · exact absurd h1 h2
          · exact h1
        · intro h1
          exact ⟨List.mem_cons_of_mem _ h1, fun e => hn.1 (e ▸ h1)⟩
      rw [← this]; exact a
    obtain ⟨a2, b2, d2, e2⟩ := onAll_inv xs hn.2 a'
    refine ⟨a2, fun j => ?_, fun j hj => ?_, ?_⟩
    · show (onAll xs (onT σ x).1).1.wholeB j = _
      rw [b2, onAll_cons]
      simp only
      by_cases e : j = x
      · subst e
        rw [b, h.wholeF (by simp)]
        have hnj : j ∉ (onAll xs (onT σ j).1).2 := fun h2 => hn.1 (d2 j h2)
        cases (onT σ j).2 <;> simp [hnj]
      · have : (onT σ x).1.wholeB j = σ.wholeB j := by unfold TS.wholeB; rw [d j e]
        rw [this]
        cases (onT σ x).2 <;> simp [e]
    · rw [onAll_cons] at hj
      simp only at hj
      rcases List.mem_append.1 hj with h1 | h1
      · split at h1
        · simp at h1; simp [h1]
        · simp at h1
      · exact List.mem_cons_of_mem _ (d2 j h1)
    · rw [onAll_cons]
      simp only
      split
      · simp only [List.singleton_append, List.nodup_cons]
        exact ⟨fun h2 => hn.1 (d2 x h2), e2⟩
      · simpa using e2
end Go.Proofs.YteghcgiclpbkdaaDoor
