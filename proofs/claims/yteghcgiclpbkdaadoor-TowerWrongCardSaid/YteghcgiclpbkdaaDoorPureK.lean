/- Going keeps the invariant; who is told is whole by that. -/
import Derived.Test.YteghcgiclpbkdaaDoorPureJ
namespace Go.Proofs.YteghcgiclpbkdaaDoor
variable {P : Int → Prop} {E : Int → Thing → Prop} {σ : TS}

theorem promote_split (l : List (Int × Int)) : ∀ h : List (Int × Int), ∃ l1 l2, l = l1 ++ l2 ∧ promote h l = (h ++ l1, l2, l1.map Prod.fst) ∧ (∀ g t, l2 = g :: t → mayB (h ++ l1) g.2 = false) ∧
    (h.Pairwise (fun a b => fitsB a.2 b.2 = true) → (h ++ l1).Pairwise (fun a b => fitsB a.2 b.2 = true)) := by
  induction l with
  | nil => intro h; exact ⟨[], [], rfl, by simp [promote], by simp, by simp⟩
  | cons g l ih =>
    intro h
    unfold promote
    split
    · rename_i hm
      obtain ⟨l1, l2, e, hp, hh, hpw⟩ := ih (h ++ [g])
      refine ⟨g :: l1, l2, by rw [e]; rfl, by rw [hp]; simp, fun g2 t e2 => ?_, fun hpa => ?_⟩
      · have := hh g2 t e2
        simpa using this
      · have h2 : (h ++ [g]).Pairwise (fun a b => fitsB a.2 b.2 = true) := by
          rw [List.pairwise_append]
          exact ⟨hpa, by simp, fun a ha b hb => by
            simp only [List.mem_singleton] at hb; subst hb
            exact List.all_eq_true.1 hm a ha⟩
        have := hpw h2
        simpa using this
    · rename_i hm
      refine ⟨[], g :: l, rfl, by simp, fun g2 t e2 => ?_, by simp⟩
      simp only [List.cons.injEq] at e2
      rw [← e2.1, List.append_nil]
      simpa using hm

theorem Inv.wf (h : Inv P E σ) (hE : ∀ i x, E i x → i ∈ I12) : WF I12 σ := by
  refine ⟨fun x => ⟨h.q x, fun g hg => ?_⟩, fun i c hc => ?_⟩
  · rcases h.ent x g hg with e | ⟨c, hc, _⟩
    · exact hE _ _ e
    · exact (h.cl _ _ hc).id
  · have := h.cl _ _ hc
    refine ⟨this.id, this.asked, ?_⟩
    obtain ⟨ss, hs, e⟩ := this.way
    rw [e]; have := things_len hs; simp [wayOf]; omega
theorem Inv.wi (h : Inv P E σ) {o : Option Int} (hE : ∀ i x, E i x → some i = o) : WaitIn σ o := fun x g hg hne => by
  rcases h.ent x g (List.mem_append_right _ hg) with e | ⟨c, hc, _⟩
  · exact absurd (hE _ _ e) hne
  · rw [hc]; rfl

theorem stay_mem {id : Int} {l : List (Int × Int)} {g : Int × Int} : g ∈ stay id l ↔ g ∈ l ∧ g.1 ≠ id := by
  simp [stay]

theorem free_step (h : Inv (fun _ => False) E σ) {id : Int} {x : Thing} (hex : E id x) {E2 : Int → Thing → Prop} (hE1 : ∀ i y, E i y → i = id) (hE2 : ∀ y, y ≠ x → E id y → E2 id y) (hE3 : ∀ i y, E2 i y → E i y) :
    Inv (fun i => i ∈ (freeQ (σ.heldL x) (σ.waitL x) id).2.2) E2 (σ.setQ x ((freeQ (σ.heldL x) (σ.waitL x) id).1, (freeQ (σ.heldL x) (σ.waitL x) id).2.1)) ∧ (freeQ (σ.heldL x) (σ.waitL x) id).2.2.Nodup := by
  obtain ⟨l1, l2, el, ep, hhead, hpair⟩ := promote_split (stay id (σ.waitL x)) (stay id (σ.heldL x))
  have hnone := h.noE _ _ hex
  have ef : freeQ (σ.heldL x) (σ.waitL x) id = (stay id (σ.heldL x) ++ l1, l2, l1.map Prod.fst) := ep
  rw [ef]
  simp only
  have hqx : ((stay id (σ.heldL x) ++ (l1 ++ l2)).map Prod.fst).Nodup := by
    rw [← el, show stay id (σ.heldL x) ++ stay id (σ.waitL x) = stay id (σ.heldL x ++ σ.waitL x) by simp [stay]]
    exact (h.q x).sublist (List.filter_sublist.map _)
  have hH : ∀ y, (σ.setQ x (stay id (σ.heldL x) ++ l1, l2)).heldL y = if y = x then stay id (σ.heldL x) ++ l1 else σ.heldL y := fun y => by
    unfold TS.heldL; rw [getQ_setQ']; split <;> rfl
  have hW : ∀ y, (σ.setQ x (stay id (σ.heldL x) ++ l1, l2)).waitL y = if y = x then l2 else σ.waitL y := fun y => by
    unfold TS.waitL; rw [getQ_setQ']; split <;> rfl
  have hwait : ∀ g ∈ l1 ++ l2, g ∈ σ.waitL x ∧ g.1 ≠ id := fun g hg => by rw [← el] at hg; exact stay_mem.1 hg
  have hkH : ∀ i, i ≠ id → ∀ y g, g ∈ σ.heldL y → g.1 = i → g ∈ (σ.setQ x (stay id (σ.heldL x) ++ l1, l2)).heldL y := fun i hi y g hg e => by
    rw [hH]; split
    · rename_i e2; subst e2
      exact List.mem_append_left _ (stay_mem.2 ⟨hg, e ▸ hi⟩)
    · exact hg
  have hsome : ∀ i c, σ.who i = some c → i ≠ id := fun i c hc e => by subst e; rw [hnone] at hc; simp at hc
  refine ⟨⟨fun y => ?_, fun y => ?_, fun y g l hg => ?_, fun y g hg => ?_, h.cl, fun i hi => ?_, fun i c hc hni => ?_, fun i y he => h.noE i y (hE3 i y he)⟩, ?_⟩
  · rw [hH, hW]; split
    · rw [List.append_assoc]; exact hqx
    · exact h.q y
  · rw [hH]; split
    · exact hpair ((h.pair x).sublist List.filter_sublist)
    · exact h.pair y
  · rw [hW] at hg; rw [hH]; split at hg
    · rename_i e; rw [if_pos e]; exact hhead g l hg
    · rename_i e; rw [if_neg e]; exact h.head y g l hg
  · have hold : g ∈ σ.heldL y ++ σ.waitL y → (y = x → g.1 ≠ id) → E2 g.1 y ∨ ∃ c, σ.who g.1 = some c ∧ ∃ j, j < c.asked ∧ c.way[j]? = some y ∧ g.2 = modeOf c j := fun hg hne => by
      rcases h.ent y g hg with e | e
      · have e1 := hE1 _ _ e
        rw [e1] at e
        rw [e1]
        exact .inl (hE2 y (fun e2 => hne e2 e1) e)
      · exact .inr e
    rw [hH, hW] at hg
    split at hg
    · rename_i e; subst e
      rw [List.append_assoc] at hg
      rcases List.mem_append.1 hg with hg | hg
      · exact hold (List.mem_append_left _ (stay_mem.1 hg).1) (fun _ => (stay_mem.1 hg).2)
      · exact hold (List.mem_append_right _ (hwait g hg).1) (fun _ => (hwait g hg).2)
    · rename_i e; exact hold hg (fun e2 => absurd e2 e)
  · obtain ⟨g, hg, rfl⟩ := List.mem_map.1 hi
    obtain ⟨hgw, hgi⟩ := hwait g (List.mem_append_left _ hg)
    rcases h.ent x g (List.mem_append_right _ hgw) with e | ⟨c, hc, j, hj, hjx, hm⟩
    · exact absurd (hE1 _ _ e) hgi
    · refine ⟨c, hc, ?_⟩
      have hdn := h.done _ _ hc (by simp)
      rcases hdn with ⟨_, _, hto⟩ | ⟨hw, j2, y, ha, hy, hto, hwt⟩
      · exact False.elim (not_both (h.q x) (hto j x hj hjx) hgw rfl)
      · have hjj : j = j2 := by
          by_cases hlt : j < j2
          · exact False.elim (not_both (h.q x) (hto j x hlt hjx) hgw rfl)
          · omega
        subst hjj
        refine ⟨hw, fun k z hk hz => ?_⟩
        by_cases e : k = j
        · subst e
          have : z = x := by rw [hjx] at hz; exact (Option.some.inj hz).symm
          subst this
          rw [hH, if_pos rfl, ← hm]
          exact List.mem_append_right _ hg
        · exact hkH _ hgi _ _ (hto k z (by omega) hz) rfl
  · have hne := hsome i c hc
    refine (h.done i c hc (by simp)).keep (fun y g hg e => hkH i hne y g hg e) (fun y g hg e => ?_)
    rw [hW]; split
    · rename_i e2; subst e2
      have hs : g ∈ stay id (σ.waitL y) := stay_mem.2 ⟨hg, e ▸ hne⟩
      rw [el] at hs
      rcases List.mem_append.1 hs with hs | hs
      · exact absurd (List.mem_map.2 ⟨g, hs, e⟩) hni
      · exact hs
    · exact hg
  · rw [List.map_append, List.nodup_append] at hqx
    have := hqx.2.1
    rw [List.map_append, List.nodup_append] at this
    exact this.1

theorem freeN_cons (id : Int) (way : List Thing) (k : Nat) (σ : TS) {x : Thing} (hx : way.getD k nothing = x) : freeN id way (k + 1) σ =
    ((freeN id way k (onAll (freeQ (σ.heldL x) (σ.waitL x) id).2.2 (σ.setQ x ((freeQ (σ.heldL x) (σ.waitL x) id).1, (freeQ (σ.heldL x) (σ.waitL x) id).2.1))).1).1,
      (onAll (freeQ (σ.heldL x) (σ.waitL x) id).2.2 (σ.setQ x ((freeQ (σ.heldL x) (σ.waitL x) id).1, (freeQ (σ.heldL x) (σ.waitL x) id).2.1))).2 ++ (freeN id way k (onAll (freeQ (σ.heldL x) (σ.waitL x) id).2.2 (σ.setQ x ((freeQ (σ.heldL x) (σ.waitL x) id).1, (freeQ (σ.heldL x) (σ.waitL x) id).2.1))).1).2) := by subst hx; rfl

theorem freeN_inv {id : Int} (hid : id ∈ I12) {way : List Thing} (hnd : way.Nodup) : ∀ (k : Nat) {σ : TS}, k ≤ way.length → σ.who id = none → Inv (fun _ => False) (fun i y => i = id ∧ y ∈ way.take k) σ →
    Inv (fun _ => False) (fun _ _ => False) (freeN id way k σ).1 ∧ (∀ j, (freeN id way k σ).1.wholeB j = (σ.wholeB j || decide (j ∈ (freeN id way k σ).2))) ∧ (∀ j ∈ (freeN id way k σ).2, σ.wholeB j = false) ∧ (freeN id way k σ).2.Nodup ∧ ∀ j, ((freeN id way k σ).1.who j).isSome = (σ.who j).isSome
  | 0, σ, _, _, h => ⟨⟨h.q, h.pair, h.head, fun y g hg => by
      rcases h.ent y g hg with e | e
      · simp at e
      · exact .inr e, h.cl, h.pend, h.done, by simp⟩, by simp [freeN], by simp [freeN], by simp [freeN], fun _ => rfl⟩
  | k + 1, σ, hk, hno, h => by
    obtain ⟨x, hx⟩ : ∃ x, way.getD k nothing = x := ⟨_, rfl⟩
    have hxk : way[k]? = some x := by
      rw [List.getD_eq_getElem?_getD] at hx
      rw [List.getElem?_eq_getElem (by omega)] at hx ⊢
      simpa using hx
    have htk : way.take (k + 1) = way.take k ++ [x] := by
      rw [List.take_add_one, hxk]; rfl
    rw [freeN_cons id way k σ hx]
    obtain ⟨h1, hn1⟩ := free_step h (id := id) (x := x) ⟨rfl, by rw [htk]; simp⟩ (E2 := fun i y => i = id ∧ y ∈ way.take k) (fun i y e => e.1)
      (fun y hy e => ⟨rfl, by have := e.2; rw [htk] at this; rcases List.mem_append.1 this with h | h; exact h; simp at h; exact absurd h hy⟩)
      (fun i y e => ⟨e.1, by rw [htk]; exact List.mem_append_left _ e.2⟩)
    obtain ⟨out, hout⟩ : ∃ out, (freeQ (σ.heldL x) (σ.waitL x) id).2.2 = out := ⟨_, rfl⟩
    obtain ⟨σ1, hσ1⟩ : ∃ σ1, σ.setQ x ((freeQ (σ.heldL x) (σ.waitL x) id).1, (freeQ (σ.heldL x) (σ.waitL x) id).2.1) = σ1 := ⟨_, rfl⟩
    have hw1 : ∀ j, σ1.who j = σ.who j := fun j => by rw [← hσ1]; rfl
    rw [hout, hσ1] at h1 ⊢
    rw [hout] at hn1
    have hwb1 : ∀ j, σ1.wholeB j = σ.wholeB j := fun j => by unfold TS.wholeB; rw [hw1]
    obtain ⟨h2, hwb2, hin2, hn2⟩ := onAll_inv out hn1 h1
    have hs2 := (onAll_ok (I := I12) (o := some id) out (h1.wf (fun i y e => e.1 ▸ hid)) (h1.wi (fun i y e => by rw [e.1]))).2.2
    have hno2 : (onAll out σ1).1.who id = none := by
      have := hs2 id
      rw [hw1, hno] at this
      simpa using this
    obtain ⟨h3, hwb3, hf3, hn3, hs3⟩ := freeN_inv hid hnd k (by omega) hno2 h2
    refine ⟨h3, fun j => ?_, fun j hj => ?_, ?_, fun j => by rw [hs3, hs2, hw1]⟩
    · rw [hwb3, hwb2, hwb1]
      simp only [List.mem_append, Bool.decide_or, Bool.or_assoc]
    · rcases List.mem_append.1 hj with hj | hj
      · rw [← hwb1]; exact h1.wholeF (hin2 j hj)
      · have := hf3 j hj
        rw [hwb2, hwb1] at this
        simp at this
        exact this.1
    · rw [List.nodup_append]
      refine ⟨hn2, hn3, fun a ha b hb e => ?_⟩
      subst e
      have := hf3 a hb
      rw [hwb2] at this
      simp [ha] at this
end Go.Proofs.YteghcgiclpbkdaaDoor
