/- What can come of deeds keeps the invariant; the laws of towers. -/
import Derived.Test.YteghcgiclpbkdaaDoorPureK
namespace Go.Proofs.YteghcgiclpbkdaaDoor
variable {σ : TS}
def InvS (σ : TS) : Prop := Inv (fun _ => False) (fun _ _ => False) σ

theorem inv_empty : InvS TS.empty :=
  ⟨fun x => by simp [TS.heldL, TS.waitL, TS.getQ, TS.empty], fun x => by simp [TS.heldL, TS.getQ, TS.empty], fun x g l h => by simp [TS.waitL, TS.getQ, TS.empty] at h, fun x g h => by simp [TS.heldL, TS.waitL, TS.getQ, TS.empty] at h,
    fun i c h => by simp [TS.empty] at h, by simp, fun i c h => by simp [TS.empty] at h, by simp⟩

theorem start_inv (h : InvS σ) {id : Int} (hid : id ∈ I12) {ss : List ByteArray} (hs : ss ∈ thingsL) {m : Int} (hm : 1 ≤ m ∧ m ≤ 4) (ht : σ.there id = false) :
    InvS (startT σ id ss m).1 ∧ (startT σ id ss m).1.wholeB id = (startT σ id ss m).2 := by
  have hno : σ.who id = none := by simpa [TS.there] using ht
  have hwho : ∀ j, (σ.setC id (some ⟨wayOf ss, m, 0, false⟩)).who j = if j = id then some ⟨wayOf ss, m, 0, false⟩ else σ.who j := fun j => rfl
  have h1 : Inv (fun i => i = id) (fun _ _ => False) (σ.setC id (some ⟨wayOf ss, m, 0, false⟩)) := by
    refine ⟨h.q, h.pair, h.head, fun x g hg => ?_, fun i c hc => ?_, fun i hi => ?_, fun i c hc hni => ?_, by simp⟩
    · rcases h.ent x g hg with e | ⟨c, hc, e⟩
      · exact .inl e
      · refine .inr ⟨c, ?_, e⟩
        rw [hwho, if_neg (fun e => by rw [e, hno] at hc; simp at hc)]; exact hc
    · rw [hwho] at hc
      split at hc
      · rename_i e; subst e
        obtain rfl := Option.some.inj hc
        exact ⟨⟨ss, hs, rfl⟩, hm, hid, Nat.zero_le _⟩
      · exact h.cl _ _ hc
    · subst hi
      exact ⟨_, by rw [hwho, if_pos rfl], rfl, fun j x hj => absurd hj (Nat.not_lt_zero _)⟩
    · rw [hwho, if_neg hni] at hc
      exact h.done i c hc (by simp)
  obtain ⟨a, b, _⟩ := onT_inv h1 rfl
  refine ⟨?_, b⟩
  have e : (fun i : Int => i = id ∧ i ≠ id) = (fun _ => False) := by funext i; simp
  rw [e] at a
  exact a

theorem way_nodup (ss : List ByteArray) : (wayOf ss).Nodup := by
  unfold wayOf
  rw [List.nodup_iff_pairwise_ne, List.pairwise_map]
  refine (List.nodup_range.imp_of_mem (R := (· ≠ ·)) ?_)
  intro a b ha hb hne e
  have : (thingOf (ss.take a)).n = (thingOf (ss.take b)).n := by rw [e]
  simp only [List.mem_range] at ha hb
  simp only [thingOf, List.length_take] at this
  omega

theorem freeT_facts (h : InvS σ) {id : Int} (hid : id ∈ I12) :
    InvS (freeT σ id).1 ∧ (freeT σ id).1.who id = none ∧ (∀ j, j ≠ id → (freeT σ id).1.wholeB j = (σ.wholeB j || decide (j ∈ (freeT σ id).2))) ∧
    (∀ j ∈ (freeT σ id).2, σ.wholeB j = false ∧ j ≠ id) ∧ (freeT σ id).2.Nodup ∧ ∀ j, j ≠ id → ((freeT σ id).1.who j).isSome = (σ.who j).isSome := by
  unfold freeT
  cases hc : σ.who id with
  | none => exact ⟨h, hc, by simp, by simp, by simp, fun _ _ => rfl⟩
  | some c =>
    simp only
    obtain ⟨ss, hs, hway⟩ := (h.cl _ _ hc).way
    have hask := (h.cl _ _ hc).asked
    have hwho : ∀ j, (σ.setC id none).who j = if j = id then none else σ.who j := fun j => rfl
    have h1 : Inv (fun _ => False) (fun i y => i = id ∧ y ∈ c.way.take c.asked) (σ.setC id none) := by
      refine ⟨h.q, h.pair, h.head, fun x g hg => ?_, fun i d hd => ?_, by simp, fun i d hd hni => ?_, fun i x e => by rw [e.1]; simp [hwho]⟩
      · rcases h.ent x g hg with e | ⟨d, hd, j, hj, hjx, hm⟩
        · exact False.elim e
        · by_cases e : g.1 = id
          · rw [e, hc] at hd
            obtain rfl := Option.some.inj hd
            refine .inl ⟨e, ?_⟩
            rw [List.mem_iff_getElem?]
            exact ⟨j, by rw [List.getElem?_take, if_pos hj]; exact hjx⟩
          · exact .inr ⟨d, by rw [hwho, if_neg e]; exact hd, j, hj, hjx, hm⟩
      · rw [hwho] at hd
        split at hd
        · simp at hd
        · exact h.cl _ _ hd
      · rw [hwho] at hd
        split at hd
        · simp at hd
        · exact h.done i d hd (by simp)
    obtain ⟨a, b, d, e, f⟩ := freeN_inv hid (by rw [hway]; exact way_nodup ss) c.asked hask (by simp [hwho]) h1
    have hnone : (freeN id c.way c.asked (σ.setC id none)).1.who id = none := by
      have := f id
      simpa [hwho] using this
    have hwb : ∀ j, j ≠ id → (σ.setC id none).wholeB j = σ.wholeB j := fun j hj => by unfold TS.wholeB; rw [hwho, if_neg hj]
    have hne : ∀ j ∈ (freeN id c.way c.asked (σ.setC id none)).2, j ≠ id := fun j hj e2 => by
      subst e2
      have := b j
      simp [hj, TS.wholeB, hnone] at this
    refine ⟨a, hnone, fun j hj => by rw [b, hwb j hj], fun j hj => ⟨?_, hne j hj⟩, e, fun j hj => by rw [f, hwho, if_neg hj]⟩
    rw [← hwb j (hne j hj)]; exact d j hj

theorem step_inv (h : InvS σ) {a : Deed} (ha : a.OK) : InvS (stepD σ a) := by
  unfold stepD
  split
  · split
    · exact h
    · rename_i ht
      exact (start_inv h (Deed.id_mem ha) (Deed.names_mem ha) Deed.mode_ok (by simpa using ht)).1
  · exact (freeT_facts h (Deed.id_mem ha)).1
theorem reach_inv (h : Reach σ) : InvS σ := by
  obtain ⟨l, hl, rfl⟩ := h
  suffices ∀ (l : List Deed) (σ : TS), (∀ a ∈ l, a.OK) → InvS σ → InvS (l.foldl stepD σ) from this l _ hl inv_empty
  intro l
  induction l with
  | nil => intro σ _ h; exact h
  | cons a l ih => intro σ hl h; exact ih _ (fun b hb => hl b (List.mem_cons_of_mem _ hb)) (step_inv h (hl a (by simp)))
theorem InvS.wf (h : InvS σ) : WF I12 σ := Inv.wf h (by simp)
theorem InvS.wi (h : InvS σ) : WaitIn σ none := Inv.wi h (by simp)

/-! ### the laws -/
theorem InvS.mode (h : InvS σ) {x : Thing} {g : Int × Int} (hg : g ∈ σ.heldL x ++ σ.waitL x) : 1 ≤ g.2 ∧ g.2 ≤ 4 := by
  rcases h.ent x g hg with e | ⟨c, hc, j, _, _, hm⟩
  · exact False.elim e
  · rw [hm]; exact modeOf_ok (h.cl _ _ hc) j
theorem fits_sym {a b : Int} (ha : 1 ≤ a ∧ a ≤ 4) (hb : 1 ≤ b ∧ b ≤ 4) (h : fitsB a b = true) : fitsB b a = true := by
  have ha' : a = 1 ∨ a = 2 ∨ a = 3 ∨ a = 4 := by omega
  have hb' : b = 1 ∨ b = 2 ∨ b = 3 ∨ b = 4 := by omega
  rcases ha' with rfl | rfl | rfl | rfl <;> rcases hb' with rfl | rfl | rfl | rfl <;> simp_all [fitsB]
theorem safe_goes (h : InvS σ) (x : Thing) {k j : Nat} (hk : k < (σ.heldL x).length) (hj : j < k) : fitsB (σ.heldL x)[k].2 ((σ.heldL x)[j]'(by omega)).2 = true :=
  fits_sym (h.mode (List.mem_append_left _ (List.getElem_mem _))) (h.mode (List.mem_append_left _ (List.getElem_mem _))) (List.pairwise_iff_getElem.1 (h.pair x) j k (by omega) hk hj)

/-- One thing lies in another one. -/
def insideB (x y : List ByteArray) : Bool := decide (y.length > x.length) && (decide (x.length = 0) || decide (y[0]? = x[0]?))
theorem inside_way : ∀ x ∈ thingsL, ∀ y ∈ thingsL, insideB x y = true → ∀ ss ∈ thingsL, ∀ j ≤ ss.length, thingOf (ss.take j) = thingOf y → x.length < j ∧ thingOf (ss.take x.length) = thingOf x := by
  decide +kernel
theorem safe_in (h : InvS σ) {x y : List ByteArray} (hx : x ∈ thingsL) (hy : y ∈ thingsL) (hin : insideB x y = true) {g g2 : Int × Int} (hg : g ∈ σ.heldL (thingOf x)) (h4 : g.2 = 4) (hg2 : g2 ∈ σ.heldL (thingOf y)) : g2.1 = g.1 := by
  rcases h.ent _ g2 (List.mem_append_left _ hg2) with e | ⟨c, hc, j, hj, hjy, hm⟩
  · exact False.elim e
  · obtain ⟨ss, hs, hway⟩ := (h.cl _ _ hc).way
    rw [hway, way_get] at hjy
    obtain ⟨hlt, hth⟩ := inside_way x hx y hy hin ss hs j hjy.1 hjy.2.symm
    have hwx : c.way[x.length]? = some (thingOf x) := by rw [hway, way_get]; exact ⟨by omega, hth.symm⟩
    have hheld : (g2.1, modeOf c x.length) ∈ σ.heldL (thingOf x) := by
      rcases h.done _ _ hc (by simp) with ⟨_, _, hto⟩ | ⟨_, j2, z, ha, _, hto, _⟩
      · exact hto _ _ (by omega) hwx
      · exact hto _ _ (by omega) hwx
    by_cases e : g2.1 = g.1
    · exact e
    · exfalso
      have hmo := modeOf_ok (h.cl _ _ hc) x.length
      obtain ⟨a, ha, rfl⟩ := List.mem_iff_getElem.1 hg
      obtain ⟨b, hb, hb2⟩ := List.mem_iff_getElem.1 hheld
      have key : ∀ m : Int, 1 ≤ m ∧ m ≤ 4 → fitsB 4 m = true → False := fun m hm h => by simp [fitsB] at h
      rcases Nat.lt_trichotomy a b with hab | hab | hab
      · have := List.pairwise_iff_getElem.1 (h.pair (thingOf x)) a b ha hb hab
        rw [hb2, h4] at this
        exact key _ hmo this
      · subst hab; rw [hb2] at e; exact e rfl
      · have := fits_sym (by rw [hb2]; exact hmo) (by rw [h4]; omega) (List.pairwise_iff_getElem.1 (h.pair (thingOf x)) b a hb ha hab)
        rw [hb2, h4] at this
        exact key _ hmo this
end Go.Proofs.YteghcgiclpbkdaaDoor
