/- What holds of a tower behind deeds: where each climb stands, what lies in the queues. -/
import Derived.Test.YteghcgiclpbkdaaDoorPureD
namespace Go.Proofs.YteghcgiclpbkdaaDoor

def modeOf (c : Climb) (j : Nat) : Int := if j + 1 = c.way.length then c.mode else intentI c.mode
structure COK (i : Int) (c : Climb) : Prop where
  way : ∃ ss ∈ thingsL, c.way = wayOf ss
  mode : 1 ≤ c.mode ∧ c.mode ≤ 4
  id : i ∈ I12
  asked : c.asked ≤ c.way.length
def HeldTo (σ : TS) (i : Int) (c : Climb) (n : Nat) : Prop := ∀ j x, j < n → c.way[j]? = some x → (i, modeOf c j) ∈ σ.heldL x
def Pend (σ : TS) (i : Int) (c : Climb) : Prop := c.whole = false ∧ HeldTo σ i c c.asked
def Done (σ : TS) (i : Int) (c : Climb) : Prop :=
  (c.whole = true ∧ c.asked = c.way.length ∧ HeldTo σ i c c.asked) ∨ (c.whole = false ∧ ∃ j x, c.asked = j + 1 ∧ c.way[j]? = some x ∧ HeldTo σ i c j ∧ (i, modeOf c j) ∈ σ.waitL x)
structure Inv (P : Int → Prop) (E : Int → Thing → Prop) (σ : TS) : Prop where
  q : ∀ x, ((σ.heldL x ++ σ.waitL x).map Prod.fst).Nodup
  pair : ∀ x, (σ.heldL x).Pairwise fun a b => fitsB a.2 b.2 = true
  head : ∀ x g l, σ.waitL x = g :: l → mayB (σ.heldL x) g.2 = false
  ent : ∀ x g, g ∈ σ.heldL x ++ σ.waitL x → E g.1 x ∨ ∃ c, σ.who g.1 = some c ∧ ∃ j, j < c.asked ∧ c.way[j]? = some x ∧ g.2 = modeOf c j
  cl : ∀ i c, σ.who i = some c → COK i c
  pend : ∀ i, P i → ∃ c, σ.who i = some c ∧ Pend σ i c
  done : ∀ i c, σ.who i = some c → ¬ P i → Done σ i c
  noE : ∀ i x, E i x → σ.who i = none

theorem way_get (ss : List ByteArray) (j : Nat) (x : Thing) : (wayOf ss)[j]? = some x ↔ j ≤ ss.length ∧ x = thingOf (ss.take j) := by
  unfold wayOf
  rw [List.getElem?_map]
  by_cases h : j < ss.length + 1
  · rw [List.getElem?_range h]
    simp only [Option.map_some, Option.some.injEq]
    exact ⟨fun e => ⟨by omega, e.symm⟩, fun e => e.2.symm⟩
  · rw [List.getElem?_eq_none (by simpa using h)]
    simp; omega
theorem COK.n {i : Int} {c : Climb} (h : COK i c) {j : Nat} {x : Thing} (hx : c.way[j]? = some x) : x.n = j := by
  obtain ⟨ss, _, e⟩ := h.way
  rw [e, way_get] at hx
  rw [hx.2]; simp [thingOf]; omega
theorem modeOf_ok {i : Int} {c : Climb} (h : COK i c) (j : Nat) : 1 ≤ modeOf c j ∧ modeOf c j ≤ 4 := by
  have := h.mode
  unfold modeOf
  split
  · exact this
  · unfold intentI
    split
    · omega
    · split
      · omega
      · omega
theorem nodup_map_eq {l : List (Int × Int)} (h : (l.map Prod.fst).Nodup) {a b : Int × Int} (ha : a ∈ l) (hb : b ∈ l) (e : a.1 = b.1) : a = b := by
  induction l with
  | nil => simp at ha
  | cons g l ih =>
    simp only [List.map_cons, List.nodup_cons] at h
    simp only [List.mem_cons] at ha hb
    rcases ha with rfl | ha
    · rcases hb with rfl | hb
      · rfl
      · exact absurd (List.mem_map.2 ⟨b, hb, e.symm⟩) h.1
    · rcases hb with rfl | hb
      · exact absurd (List.mem_map.2 ⟨a, ha, e⟩) h.1
      · exact ih h.2 ha hb
theorem not_both {h l : List (Int × Int)} (hn : ((h ++ l).map Prod.fst).Nodup) {a b : Int × Int} (ha : a ∈ h) (hb : b ∈ l) : a.1 ≠ b.1 := by
  rw [List.map_append, List.nodup_append] at hn
  exact hn.2.2 _ (List.mem_map.2 ⟨a, ha, rfl⟩) _ (List.mem_map.2 ⟨b, hb, rfl⟩)
theorem HeldTo.keep {σ σ' : TS} {i : Int} {c c' : Climb} {n : Nat} (h : HeldTo σ i c n) (hw : c'.way = c.way) (hm : c'.mode = c.mode) (hk : ∀ x g, g ∈ σ.heldL x → g.1 = i → g ∈ σ'.heldL x) : HeldTo σ' i c' n := fun j x hj hx => by
  rw [hw] at hx
  have := hk x _ (h j x hj hx) rfl
  unfold modeOf at this ⊢
  rw [hw, hm]; exact this
theorem Done.keep {σ σ' : TS} {i : Int} {c : Climb} (h : Done σ i c) (hk : ∀ x g, g ∈ σ.heldL x → g.1 = i → g ∈ σ'.heldL x) (hl : ∀ x g, g ∈ σ.waitL x → g.1 = i → g ∈ σ'.waitL x) : Done σ' i c := by
  rcases h with ⟨a, b, d⟩ | ⟨a, j, x, b, d, e, f⟩
  · exact .inl ⟨a, b, d.keep rfl rfl hk⟩
  · exact .inr ⟨a, j, x, b, d, e.keep rfl rfl hk, hl x _ f rfl⟩

variable {P : Int → Prop} {E : Int → Thing → Prop} {σ : TS}
theorem Inv.not_there (h : Inv P E σ) {id : Int} {c : Climb} (hc : σ.who id = some c) {x : Thing} (hx : c.way[c.asked]? = some x) : thereB (σ.heldL x) (σ.waitL x) id = false := by
  rw [Bool.eq_false_iff]
  intro ht
  rw [thereB_iff] at ht
  obtain ⟨g, hg, rfl⟩ := List.mem_map.1 ht
  rcases h.ent x g hg with he | ⟨c2, hc2, j, hj, hjx, _⟩
  · rw [h.noE _ _ he] at hc; simp at hc
  · rw [hc] at hc2
    obtain rfl := Option.some.inj hc2
    have h1 := (h.cl _ _ hc).n hjx
    have h2 := (h.cl _ _ hc).n hx
    rw [h1] at h2
    have : (j : Int) = c.asked := h2
    omega

theorem askT_getQ (σ : TS) (id : Int) (c : Climb) (y : Thing) : (askT σ id c).1.getQ y = if y = c.way.getD c.asked nothing then (askQ (σ.getQ (c.way.getD c.asked nothing)).1 (σ.getQ (c.way.getD c.asked nothing)).2 id (modeAt c)).2 else σ.getQ y := getQ_setQ' σ _ y _

theorem ask_cases (h : Inv P E σ) {id : Int} {c : Climb} (hc : σ.who id = some c) {x : Thing} (hx : c.way[c.asked]? = some x) :
    ((askT σ id c).2 = true ∧ σ.waitL x = [] ∧ mayB (σ.heldL x) (modeOf c c.asked) = true ∧ (∀ y, (askT σ id c).1.heldL y = if y = x then σ.heldL x ++ [(id, modeOf c c.asked)] else σ.heldL y) ∧ (∀ y, (askT σ id c).1.waitL y = σ.waitL y)) ∨
    ((askT σ id c).2 = false ∧ (σ.waitL x = [] → mayB (σ.heldL x) (modeOf c c.asked) = false) ∧ (∀ y, (askT σ id c).1.heldL y = σ.heldL y) ∧ (∀ y, (askT σ id c).1.waitL y = if y = x then σ.waitL x ++ [(id, modeOf c c.asked)] else σ.waitL y)) := by
  have ht := h.not_there hc hx
  have hi : intentI (modeOf c c.asked) ≠ 0 := intentI_ok (modeOf_ok (h.cl _ _ hc) _)
  have hgd : c.way.getD c.asked nothing = x := by rw [List.getD_eq_getElem?_getD, hx]; rfl
  have hm : modeAt c = modeOf c c.asked := rfl
  have hg := askT_getQ σ id c
  have h2 : (askT σ id c).2 = (askQ (σ.getQ (c.way.getD c.asked nothing)).1 (σ.getQ (c.way.getD c.asked nothing)).2 id (modeAt c)).1 := rfl
  rw [hgd, hm] at h2
  simp only [hgd, hm] at hg
  have hr : askQ (σ.getQ x).1 (σ.getQ x).2 id (modeOf c c.asked) = if (σ.getQ x).2 = [] ∧ mayB (σ.getQ x).1 (modeOf c c.asked) = true then (true, (σ.getQ x).1 ++ [(id, modeOf c c.asked)], (σ.getQ x).2) else (false, (σ.getQ x).1, (σ.getQ x).2 ++ [(id, modeOf c c.asked)]) := by
    unfold askQ
    rw [if_neg]
    rintro (e | e)
    · exact hi e
    · unfold TS.heldL TS.waitL at ht; rw [ht] at e; simp at e
  rw [hr] at h2
  simp only [hr] at hg
  unfold TS.heldL TS.waitL
  by_cases hcs : (σ.getQ x).2 = [] ∧ mayB (σ.getQ x).1 (modeOf c c.asked) = true
  · rw [if_pos hcs] at h2
    simp only [if_pos hcs] at hg
    refine .inl ⟨h2, hcs.1, hcs.2, fun y => ?_, fun y => ?_⟩
    · rw [hg]; split <;> rfl
    · rw [hg]; split
      · rename_i e; rw [e]
      · rfl
  · rw [if_neg hcs] at h2
    simp only [if_neg hcs] at hg
    refine .inr ⟨h2, fun e => ?_, fun y => ?_, fun y => ?_⟩
    · cases hb : mayB (σ.getQ x).1 (modeOf c c.asked) with
      | false => rfl
      | true => exact absurd ⟨e, hb⟩ hcs
    · rw [hg]; split
      · rename_i e; rw [e]
      · rfl
    · rw [hg]; split <;> rfl
end Go.Proofs.YteghcgiclpbkdaaDoor
