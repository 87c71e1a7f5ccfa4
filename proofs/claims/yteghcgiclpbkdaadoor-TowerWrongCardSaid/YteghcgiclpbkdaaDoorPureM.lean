/- The laws of towers: who waits where; nobody waits for ever. -/
import Derived.Test.YteghcgiclpbkdaaDoorPureL
namespace Go.Proofs.YteghcgiclpbkdaaDoor
variable {σ : TS}

def inB (l : List (Int × Int)) (id : Int) : Bool := l.any fun g => g.1 == id
theorem inB_iff (l : List (Int × Int)) (id : Int) : inB l id = true ↔ ∃ g ∈ l, g.1 = id := by simp [inB, List.any_eq_true]
theorem in_there (h : InvS σ) {x : Thing} {id : Int} (hb : inB (σ.heldL x) id = true ∨ inB (σ.waitL x) id = true) : ∃ c, σ.who id = some c ∧ ∃ j, j < c.asked ∧ c.way[j]? = some x := by
  obtain ⟨g, hg, rfl⟩ : ∃ g ∈ σ.heldL x ++ σ.waitL x, g.1 = id := by
    rcases hb with hb | hb
    · obtain ⟨g, hg, e⟩ := (inB_iff _ _).1 hb; exact ⟨g, List.mem_append_left _ hg, e⟩
    · obtain ⟨g, hg, e⟩ := (inB_iff _ _).1 hb; exact ⟨g, List.mem_append_right _ hg, e⟩
  rcases h.ent x g hg with e | ⟨c, hc, j, hj, hjx, _⟩
  · exact False.elim e
  · exact ⟨c, hc, j, hj, hjx⟩
/-- Where one waits that waits. -/
theorem wait_at (h : InvS σ) {x : Thing} {id : Int} (hb : inB (σ.waitL x) id = true) : ∃ c, σ.who id = some c ∧ c.whole = false ∧ ∃ j, c.asked = j + 1 ∧ c.way[j]? = some x := by
  obtain ⟨c, hc, j, hj, hjx⟩ := in_there h (.inr hb)
  obtain ⟨g, hg, rfl⟩ := (inB_iff _ _).1 hb
  refine ⟨c, hc, ?_⟩
  rcases h.done _ _ hc (by simp) with ⟨_, _, hto⟩ | ⟨hw, j2, y, ha, hy, hto, hwt⟩
  · exact False.elim (not_both (h.q x) (hto j x hj hjx) hg rfl)
  · have : j = j2 := by
      by_cases hlt : j < j2
      · exact False.elim (not_both (h.q x) (hto j x hlt hjx) hg rfl)
      · omega
    subst this
    exact ⟨hw, j, ha, hjx⟩
def waitsN (σ : TS) (id : Int) (ts : List (List ByteArray)) : Nat := (ts.filter fun ss => inB (σ.waitL (thingOf ss)) id).length
def heldN (σ : TS) (id : Int) (ts : List (List ByteArray)) : Nat := (ts.filter fun ss => inB (σ.heldL (thingOf ss)) id).length
theorem things_inj : ∀ a ∈ thingsL, ∀ b ∈ thingsL, thingOf a = thingOf b → a = b := by decide +kernel
theorem things_take' : ∀ a ∈ thingsL, ∀ j < 3, ∃ b ∈ thingsL, a.take j = b := by decide +kernel
theorem things_take : ∀ a ∈ thingsL, ∀ j : Nat, j ≤ a.length → a.take j ∈ thingsL := by
  intro a ha j hj
  obtain ⟨b, hb, e⟩ := things_take' a ha j (by have := things_len ha; omega)
  rw [e]; exact hb
theorem things_nodup : thingsL.Nodup := by decide +kernel
theorem filter_le_one {α : Type} {p : α → Bool} : ∀ {l : List α}, l.Nodup → (∀ a ∈ l, ∀ b ∈ l, p a = true → p b = true → a = b) → (l.filter p).length ≤ 1
  | [], _, _ => by simp
  | a :: l, hn, hu => by
    rw [List.nodup_cons] at hn
    by_cases ha : p a = true
    · have : l.filter p = [] := by
        rw [List.filter_eq_nil_iff]
        intro b hb hpb
        have := hu a (by simp) b (List.mem_cons_of_mem _ hb) ha hpb
        exact hn.1 (this ▸ hb)
      rw [List.filter_cons_of_pos ha, this]; simp
    · rw [List.filter_cons_of_neg ha]
      exact filter_le_one hn.2 (fun b hb c hc => hu b (List.mem_cons_of_mem _ hb) c (List.mem_cons_of_mem _ hc))
theorem waits_one (h : InvS σ) (id : Int) : waitsN σ id thingsL ≤ 1 := by
  refine filter_le_one things_nodup fun a ha b hb pa pb => ?_
  obtain ⟨c, hc, _, j, hj, hjx⟩ := wait_at h pa
  obtain ⟨c2, hc2, _, j2, hj2, hjx2⟩ := wait_at h pb
  rw [hc] at hc2
  obtain rfl := Option.some.inj hc2
  have : j = j2 := by omega
  subst this
  rw [hjx] at hjx2
  exact things_inj a ha b hb (Option.some.inj hjx2)
theorem not_there_n (h : InvS σ) {id : Int} (ht : σ.there id = false) : heldN σ id thingsL = 0 ∧ waitsN σ id thingsL = 0 := by
  have hn : σ.who id = none := by simpa [TS.there] using ht
  have : ∀ x, inB (σ.heldL x) id = false ∧ inB (σ.waitL x) id = false := fun x => by
    constructor
    · cases hb : inB (σ.heldL x) id with
      | false => rfl
      | true => obtain ⟨c, hc, _⟩ := in_there h (.inl hb); rw [hn] at hc; simp at hc
    · cases hb : inB (σ.waitL x) id with
      | false => rfl
      | true => obtain ⟨c, hc, _⟩ := in_there h (.inr hb); rw [hn] at hc; simp at hc
  unfold heldN waitsN
  exact ⟨by rw [List.length_eq_zero_iff, List.filter_eq_nil_iff]; intro a _; simp [(this _).1], by rw [List.length_eq_zero_iff, List.filter_eq_nil_iff]; intro a _; simp [(this _).2]⟩
theorem whole_waits (h : InvS σ) {id : Int} (ht : σ.there id = true) : σ.wholeB id = decide (waitsN σ id thingsL = 0) := by
  obtain ⟨c, hc⟩ : ∃ c, σ.who id = some c := by simpa [TS.there, Option.isSome_iff_exists] using ht
  have hw : σ.wholeB id = c.whole := by simp [TS.wholeB, hc]
  rw [hw]
  rcases h.done _ _ hc (by simp) with ⟨hwh, _, _⟩ | ⟨hwh, j, x, ha, hx, _, hwt⟩
  · rw [hwh]; symm; rw [decide_eq_true_iff]
    unfold waitsN
    rw [List.length_eq_zero_iff, List.filter_eq_nil_iff]
    intro a _ hb
    obtain ⟨c2, hc2, hf, _⟩ := wait_at h hb
    rw [hc] at hc2
    obtain rfl := Option.some.inj hc2
    rw [hwh] at hf; simp at hf
  · rw [hwh]; symm; rw [decide_eq_false_iff_not]
    obtain ⟨ss, hs, hway⟩ := (h.cl _ _ hc).way
    rw [hway, way_get] at hx
    have hm : ss.take j ∈ thingsL.filter fun ss => inB (σ.waitL (thingOf ss)) id := by
      rw [List.mem_filter]
      refine ⟨things_take ss hs j hx.1, (inB_iff _ _).2 ⟨(id, modeOf c j), ?_, rfl⟩⟩
      rw [← hx.2]; exact hwt
    unfold waitsN
    intro e
    rw [List.length_eq_zero_iff] at e
    rw [e] at hm; simp at hm
theorem whole_root (h : InvS σ) {id : Int} (ht : σ.wholeB id = true) : inB (σ.heldL (thingOf [])) id = true := by
  obtain ⟨c, hc, hwh⟩ : ∃ c, σ.who id = some c ∧ c.whole = true := by
    unfold TS.wholeB at ht
    split at ht
    · simp at ht
    · rename_i c hc; exact ⟨c, hc, ht⟩
  rcases h.done _ _ hc (by simp) with ⟨_, ha, hto⟩ | ⟨hf, _⟩
  · obtain ⟨ss, hs, hway⟩ := (h.cl _ _ hc).way
    have : (id, modeOf c 0) ∈ σ.heldL (thingOf []) := hto 0 _ (by rw [ha, hway]; simp [wayOf]) (by rw [hway, way_get]; simp)
    exact (inB_iff _ _).2 ⟨(id, modeOf c 0), this, rfl⟩
  · rw [hwh] at hf; simp at hf

/-! ### draining -/
theorem some_whole (h : InvS σ) : ∀ (n : Nat) {i : Int} {c : Climb}, σ.who i = some c → 4 ≤ c.asked + n → ∃ j ∈ I12, σ.wholeB j = true
  | 0, i, c, hc, hn => by
    have h1 := h.wf.c _ _ hc
    omega
  | n + 1, i, c, hc, hn => by
    rcases h.done _ _ hc (by simp) with ⟨hw, _⟩ | ⟨_, j, x, ha, hx, _, hwt⟩
    · exact ⟨i, (h.cl _ _ hc).id, by simp [TS.wholeB, hc, hw]⟩
    · have hne : ∃ g ∈ σ.heldL x, True := by
        cases hw : σ.waitL x with
        | nil => rw [hw] at hwt; simp at hwt
        | cons g l =>
          have hm := h.head x g l hw
          cases hh : σ.heldL x with
          | nil => rw [hh] at hm; simp [mayB] at hm
          | cons g2 l2 => exact ⟨g2, by simp, trivial⟩
      obtain ⟨g, hg, _⟩ := hne
      rcases h.ent x g (List.mem_append_left _ hg) with e | ⟨c2, hc2, j2, hj2, hjx2, _⟩
      · exact False.elim e
      · have hjj : j = j2 := by
          have a1 := (h.cl _ _ hc).n hx
          have a2 := (h.cl _ _ hc2).n hjx2
          omega
        subst hjj
        rcases h.done _ _ hc2 (by simp) with ⟨hw, _⟩ | ⟨_, j3, y, ha3, hy, _, hwt3⟩
        · exact ⟨_, (h.cl _ _ hc2).id, by simp [TS.wholeB, hc2, hw]⟩
        · by_cases e : j = j3
          · subst e
            have : x = y := by rw [hjx2] at hy; exact Option.some.inj hy
            subst this
            exact False.elim (not_both (h.q x) hg hwt3 rfl)
          · exact some_whole h n hc2 (by omega)
def wholes (σ : TS) : List Int := I12.filter σ.wholeB
def frees : List Int → TS → TS
  | [], σ => σ
  | i :: is, σ => frees is (freeT σ i).1
def roundT (σ : TS) : TS := frees (wholes σ) σ
def theres (σ : TS) : List Int := I12.filter σ.there
theorem frees_inv : ∀ (is : List Int) {σ : TS}, InvS σ → (∀ i ∈ is, i ∈ I12) → InvS (frees is σ) ∧ ∀ j, (frees is σ).there j = (σ.there j && !decide (j ∈ is))
  | [], σ, h, _ => ⟨h, by simp [frees]⟩
  | i :: is, σ, h, hi => by
    obtain ⟨a, b, _, _, _, f⟩ := freeT_facts h (hi i (by simp))
    obtain ⟨a2, b2⟩ := frees_inv is a (fun j hj => hi j (List.mem_cons_of_mem _ hj))
    refine ⟨a2, fun j => ?_⟩
    show (frees is (freeT σ i).1).there j = _
    rw [b2]
    by_cases e : j = i
    · subst e; simp [TS.there, b]
    · have : (freeT σ i).1.there j = σ.there j := f j e
      rw [this]
      simp [e]
theorem round_inv (h : InvS σ) : InvS (roundT σ) := (frees_inv _ h (fun _ hi => (List.mem_filter.1 hi).1)).1
theorem whole_there {i : Int} (hw : σ.wholeB i = true) : σ.there i = true := by
  unfold TS.wholeB at hw
  unfold TS.there
  split at hw
  · simp at hw
  · rename_i c hc; simp [hc]
theorem filter_lt {α : Type} {p q : α → Bool} : ∀ {l : List α}, (∀ a ∈ l, q a = true → p a = true) → (∃ a ∈ l, p a = true ∧ q a = false) → (l.filter q).length < (l.filter p).length
  | [], _, h => by obtain ⟨a, h, _⟩ := h; simp at h
  | b :: l, hq, h => by
    have hle : (l.filter q).length ≤ (l.filter p).length := by
      have : l.filter q = (l.filter p).filter q := by
        rw [List.filter_filter]
        apply List.filter_congr
        intro a ha
        cases hqa : q a with
        | false => simp
        | true => simp [hq a (List.mem_cons_of_mem _ ha) hqa]
      rw [this]; exact List.length_filter_le _ _
    by_cases hpb : p b = true
    · rw [List.filter_cons_of_pos hpb]
      by_cases hqb : q b = true
      · rw [List.filter_cons_of_pos hqb]
        obtain ⟨a, ha, h1, h2⟩ := h
        rcases List.mem_cons.1 ha with rfl | ha
        · rw [hqb] at h2; simp at h2
        · have := filter_lt (l := l) (p := p) (q := q) (fun a ha => hq a (List.mem_cons_of_mem _ ha)) ⟨a, ha, h1, h2⟩
          simp; omega
      · rw [List.filter_cons_of_neg hqb]; simp; omega
    · have hqb : ¬ q b = true := fun e => hpb (hq b (by simp) e)
      rw [List.filter_cons_of_neg hpb, List.filter_cons_of_neg hqb]
      obtain ⟨a, ha, h1, h2⟩ := h
      rcases List.mem_cons.1 ha with rfl | ha
      · exact absurd h1 hpb
      · exact filter_lt (fun a ha => hq a (List.mem_cons_of_mem _ ha)) ⟨a, ha, h1, h2⟩
theorem there_mem (h : InvS σ) {i : Int} (ht : σ.there i = true) : i ∈ I12 := by
  obtain ⟨c, hc⟩ : ∃ c, σ.who i = some c := by simpa [TS.there, Option.isSome_iff_exists] using ht
  exact (h.cl _ _ hc).id
theorem left_whole (h : InvS σ) (hl : theres σ ≠ []) : wholes σ ≠ [] := by
  obtain ⟨i, hi⟩ := List.exists_mem_of_ne_nil _ hl
  have ht := (List.mem_filter.1 hi).2
  obtain ⟨c, hc⟩ : ∃ c, σ.who i = some c := by simpa [TS.there, Option.isSome_iff_exists] using ht
  obtain ⟨j, hj, hw⟩ := some_whole h 4 hc (by omega)
  intro e
  have : j ∈ wholes σ := List.mem_filter.2 ⟨hj, hw⟩
  rw [e] at this; simp at this
theorem round_less (h : InvS σ) (n : Nat) (hn : (theres σ).length ≤ n + 1) : (theres (roundT σ)).length ≤ n := by
  have hth := (frees_inv (wholes σ) h (fun i hi => (List.mem_filter.1 hi).1)).2
  by_cases hl : theres σ = []
  · have : theres (roundT σ) = [] := by
      unfold theres at hl ⊢
      rw [List.filter_eq_nil_iff] at hl ⊢
      intro a ha
      have := hl a ha
      unfold roundT
      rw [hth]; simp at this; simp [this]
    rw [this]; simp
  · obtain ⟨i, hi⟩ := List.exists_mem_of_ne_nil _ (left_whole h hl)
    obtain ⟨hi1, hi2⟩ := List.mem_filter.1 hi
    have : (theres (roundT σ)).length < (theres σ).length := filter_lt (fun a _ ha => by
      unfold roundT at ha; rw [hth] at ha; simp at ha; exact ha.1) ⟨i, hi1, whole_there hi2, by unfold roundT; rw [hth]; simp [hi]⟩
    omega
def rounds : Nat → TS → TS
  | 0, σ => σ
  | n + 1, σ => roundT (rounds n σ)
theorem rounds_inv (h : InvS σ) : ∀ n, InvS (rounds n σ) ∧ (n ≤ 12 → (theres (rounds n σ)).length ≤ 12 - n)
  | 0 => ⟨h, fun _ => List.length_filter_le _ _⟩
  | n + 1 => by
    obtain ⟨a, b⟩ := rounds_inv h n
    refine ⟨round_inv a, fun hn => ?_⟩
    have := b (by omega)
    exact round_less a _ (by omega)
theorem drained (h : InvS σ) (x : Thing) : (rounds 12 σ).heldL x = [] ∧ (rounds 12 σ).waitL x = [] := by
  obtain ⟨a, b⟩ := rounds_inv h 12
  have b := b (Nat.le_refl _)
  have hno : ∀ g, ¬ g ∈ (rounds 12 σ).heldL x ++ (rounds 12 σ).waitL x := fun g hg => by
    rcases a.ent x g hg with e | ⟨c, hc, _⟩
    · exact e
    · have : g.1 ∈ theres (rounds 12 σ) := List.mem_filter.2 ⟨(a.cl _ _ hc).id, by simp [TS.there, hc]⟩
      rw [List.length_eq_zero_iff.1 (show (theres (rounds 12 σ)).length = 0 by omega)] at this
      simp at this
  have := List.eq_nil_iff_forall_not_mem.2 hno
  simpa using this
end Go.Proofs.YteghcgiclpbkdaaDoor
