/- A record that becomes another one: the plain law. -/
import Derived.Test.YtecnjifincahaaaGreatDoorIzI
namespace Go.Proofs.YtecnjifincahaaaGreatDoor
open Go.Shelf Go.RowKit Go.Lib

theorem ents_nodup {T : List DocT} (k : Nat) (h : Rising T) : (entsOf k T).Nodup := by
  have h1 := ents_ids k h
  exact List.Pairwise.of_map (·.2) (fun a b hab e => hab (by rw [e])) h1
theorem es_srt {T : List DocT} (k : Nat) (h : Rising T) : Srt (sortE (entsOf k T)) := sortE_srt (ents_nodup k h)
theorem mem_es {T : List DocT} {k : Nat} {e : Ent} : e ∈ sortE (entsOf k T) ↔ ∃ t ∈ T, entOf k t = some e := by
  rw [(sortE_perm _).mem_iff]
  exact List.mem_filterMap
theorem entOf_id {k : Nat} {t : DocT} {e : Ent} (h : entOf k t = some e) : e.2 = t.id := by
  unfold entOf at h
  obtain ⟨x, _, rfl⟩ := Option.map_eq_some_iff.1 h
  rfl
theorem rising_set {T : List DocT} (h : Rising T) (j : Nat) (hj : j < T.length) (v : V) (c : List Value) : Rising (T.set j (DocT.mk T[j].id v c)) := by
  have hid : ∀ i (hi : i < T.length), ((T.set j (DocT.mk T[j].id v c))[i]'(by rw [List.length_set]; exact hi)).id = T[i].id := fun i hi => by
    rw [List.getElem_set]
    by_cases e : j = i
    · subst e; simp
    · rw [if_neg e]
  intro i k hi hk hik
  rw [List.length_set] at hi hk
  rw [hid i hi, hid k hk]
  exact h i k hi hk hik
theorem mem_set {T : List DocT} (h : Rising T) (j : Nat) (hj : j < T.length) (v : V) (c : List Value) (s : DocT) : s ∈ T.set j (DocT.mk T[j].id v c) ↔ s = DocT.mk T[j].id v c ∨ (s ∈ T ∧ s.id ≠ T[j].id) := by
  constructor
  · intro hs
    obtain ⟨i, hi, rfl⟩ := List.mem_iff_getElem.1 hs
    rw [List.length_set] at hi
    rw [List.getElem_set]
    by_cases e : j = i
    · left; rw [if_pos e]
    · right
      rw [if_neg e]
      refine ⟨List.getElem_mem hi, fun h2 => e ?_⟩
      rcases Nat.lt_trichotomy i j with h3 | h3 | h3
      · have := h i j hi hj h3; omega
      · exact h3.symm
      · have := h j i hj hi h3; omega
  · rintro (rfl | ⟨hs, hne⟩)
    · exact List.mem_set (by exact hj) _
    · obtain ⟨i, hi, rfl⟩ := List.mem_iff_getElem.1 hs
      have e : j ≠ i := fun e => hne (by subst e; rfl)
      exact List.mem_iff_getElem.2 ⟨i, by rw [List.length_set]; exact hi, by rw [List.getElem_set, if_neg e]⟩
def dropE (l : List Ent) (o : Option V) (id : Int) : List Ent := match o with
  | none => l
  | some x => withL l (keyL x, id) false
def addE (l : List Ent) (o : Option V) (id : Int) : List Ent := match o with
  | none => l
  | some x => withL l (keyL x, id) true
theorem moves {T : List DocT} (k : Nat) (h : Rising T) (j : Nat) (hj : j < T.length) (v : V) (c : List Value) :
    addE (dropE (sortE (entsOf k T)) (findP placeK T[j].v (partS k)) T[j].id) (findP placeK v (partS k)) T[j].id = sortE (entsOf k (T.set j (DocT.mk T[j].id v c))) := by
  have hs1 := es_srt k h
  have hs2 := es_srt k (rising_set h j hj v c)
  -- behind the old one
  have hd : Srt (dropE (sortE (entsOf k T)) (findP placeK T[j].v (partS k)) T[j].id) ∧ ∀ e, e ∈ dropE (sortE (entsOf k T)) (findP placeK T[j].v (partS k)) T[j].id ↔ ∃ t ∈ T, t.id ≠ T[j].id ∧ entOf k t = some e := by
    have key : ∀ e, (e ∈ sortE (entsOf k T) ∧ entOf k T[j] ≠ some e) ↔ ∃ t ∈ T, t.id ≠ T[j].id ∧ entOf k t = some e := fun e => by
      rw [mem_es]
      constructor
      · rintro ⟨⟨t, ht, he⟩, hne⟩
        refine ⟨t, ht, fun h2 => hne ?_, he⟩
        rw [← rising_inj h ht (List.getElem_mem hj) h2]; exact he
      · rintro ⟨t, ht, h2, he⟩
        refine ⟨⟨t, ht, he⟩, fun h3 => h2 ?_⟩
        rw [← entOf_id he, entOf_id h3]
    cases hr : findP placeK T[j].v (partS k) with
    | none =>
      refine ⟨hs1, fun e => ?_⟩
      rw [← key e]
      have : entOf k T[j] = none := by unfold entOf; rw [hr]; rfl
      rw [this]
      show e ∈ sortE (entsOf k T) ↔ _
      simp
    | some x =>
      have hen : entOf k T[j] = some (keyL x, T[j].id) := by unfold entOf; rw [hr]; rfl
      rw [show dropE (sortE (entsOf k T)) (some x) T[j].id = (sortE (entsOf k T)).filter (fun y => decide (y ≠ (keyL x, T[j].id))) from with_out _ _]
      refine ⟨List.Pairwise.sublist (List.filter_sublist ..) hs1, fun e => ?_⟩
      rw [← key e, hen, List.mem_filter]
      simp only [decide_eq_true_eq, ne_eq, Option.some.injEq]
      constructor
      · rintro ⟨a, b⟩; exact ⟨a, fun h => b h.symm⟩
      · rintro ⟨a, b⟩; exact ⟨a, fun h => b h.symm⟩
  have ha : Srt (addE (dropE (sortE (entsOf k T)) (findP placeK T[j].v (partS k)) T[j].id) (findP placeK v (partS k)) T[j].id) ∧ ∀ e, e ∈ addE (dropE (sortE (entsOf k T)) (findP placeK T[j].v (partS k)) T[j].id) (findP placeK v (partS k)) T[j].id ↔ (entOf k (DocT.mk T[j].id v c) = some e ∨ ∃ t ∈ T, t.id ≠ T[j].id ∧ entOf k t = some e) := by
    cases hr : findP placeK v (partS k) with
    | none =>
      refine ⟨hd.1, fun e => ?_⟩
      have : entOf k (DocT.mk T[j].id v c) = none := by unfold entOf; rw [hr]; rfl
      rw [this]
      show e ∈ dropE _ _ _ ↔ _
      rw [hd.2 e]
      simp
    | some x =>
      have hen : entOf k (DocT.mk T[j].id v c) = some (keyL x, T[j].id) := by unfold entOf; rw [hr]; rfl
      obtain ⟨h1, h2⟩ := with_in hd.1 (keyL x, T[j].id)
      refine ⟨h1, fun e => ?_⟩
      show e ∈ withL _ _ true ↔ _
      rw [h2 e, hd.2 e, hen]
      constructor
      · rintro (h3 | h3)
        · exact .inl (by rw [h3])
        · exact .inr h3
      · rintro (h3 | h3)
        · exact .inl (Option.some.inj h3).symm
        · exact .inr h3
  refine srt_unique ha.1 hs2 (fun e => ?_)
  rw [ha.2 e, mem_es]
  constructor
  · rintro (h1 | ⟨t, ht, hne, he⟩)
    · exact ⟨_, (mem_set h j hj v c _).2 (.inl rfl), h1⟩
    · exact ⟨t, (mem_set h j hj v c _).2 (.inr ⟨ht, hne⟩), he⟩
  · rintro ⟨t, ht, he⟩
    rcases (mem_set h j hj v c _).1 ht with rfl | ⟨h1, h2⟩
    · exact .inl he
    · exact .inr ⟨t, h1, h2, he⟩
theorem recs_at : ∀ {T : List DocT} {l : List BL} {k : Int}, T.map prT = recs l k → ∀ j (hj : j < T.length), T[j].id = k + j
  | [], _, _, _, _, hj => absurd hj (by simp)
  | t :: T, [], k, h, _, _ => by simp [recs] at h
  | t :: T, b :: l, k, h, j, hj => by
    rw [List.map_cons, recs] at h
    injection h with h1 h2
    cases j with
    | zero =>
      have : t.id = k := congrArg Prod.fst h1
      simp [this]
    | succ j =>
      have := recs_at h2 j (by simpa using hj)
      simp only [List.getElem_cons_succ]
      rw [this]
      push_cast
      omega
end Go.Proofs.YtecnjifincahaaaGreatDoor
