/- Entries in order: what With gives; the same entries in order are one list. -/
import Derived.Test.YtecnjifincahaaaGreatDoorIzF
namespace Go.Proofs.YtecnjifincahaaaGreatDoor
open Go.Shelf Go.RowKit Go.Lib Go.Sort

def Srt (l : List Ent) : Prop := l.Pairwise fun a b => entLt a b = true
theorem srt_unique : ∀ {l m : List Ent}, Srt l → Srt m → (∀ x, x ∈ l ↔ x ∈ m) → l = m
  | [], [], _, _, _ => rfl
  | [], b :: m, _, _, h => absurd ((h b).2 (List.mem_cons_self ..)) (by simp)
  | a :: l, [], _, _, h => absurd ((h a).1 (List.mem_cons_self ..)) (by simp)
  | a :: l, b :: m, h1, h2, h => by
    unfold Srt at h1 h2
    rw [List.pairwise_cons] at h1 h2
    have hab : a = b := by
      have ha := (h a).1 (List.mem_cons_self ..)
      have hb := (h b).2 (List.mem_cons_self ..)
      rcases List.mem_cons.1 ha with e | ha
      · exact e
      · rcases List.mem_cons.1 hb with e | hb
        · exact e.symm
        · have := entLt_trans (h1.1 b hb) (h2.1 a ha)
          rw [entLt_irrefl] at this
          cases this
    subst hab
    have hr : l = m := srt_unique h1.2 h2.2 (fun x => by
      constructor
      · intro hx
        rcases List.mem_cons.1 ((h x).1 (List.mem_cons_of_mem _ hx)) with e | hx2
        · rw [e] at hx
          have := h1.1 a hx
          rw [entLt_irrefl] at this
          cases this
        · exact hx2
      · intro hx
        rcases List.mem_cons.1 ((h x).2 (List.mem_cons_of_mem _ hx)) with e | hx2
        · rw [e] at hx
          have := h2.1 a hx
          rw [entLt_irrefl] at this
          cases this
        · exact hx2)
    rw [hr]
theorem sortE_srt {l : List Ent} (h : l.Nodup) : Srt (sortE l) := by
  have h1 : (sortE l).Pairwise fun a b => (!ltOf cmpE b a) = true := by
    refine List.pairwise_mergeSort (le := fun x y => !ltOf cmpE y x) (fun a b c h1 h2 => ?_) (fun a b => ?_) l
    · rw [ltOf_entLt, Bool.not_eq_true'] at *
      cases h3 : entLt c a with
      | false => rfl
      | true =>
        exfalso
        have h4 := swoE.ntrans c b a (by rw [ltOf_entLt]; exact h2) (by rw [ltOf_entLt]; exact h1)
        rw [ltOf_entLt, h3] at h4
        cases h4
    · rw [ltOf_entLt, ltOf_entLt, Bool.or_eq_true, Bool.not_eq_true', Bool.not_eq_true']
      cases h3 : entLt b a with
      | false => exact .inl rfl
      | true => exact .inr (entLt_asymm h3)
  have h2 : (sortE l).Nodup := (sortE_perm l).nodup_iff.2 h
  refine (h1.and h2).imp ?_
  rintro a b ⟨h3, h4⟩
  rw [ltOf_entLt, Bool.not_eq_true'] at h3
  cases h5 : entLt a b with
  | true => rfl
  | false => exact absurd (entLt_total h5 h3) h4
theorem with_out (l : List Ent) (e : Ent) : withL l e false = l.filter fun x => decide (x ≠ e) := by
  have h : ∀ (l : List Ent) (o : List Ent) (b : Bool), ∃ b', l.foldl (withStep e) (o, b, true) = (o ++ l.filter (fun x => decide (x ≠ e)), b', true) := by
    intro l
    induction l with
    | nil => intro o b; exact ⟨b, by simp⟩
    | cons x l ih =>
      intro o b
      rw [List.foldl_cons]
      by_cases hx : x = e
      · obtain ⟨b', hb⟩ := ih o true
        refine ⟨b', ?_⟩
        have h1 : withStep e (o, b, true) x = (o, true, true) := by unfold withStep; rw [if_pos hx]
        rw [h1, hb]
        simp [hx]
      · obtain ⟨b', hb⟩ := ih (o ++ [x]) b
        refine ⟨b', ?_⟩
        have h1 : withStep e (o, b, true) x = (o ++ [x], b, true) := by unfold withStep; rw [if_neg hx, if_neg (by simp)]
        rw [h1, hb]
        simp [hx]
  obtain ⟨b', hb⟩ := h l [] false
  unfold withL withSt
  rw [show (!false) = true from rfl, hb]
  simp
/-- what has been gone through so far. -/
structure InAt (e : Ent) (p : List Ent) (s : List Ent × Bool × Bool) : Prop where
  no : s.2.2 = false → s.1 = p.filter (fun x => decide (x ≠ e)) ∧ ∀ x ∈ p, entLt e x = false
  yes : s.2.2 = true → Srt s.1 ∧ (∀ x, x ∈ s.1 ↔ x = e ∨ x ∈ p) ∧ ∃ y ∈ p, entLt e y = true
theorem srt_snoc {l : List Ent} {x : Ent} (h : Srt l) (hx : ∀ y ∈ l, entLt y x = true) : Srt (l ++ [x]) := by
  unfold Srt
  rw [List.pairwise_append]
  exact ⟨h, by simp, fun a ha b hb => by rw [List.mem_singleton] at hb; rw [hb]; exact hx a ha⟩
theorem lt_of_not {e x : Ent} (h1 : x ≠ e) (h2 : entLt e x = false) : entLt x e = true := by
  cases h3 : entLt x e with
  | true => rfl
  | false => exact absurd (entLt_total h3 h2) h1
theorem in_at {l : List Ent} (hl : Srt l) (e : Ent) : ∀ i, i ≤ l.length → InAt e (l.take i) (withSt e true (l.take i))
  | 0, _ => ⟨fun _ => by simp [withSt], fun h => by simp [withSt] at h⟩
  | i + 1, hi => by
    have ih := in_at hl e i (by omega)
    rw [withSt_take e true l i hi]
    obtain ⟨p, hp⟩ : ∃ p, l.take i = p := ⟨_, rfl⟩
    have hps : Srt p := by rw [← hp]; exact List.Pairwise.sublist (List.take_sublist ..) hl
    have hbef : ∀ y ∈ p, entLt y l[i] = true := fun y hy => by
      rw [← hp] at hy
      obtain ⟨j, hj, rfl⟩ := List.mem_iff_getElem.1 hy
      rw [List.length_take] at hj
      rw [List.getElem_take]
      exact List.pairwise_iff_getElem.1 hl j i (by omega) (by omega) (by omega)
    rw [List.take_succ_eq_append_getElem (by omega : i < l.length), hp]
    rw [hp] at ih
    obtain ⟨x, hx⟩ : ∃ x, l[i] = x := ⟨_, rfl⟩
    rw [hx] at hbef ⊢
    obtain ⟨s, hs⟩ : ∃ s, withSt e true p = s := ⟨_, rfl⟩
    rw [hs] at ih ⊢
    obtain ⟨o, b, put⟩ := s
    cases put with
    | false =>
      obtain ⟨h1, h2⟩ := ih.no rfl
      simp only at h1
      by_cases hxe : x = e
      · have hw : withStep e (o, b, false) x = (o, true, false) := by unfold withStep; rw [if_pos hxe]
        rw [hw]
        refine ⟨fun _ => ⟨?_, fun y hy => ?_⟩, fun h => (by cases h)⟩
        · rw [List.filter_append, ← h1]; simp [hxe]
        · rcases List.mem_append.1 hy with hy | hy
          · exact h2 y hy
          · rw [List.mem_singleton] at hy; rw [hy, hxe]; exact entLt_irrefl e
      · by_cases hlt : entLt e x = true
        · have hw : withStep e (o, b, false) x = ((o ++ [e]) ++ [x], b, true) := by unfold withStep; rw [if_neg hxe, if_pos ⟨rfl, hlt⟩]
          rw [hw]
          refine ⟨fun h => (by cases h), fun _ => ⟨?_, fun y => ?_, x, by simp, hlt⟩⟩
          · have ho : Srt o := by rw [h1]; exact List.Pairwise.sublist (List.filter_sublist ..) hps
            have hoe : ∀ y ∈ o, entLt y e = true := fun y hy => by
              rw [h1, List.mem_filter] at hy
              exact lt_of_not (by simpa using hy.2) (h2 y hy.1)
            refine srt_snoc (srt_snoc ho hoe) (fun y hy => ?_)
            rcases List.mem_append.1 hy with hy | hy
            · exact entLt_trans (hoe y hy) hlt
            · rw [List.mem_singleton] at hy; rw [hy]; exact hlt
          · show y ∈ (o ++ [e]) ++ [x] ↔ _
            rw [h1]
            simp only [List.mem_append, List.mem_filter, List.mem_singleton, decide_eq_true_eq]
            constructor
            · rintro ((⟨h3, _⟩ | h3) | h3)
              · exact .inr (.inl h3)
              · exact .inl h3
              · exact .inr (.inr h3)
            · rintro (h3 | h3 | h3)
              · exact .inl (.inr h3)
              · by_cases hye : y = e
                · exact .inl (.inr hye)
                · exact .inl (.inl ⟨h3, hye⟩)
              · exact .inr h3
        · have hlf : entLt e x = false := by cases h : entLt e x with | false => rfl | true => exact absurd h hlt
          have hw : withStep e (o, b, false) x = (o ++ [x], b, false) := by unfold withStep; rw [if_neg hxe, if_neg (by simp [hlf])]
          rw [hw]
          refine ⟨fun _ => ⟨?_, fun y hy => ?_⟩, fun h => (by cases h)⟩
          · rw [List.filter_append, ← h1]; simp [hxe]
          · rcases List.mem_append.1 hy with hy | hy
            · exact h2 y hy
            · rw [List.mem_singleton] at hy; rw [hy]; exact hlf
    | true =>
      obtain ⟨h1, h2, y0, hy0, hlt0⟩ := ih.yes rfl
      have hex : entLt e x = true := entLt_trans hlt0 (hbef y0 hy0)
      have hxe : x ≠ e := fun h => by rw [h, entLt_irrefl] at hex; cases hex
      have hw : withStep e (o, b, true) x = (o ++ [x], b, true) := by unfold withStep; rw [if_neg hxe, if_neg (by simp)]
      rw [hw]
      refine ⟨fun h => (by cases h), fun _ => ⟨srt_snoc h1 (fun y hy => ?_), fun y => ?_, y0, List.mem_append_left _ hy0, hlt0⟩⟩
      · rcases (h2 y).1 hy with h3 | h3
        · rw [h3]; exact hex
        · exact hbef y h3
      · show y ∈ o ++ [x] ↔ _
        simp only [List.mem_append, List.mem_singleton]
        rw [h2 y]
        constructor
        · rintro ((h3 | h3) | h3)
          · exact .inl h3
          · exact .inr (.inl h3)
          · exact .inr (.inr h3)
        · rintro (h3 | h3 | h3)
          · exact .inl (.inl h3)
          · exact .inl (.inr h3)
          · exact .inr h3
theorem with_in {l : List Ent} (hl : Srt l) (e : Ent) : Srt (withL l e true) ∧ ∀ x, x ∈ withL l e true ↔ x = e ∨ x ∈ l := by
  have h := in_at hl e l.length (Nat.le_refl _)
  rw [List.take_length] at h
  unfold withL
  cases hp : (withSt e true l).2.2 with
  | true =>
    rw [if_neg (by simp)]
    obtain ⟨h1, h2, _⟩ := h.yes hp
    exact ⟨h1, h2⟩
  | false =>
    rw [if_pos rfl]
    obtain ⟨h1, h2⟩ := h.no hp
    rw [h1]
    refine ⟨srt_snoc (List.Pairwise.sublist (List.filter_sublist ..) hl) (fun y hy => ?_), fun y => ?_⟩
    · rw [List.mem_filter] at hy
      exact lt_of_not (by simpa using hy.2) (h2 y hy.1)
    · simp only [List.mem_append, List.mem_filter, List.mem_singleton, decide_eq_true_eq]
      constructor
      · rintro (⟨h3, _⟩ | h3)
        · exact .inr h3
        · exact .inl h3
      · rintro (h3 | h3)
        · exact .inr h3
        · by_cases hye : y = e
          · exact .inr hye
          · exact .inl ⟨h3, hye⟩
end Go.Proofs.YtecnjifincahaaaGreatDoor
