/- heap.Delete; entries put one by one are the sorted ones. -/
import Derived.Test.YtecnjifincahaaaGreatDoorIzL
namespace Go.Proofs.YtecnjifincahaaaGreatDoor
open Go.Shelf Go.RowKit Go.Lib

theorem rising_iff {T : List DocT} : Rising T ↔ T.Pairwise (fun a b => a.id < b.id) := by
  rw [List.pairwise_iff_getElem]
  exact ⟨fun h i j hi hj hij => h i j hi hj hij, fun h i j hi hj hij => h i j hi hj hij⟩
theorem cut_at {A C : List DocT} {x : DocT} (h : Rising (A ++ x :: C)) : Rising (A ++ C) ∧ ∀ s, s ∈ A ++ C ↔ s ∈ A ++ x :: C ∧ s.id ≠ x.id := by
  have hp := rising_iff.1 h
  refine ⟨rising_iff.2 (List.Pairwise.sublist (List.Sublist.append_left (List.sublist_cons_self x C) A) hp), fun s => ?_⟩
  rw [List.pairwise_append] at hp
  obtain ⟨_, h2, h3⟩ := hp
  rw [List.pairwise_cons] at h2
  simp only [List.mem_append, List.mem_cons]
  constructor
  · rintro (hs | hs)
    · exact ⟨.inl hs, by have := h3 s hs x (List.mem_cons_self ..); omega⟩
    · exact ⟨.inr (.inr hs), by have := h2.1 s hs; omega⟩
  · rintro ⟨hs | rfl | hs, hne⟩
    · exact .inl hs
    · exact absurd rfl hne
    · exact .inr hs
set_option maxHeartbeats 8000000 in
set_option maxRecDepth 100000 in
theorem hdel_any (w : World) (bh : Nat) (ob : Option Nat) (S : Nat → Prop) (T : List DocT) (last g : Int) (hH : HRep w bh ob S T last) (hR : Rising T) (hT : T.length ≤ 1000) :
    Calls Tryz.prog 28 #[.pointer (some ⟨bh, 0, none⟩), .int .i64 g] w fun e w' => ∃ T' b, e = .returned (.bool b) ∧ HRep w' bh ob S T' last ∧ Rising T' ∧ T'.length ≤ T.length ∧ (∀ s, s ∈ T' ↔ s ∈ T ∧ s.id ≠ g) ∧ Only (fun k => k = bh ∨ ob = some k) w w' := by
  have hf := find_rec w bh T last g (hH.read hR hT)
  have H0 := Lib.hid (And.intro hf (And.intro hH (And.intro hR hT)))
  clear hf hH hR hT
  go_enter Tryz.func28, Tryz.ntmps28
  go_wp2_with fail
  refine (show Calls _ _ _ _ _ from H0.out.1).mono ?_
  rintro e w2 ⟨k, hk, rfl, hb2⟩
  have hH2 := H0.out.2.1.later hb2
  have ho2 : Only (fun k => k = bh ∨ ob = some k) w w2 := Only.ofBelow hb2 _
  cases hfb : foundB T g k with
  | false =>
    have hno : ∀ s, s ∈ T ↔ s ∈ T ∧ s.id ≠ g := fun s => ⟨fun hs => ⟨hs, fun e => by
      obtain ⟨i, hi, rfl⟩ := List.mem_iff_getElem.1 hs
      have := (find_at H0.out.2.2.1 hk hi e).2
      rw [hfb] at this
      cases this⟩, fun h => h.1⟩
    have HR := Lib.hid (And.intro hH2 (And.intro hno ho2))
    clear hH2 hno ho2 hb2 hk hfb
    go_wp2
    go_ret
    exact ⟨T, false, rfl, HR.out.1, H0.out.2.2.1, Nat.le_refl _, HR.out.2.1, HR.out.2.2⟩
  | true =>
    have hkx : ∃ hkl : k < T.length, T[k].id = g := by
      unfold foundB at hfb
      cases hq : T[k]? with
      | none => rw [hq] at hfb; cases hfb
      | some t =>
        rw [hq] at hfb
        obtain ⟨hkl, hkt⟩ := List.getElem?_eq_some_iff.1 hq
        exact ⟨hkl, by rw [hkt]; simpa using hfb⟩
    obtain ⟨hkl, hkg⟩ := hkx
    have hsplit : T = T.take k ++ T[k] :: T.drop (k + 1) := by rw [← List.drop_eq_getElem_cons hkl, List.take_append_drop]
    obtain ⟨A, hA⟩ : ∃ A, T.take k = A := ⟨_, rfl⟩
    obtain ⟨C, hC⟩ : ∃ C, T.drop (k + 1) = C := ⟨_, rfl⟩
    obtain ⟨x, hx⟩ : ∃ x, T[k] = x := ⟨_, rfl⟩
    have hkA : A.length = k := by rw [← hA, List.length_take]; omega
    rw [hA, hC, hx] at hsplit
    rw [hx] at hkg
    obtain ⟨ov, hk2, hob, hown, hvs, hS, hne⟩ := hH2
    rcases ownsRow_cases hown with ⟨_, h0, _⟩ | ⟨gb, cap, rfl⟩
    · omega
    have hR2 := H0.out.2.2.1
    have hT2 := H0.out.2.2.2
    have hvs2 := hvs
    rw [hsplit] at hown hR2 hT2 hvs2
    obtain ⟨hR3, hmem⟩ := cut_at hR2
    have hdel := delete_docs gb cap A C x w2 hown (fun t ht => (hvs2 t ht).shape) hT2
    rw [← hsplit, hkA] at hdel
    have hobg : ob = some gb := by rw [← hob]; rfl
    have hlAC : (A ++ C).length ≤ T.length := by rw [hsplit, List.length_append, List.length_append, List.length_cons]; omega
    have hmem2 : ∀ s, s ∈ A ++ C ↔ s ∈ T ∧ s.id ≠ g := fun s => by rw [hmem s, ← hsplit, hkg]
    have HR := Lib.hid (And.intro hdel (And.intro hk2 (And.intro hob (And.intro hvs2 (And.intro hS (And.intro hne (And.intro ho2 (And.intro hR3 (And.intro hlAC (And.intro hmem2 hobg))))))))))
    obtain ⟨n, hn⟩ : ∃ n, T.length = n := ⟨_, rfl⟩
    have hkn : k ≤ 1000 := by have := H0.out.2.2.2; omega
    have hwk : IntKind.i64.wrap ((k : Int) + 1) = (k : Int) + 1 := IntWalk.i64_in _ (by omega)
    rw [hn] at HR
    have c0 := HR.out.2.1.cell 0
    clear hdel hk2 hob hown hvs hvs2 hS hne ho2 hR2 hT2 hR3 hmem hmem2 hobg hlAC hsplit hA hC hx hkA hkg hfb hk hb2
    go_wp2_with fail
    refine (show Calls _ _ _ _ _ from HR.out.1).mono ?_
    rintro e w3 ⟨rfl, hown3, ho3⟩
    have hk3 := HR.out.2.1.only ho3 (fun e => HR.out.2.2.2.2.2.1 (by rw [HR.out.2.2.2.2.2.2.2.2.2.2, ← e]))
    have f0 := hk3.frozen 0
    have f1 := hk3.cell 0
    obtain ⟨w4, hw4⟩ : ∃ W, w3.setCell ⟨bh, 0, none⟩ (.slice (some ⟨gb, 0, none⟩) (A ++ C).length cap) = W := ⟨_, rfl⟩
    have hk4 : Blk w4 bh 97 [.slice (some ⟨gb, 0, none⟩) (A ++ C).length cap, .int .i64 last] := by rw [← hw4]; exact hk3.set 0 _
    have ho4 : Only (fun k => k = bh) w3 w4 := by rw [← hw4]; exact Only.set1 _ bh 0 _
    have hobg := HR.out.2.2.2.2.2.2.2.2.2.2
    have hall : Only (fun k => k = bh ∨ ob = some k) w2 w4 := (ho3.mono (fun k _ e => .inr (by rw [hobg, e]))).trans (ho4.mono (fun k _ e => .inl e))
    have hfin : HRep w4 bh ob S (A ++ C) last := by
      refine ⟨_, hk4, by rw [hobg]; rfl, own_only hown3 ho4 (fun b hb e => HR.out.2.2.2.2.2.1 (by rw [hobg, ← e]; exact hb)), fun t ht => ?_, fun b hb => ⟨Nat.lt_of_lt_of_le (HR.out.2.2.2.2.1 b hb).1 hall.size, (HR.out.2.2.2.2.1 b hb).2⟩, HR.out.2.2.2.2.2.1⟩
      refine VAt.keep (fun b hb => hb) (fun b hb k u hu => hall.cell (fun h => h.elim (fun h => (HR.out.2.2.2.2.1 b hb).2.1 h) (fun h => (HR.out.2.2.2.2.1 b hb).2.2 h)) hu) (HR.out.2.2.2.1 t ?_)
      rcases List.mem_append.1 ht with h | h
      · exact List.mem_append_left _ h
      · exact List.mem_append_right _ (List.mem_cons_of_mem _ h)
    have HF := Lib.hid (And.intro hw4 (And.intro hfin (HR.out.2.2.2.2.2.2.1.trans hall)))
    clear hw4 hk4 ho4 hall hfin hk3 hown3 ho3 c0
    go_wp2
    rw [show A.length + C.length = (A ++ C).length from List.length_append.symm, HF.out.1]
    go_ret
    exact ⟨A ++ C, true, rfl, HF.out.2.1, HR.out.2.2.2.2.2.2.2.1, by rw [hn]; exact HR.out.2.2.2.2.2.2.2.2.1, HR.out.2.2.2.2.2.2.2.2.2.1, HF.out.2.2⟩
theorem ofL10_srt (k : Nat) (P : List DocT) : Srt (ofL10 k P) ∧ ∀ e, e ∈ ofL10 k P ↔ ∃ t ∈ P, entOf k t = some e := by
  have h : ∀ (P : List DocT) (l : List Ent), Srt l → Srt (P.foldl (ofStep k) l) ∧ ∀ e, e ∈ P.foldl (ofStep k) l ↔ e ∈ l ∨ ∃ t ∈ P, entOf k t = some e := by
    intro P
    induction P with
    | nil => intro l hl; exact ⟨hl, fun e => by simp⟩
    | cons t P ih =>
      intro l hl
      rw [List.foldl_cons]
      have hs : Srt (ofStep k l t) ∧ ∀ e, e ∈ ofStep k l t ↔ e ∈ l ∨ entOf k t = some e := by
        unfold ofStep entOf
        cases hr : findP placeK t.v (partS k) with
        | none => exact ⟨hl, fun e => by simp⟩
        | some x =>
          obtain ⟨h1, h2⟩ := with_in hl (keyL x, t.id)
          refine ⟨h1, fun e => ?_⟩
          show e ∈ withL l (keyL x, t.id) true ↔ _
          rw [h2 e]
          simp only [Option.map_some, Option.some.injEq]
          constructor
          · rintro (h3 | h3)
            · exact .inr h3.symm
            · exact .inl h3
          · rintro (h3 | h3)
            · exact .inr h3
            · exact .inl h3.symm
      obtain ⟨h1, h2⟩ := ih _ hs.1
      refine ⟨h1, fun e => ?_⟩
      rw [h2 e, hs.2 e]
      constructor
      · rintro ((h3 | h3) | ⟨s, hs, h3⟩)
        · exact .inl h3
        · exact .inr ⟨t, List.mem_cons_self .., h3⟩
        · exact .inr ⟨s, List.mem_cons_of_mem _ hs, h3⟩
      · rintro (h3 | ⟨s, hs, h3⟩)
        · exact .inl (.inl h3)
        · rcases List.mem_cons.1 hs with rfl | hs
          · exact .inl (.inr h3)
          · exact .inr ⟨s, hs, h3⟩
  obtain ⟨h1, h2⟩ := h P [] List.Pairwise.nil
  exact ⟨h1, fun e => by unfold ofL10; rw [h2 e]; simp⟩
theorem of_sorted {T P : List DocT} (k : Nat) (h : Rising T) (ha : AllOf T P) : ofL10 k P = sortE (entsOf k T) := by
  obtain ⟨h1, h2⟩ := ofL10_srt k P
  refine srt_unique h1 (es_srt k h) (fun e => ?_)
  rw [h2 e, mem_es]
  constructor
  · rintro ⟨t, ht, he⟩
    exact ⟨t, ha.2.1 t ht, he⟩
  · rintro ⟨t, ht, he⟩
    obtain ⟨s, hs, hid⟩ := ha.2.2 t ht
    rw [rising_inj h (ha.2.1 s hs) ht hid] at hs
    exact ⟨t, hs, he⟩
theorem look_drop {T T' : List DocT} {g : Int} (h : Rising T) (h' : Rising T') (hm : ∀ s, s ∈ T' ↔ s ∈ T ∧ s.id ≠ g) (k : Int) : lookC T' k = if k = g then none else lookC T k := by
  by_cases hk : k = g
  · rw [if_pos hk]
    cases hq : lookC T' k with
    | none => rfl
    | some v =>
      obtain ⟨t, ht, e, _⟩ := lookC_mem hq
      exact absurd (e.trans hk) ((hm t).1 ht).2
  · rw [if_neg hk]
    cases hq : lookC T k with
    | some v =>
      obtain ⟨t, ht, e, rfl⟩ := lookC_mem hq
      have ht' := (hm t).2 ⟨ht, by omega⟩
      rw [← e]
      exact rising_look h' ht'
    | none =>
      cases hq2 : lookC T' k with
      | none => rfl
      | some v =>
        obtain ⟨t, ht, e, rfl⟩ := lookC_mem hq2
        have h3 := rising_look h ((hm t).1 ht).1
        rw [e, hq] at h3
        cases h3
end Go.Proofs.YtecnjifincahaaaGreatDoor
