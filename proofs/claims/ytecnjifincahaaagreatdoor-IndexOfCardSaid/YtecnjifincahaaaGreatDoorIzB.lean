/- Entries sorted. -/
import Derived.Test.YtecnjifincahaaaGreatDoorIzA
namespace Go.Proofs.YtecnjifincahaaaGreatDoor
open Go.Shelf Go.RowKit Go.Lib Go.Sort

theorem lcmp_trans : ∀ {l m n : BL}, lcmp l m = .lt → lcmp m n = .lt → lcmp l n = .lt
  | [], _, [], h1, h2 => by
    rename_i m
    cases m with
    | nil => simp [lcmp] at h1
    | cons => simp [lcmp] at h2
  | [], _, _ :: _, _, _ => rfl
  | _ :: _, [], _, h1, _ => by simp [lcmp] at h1
  | _ :: _, _ :: _, [], _, h2 => by simp [lcmp] at h2
  | a :: l, b :: m, c :: n, h1, h2 => by
    rw [lcmp_cons] at h1 h2 ⊢
    by_cases ab : a < b
    · by_cases bc : b < c
      · rw [if_pos (show a < c from UInt8.lt_trans ab bc)]
      · rw [if_neg bc] at h2
        by_cases cb : c < b
        · rw [if_pos cb] at h2; cases h2
        · have e : b = c := by
            apply UInt8.toNat_inj.mp
            have h3 : ¬ b.toNat < c.toNat := fun h => bc (UInt8.lt_iff_toNat_lt.mpr h)
            have h4 : ¬ c.toNat < b.toNat := fun h => cb (UInt8.lt_iff_toNat_lt.mpr h)
            omega
          rw [← e, if_pos ab]
    · rw [if_neg ab] at h1
      by_cases ba : b < a
      · rw [if_pos ba] at h1; cases h1
      · rw [if_neg ba] at h1
        have e : a = b := by
          apply UInt8.toNat_inj.mp
          have h3 : ¬ a.toNat < b.toNat := fun h => ab (UInt8.lt_iff_toNat_lt.mpr h)
          have h4 : ¬ b.toNat < a.toNat := fun h => ba (UInt8.lt_iff_toNat_lt.mpr h)
          omega
        rw [e]
        by_cases bc : b < c
        · rw [if_pos bc]
        · rw [if_neg bc] at h2 ⊢
          by_cases cb : c < b
          · rw [if_pos cb] at h2; cases h2
          · rw [if_neg cb] at h2 ⊢
            exact lcmp_trans h1 h2
theorem entLt_of (a b : Ent) : entLt a b = true ↔ lcmp a.1 b.1 = .lt ∨ (a.1 = b.1 ∧ a.2 < b.2) := by
  unfold entLt
  cases h : lcmp a.1 b.1 with
  | lt => simp
  | eq => simp [lcmp_eq h]
  | gt =>
    have hne : a.1 ≠ b.1 := fun e => by rw [e, lcmp_refl] at h; cases h
    simp [hne]
theorem ltOf_entLt (a b : Ent) : ltOf cmpE a b = entLt a b := by
  unfold ltOf cmpE entLt icmpI
  cases h : lcmp a.1 b.1 with
  | lt => simp [sgnO]
  | gt => simp [sgnO]
  | eq =>
    simp only [sgnO, if_true]
    by_cases h1 : a.2 < b.2
    · simp [h1]
    · by_cases h2 : b.2 < a.2 <;> simp [h1, h2]
theorem entLt_irrefl (a : Ent) : entLt a a = false := by
  cases h : entLt a a with
  | false => rfl
  | true =>
    rw [entLt_of, lcmp_refl] at h
    rcases h with h | ⟨_, h⟩
    · cases h
    · omega
theorem entLt_trans {a b c : Ent} (h1 : entLt a b = true) (h2 : entLt b c = true) : entLt a c = true := by
  rw [entLt_of] at *
  rcases h1 with h1 | ⟨e1, h1⟩
  · rcases h2 with h2 | ⟨e2, h2⟩
    · exact .inl (lcmp_trans h1 h2)
    · rw [← e2]; exact .inl h1
  · rcases h2 with h2 | ⟨e2, h2⟩
    · rw [e1]; exact .inl h2
    · exact .inr ⟨e1.trans e2, by omega⟩
theorem entLt_total {a b : Ent} (h1 : entLt a b = false) (h2 : entLt b a = false) : a = b := by
  have hs := lcmp_swap a.1 b.1
  unfold entLt at h1 h2
  rw [hs] at h2
  cases h : lcmp a.1 b.1 with
  | lt => rw [h] at h1; cases h1
  | gt => rw [h] at h2; cases h2
  | eq =>
    rw [h] at h1 h2
    simp [Ordering.swap] at h1 h2
    exact Prod.ext (lcmp_eq h) (by omega)
theorem entLt_asymm {a b : Ent} (h : entLt a b = true) : entLt b a = false := by
  cases h2 : entLt b a with
  | false => rfl
  | true => have := entLt_trans h h2; rw [entLt_irrefl] at this; cases this
theorem swoE : SWO (ltOf cmpE) where
  irrefl x := by rw [ltOf_entLt]; exact entLt_irrefl x
  trans x y z h1 h2 := by rw [ltOf_entLt] at *; exact entLt_trans h1 h2
  ntrans x y z h1 h2 := by
    rw [ltOf_entLt] at *
    cases h : entLt x z with
    | false => rfl
    | true =>
      by_cases e : x = y
      · rw [e, h2] at h; cases h
      · have h3 : entLt y x = true := by
          cases h4 : entLt y x with
          | true => rfl
          | false => exact absurd (entLt_total h1 h4) e
        rw [entLt_trans h3 h] at h2
        cases h2
theorem totE (x y : Ent) (h1 : ltOf cmpE x y = false) (h2 : ltOf cmpE y x = false) : x = y := by rw [ltOf_entLt] at *; exact entLt_total h1 h2
def sortE (l : List Ent) : List Ent := l.mergeSort fun x y => !ltOf cmpE y x
theorem sortE_length (l : List Ent) : (sortE l).length = l.length := by unfold sortE; simp
theorem grownBy_sortedE {w : World} {g n : Nat} {os : Array Obj} (F : Array Value) : w.grownBy (grow (putRow id (Sort.ahead w n) g 0 F) os) (some g) := by
  refine ⟨rfl, rfl, rfl, by simp, fun k hk hne => ?_⟩
  rw [heap_grow_old _ _ (by simpa using hk)]
  have : g ≠ k := fun e => hne (by rw [e])
  simp [putRow, mapBlock, Sort.ahead, Array.getElem?_modify, this]
theorem entsC_flat (l : List Ent) (j : Nat) (hj : j < l.length * 2) : (entsC l)[j]? = some ((flatK entC 2 l.toArray)[j]!) := by
  rw [get_flatK entC 2 l.toArray j (by simpa using hj)]
  obtain ⟨i, hi⟩ : ∃ i, j / 2 = i := ⟨_, rfl⟩
  rw [hi]
  have hil : i < l.length := by omega
  have hg : l.toArray[i]! = l[i] := by simp [hil]
  rw [hg]
  have h2 := entsC_at l i hil
  rcases (show j % 2 = 0 ∨ j % 2 = 1 by omega) with h | h
  · rw [h]
    obtain rfl : j = i * 2 := by omega
    exact h2.1
  · rw [h]
    obtain rfl : j = i * 2 + 1 := by omega
    exact h2.2
theorem sort_ents (base : Nat) (v : Value) (l : List Ent) (w : World) (hown : w.ownsRow base 53 2 v l.length (entsC l)) (hlen : l.length ≤ 1000000) :
    Calls Tryz.prog 47 #[v, .func (.func 48) #[] #[]] w fun e w' => e = .returned (.tuple #[]) ∧ ERead w'.heap.size w' v (sortE l) ∧ Only (fun x => v.ownBlock = some x) w w' := by
  have hsl := sortE_length l
  rcases ownsRow_cases hown with ⟨rfl, h0, _⟩ | ⟨g, cap, rfl⟩
  · obtain rfl : l = [] := List.eq_nil_of_length_eq_zero h0
    refine (show Calls Tryz.prog 47 #[.slice none 0 0, .func (.func 48) #[] #[]] w _ from AnyF.slices_SortFunc_none Tryz.sortEnt none 0 _ w).mono ?_
    rintro e w' ⟨rfl, rfl⟩
    have e0 : sortE [] = [] := List.eq_nil_of_length_eq_zero (by rw [hsl]; rfl)
    rw [e0]
    exact ⟨rfl, ERead.nil _ _, Only.refl _ _⟩
  · have hg : g < w.heap.size := (hown.lt g rfl).2
    have hcap : l.length ≤ cap := by
      rcases hown.2 with ⟨h1, _⟩ | ⟨g2, c2, cur, h1, _, _, h2, _⟩
      · cases h1
      · injection h1 with _ _ h3; rw [h3]; exact h2
    have hH : HoldsK entC 2 w g 0 l.toArray := by
      intro j hj
      rw [size_flatK] at hj
      have hj2 : j < l.length * 2 := by simpa using hj
      rw [Nat.zero_add]
      exact ⟨(hown.cellAt j hj2).trans (entsC_flat l j hj2), hown.frozenAt j⟩
    have hcmp : CmpLays Tryz.prog 48 #[] entC 2 cmpE g 0 l.toArray.size w := by
      intro m os dk hs x y
      refine (show Calls _ _ _ _ _ from order_any x y _).mono ?_
      rintro e w' ⟨he, o, hw⟩
      exact ⟨he, 1, o, hw⟩
    have hcon := AnyQ.slices_SortFunc_total (α := Ent) Tryz.sortEnt 2 Tryz.isAgg53 Tryz.sizeOf53 entC (fun _ => rfl) (fun x v hv => by simp [entC] at hv; rcases hv with rfl | rfl <;> rfl) cmpE swoE 48 #[] g 0 cap l.toArray w (enters_of Tryz.func48 (by kernel_rfl) rfl) hcmp hH hg (by simp; omega) totE
    refine (show Calls Tryz.prog 47 #[.slice (some ⟨g, 0, none⟩) l.length cap, .func (.func 48) #[] #[]] w _ from hcon).mono ?_
    rintro e w' ⟨rfl, n, os, rfl⟩
    have ho : Only (fun x => x = g) w (sortWorldK entC 2 w g 0 n (sortE l).toArray os) := Only.ofGrown (grownBy_sortedE _) (fun k hk => by cases hk; rfl)
    have hH2 := holdsK_sortWorldK_c entC 2 w g 0 l.toArray (sortE l).toArray n os hH hg (by simp [hsl])
    refine ⟨rfl, ⟨some ⟨g, 0, none⟩, cap, by rw [hsl], by omega, fun hp => ⟨g, 0, rfl, Nat.lt_of_lt_of_le hg ho.size, fun i hi => ?_⟩⟩, ho.mono (fun x _ e => by rw [e]; rfl)⟩
    have h1 := hH2 (i * 2) (by rw [size_flatK]; simp; omega)
    have h2 := hH2 (i * 2 + 1) (by rw [size_flatK]; simp; omega)
    have e1 := entsC_flat (sortE l) (i * 2) (by omega)
    have e2 := entsC_flat (sortE l) (i * 2 + 1) (by omega)
    have e3 := entsC_at (sortE l) i hi
    rw [e3.1] at e1
    rw [e3.2] at e2
    exact ⟨h1.1.trans e1.symm, by rw [Nat.add_assoc]; exact h2.1.trans e2.symm⟩
end Go.Proofs.YtecnjifincahaaaGreatDoor
