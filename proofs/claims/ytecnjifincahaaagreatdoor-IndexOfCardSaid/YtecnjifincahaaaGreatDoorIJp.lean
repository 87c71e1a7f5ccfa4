/- Orders, told by what each operation keeps: S is kept by what J names, and one that yields the same in any world needs nothing. -/
import Derived.Test.YtecnjifincahaaaGreatDoorIJo
namespace Go.Proofs.YtecnjifincahaaaGreatDoor
open Go.RowKit

section
variable {P : Program} {ops : Array Oper} {Q : Exit → Act → World → Prop} {md : Region.Mode} {J : Nat → Bool} {S : World → Prop}

/-- whatever order is picked from here on, and each operation that J names keeps S. -/
def AnyP (P : Program) (md : Region.Mode) (ops : Array Oper) (Q : Exit → Act → World → Prop) (J : Nat → Bool) (S : World → Prop) : Nat → Array Bool → Act → World → Prop
  | 0, l, a, w => Region.ready md ops l = [] ∧ Q .normal a w
  | n + 1, l, a, w => (Region.ready md ops l = [] → Q .normal a w) ∧ ∀ i ∈ Region.ready md ops l, wpOp P ops Q i (fun a2 w2 => (J i = true → S w → S w2) ∧ AnyP P md ops Q J S n (l.setIfInBounds i true) a2 w2) a w
theorem AnyP.any : ∀ {n : Nat} {l : Array Bool} {a : Act} {w : World}, AnyP P md ops Q J S n l a w → wpAny P md ops Q n l a w
  | 0, _, _, _, h => h
  | _ + 1, _, _, _, h => ⟨h.1, fun i hi => wpOp_mono (fun _ _ x => x.2.any) (h.2 i hi)⟩
theorem AnyP.firstT {R : Nat → Bool} (hRJ : ∀ j, R j = true → J j = true) {i : Nat} {o : Oper} {v : Value} (hi : ops[i]? = some o) (hsel : ∀ (j : Nat) (o : Oper) cs b, ops[j]? = some o → o.op ≠ .select cs b) (hQ : ∀ c a w, Q (.panic c) (a.put o.dst v) w → Q (.panic c) a w) :
    ∀ (n : Nat) (l : Array Bool) (a : Act) (w : World), (∀ j p, Early md ops l i j p → o.apart ops p = true) → (∀ j p, ops[j]? = some p → j ≠ i → l.getD j true = false → (∀ e ∈ p.after, Region.binds md e = true → e.on ≠ i ∧ (l.getD e.on false = true ∨ R e.on = true)) → R j = true) → i ∈ Region.ready md ops l → YieldsIf P ops S o v a → S w →
      AnyP P md ops Q J S n (l.setIfInBounds i true) (a.put o.dst v) w → AnyP P md ops Q J S (n + 1) l a w := by
  intro n
  induction n with
  | zero =>
    intro l a w _ _ hr hy hS h
    refine ⟨fun e => absurd hr (by rw [e]; exact List.not_mem_nil), fun j hj => ?_⟩
    rcases Decidable.em (j = i) with rfl | hne
    · exact hy.wpOp hi hS ⟨fun _ _ => hS, h⟩
    · exact absurd (ready_mono hj hne) (by rw [h.1]; exact List.not_mem_nil)
  | succ n ih =>
    intro l a w he hcl hr hy hS h
    refine ⟨fun e => absurd hr (by rw [e]; exact List.not_mem_nil), fun j hj => ?_⟩
    rcases Decidable.em (j = i) with rfl | hne
    · exact hy.wpOp hi hS ⟨fun _ _ => hS, h⟩
    obtain ⟨hj0, p, hp, hall⟩ := mem_ready.1 hj
    have hun : l.getD i true = false := (mem_ready.1 hr).1
    have hE : Early md ops l i j p := ⟨hp, hne, hj0, fun e hm hb hx => by
      have h2 := hall e hm hb
      rw [hx] at h2
      rcases Nat.lt_or_ge i l.size with h3 | h3
      · simp [h3] at hun h2; rw [hun] at h2; cases h2
      · simp [Array.getElem?_eq_none h3] at h2⟩
    have hap := he j p hE
    have hR := hcl j p hp hne hj0 fun e hm hb => ⟨hE.2.2.2 e hm hb, .inl (hall e hm hb)⟩
    refine wpOp_mono ?_ (wpOp_putIf hp hap (fun cs b => hsel i o cs b hi) (fun cs b => hsel j p cs b hp) hQ hy (h.2 j (ready_mono hj hne)))
    rintro a2 w2 ⟨hy2, hS2, h2⟩
    refine ⟨hS2, ih _ a2 w2 (fun k q hk => he k q ⟨hk.1, hk.2.1, ?_, hk.2.2.2⟩) (fun k q hq hki hkl hdep => ?_) (ready_mono hr (Ne.symm hne)) hy2 (hS2 (hRJ j hR) hS) (by rw [Array.setIfInBounds_comm _ _ hne]; exact h2)⟩
    · rcases Decidable.em (j = k) with rfl | hjk
      · exact hj0
      · have := hk.2.2.1
        rwa [getD_set_ne true hjk] at this
    · rcases Decidable.em (j = k) with rfl | hjk
      · exact hR
      · rw [getD_set_ne true hjk] at hkl
        refine hcl k q hq hki hkl fun e hm hb => ?_
        obtain ⟨h3, h4⟩ := hdep e hm hb
        refine ⟨h3, ?_⟩
        rcases Decidable.em (j = e.on) with hje | hje
        · right; rw [← hje]; exact hR
        · rcases h4 with h4 | h4
          · left; rwa [getD_set_ne false hje] at h4
          · exact .inr h4
theorem AnyP.takeT (rs : List Nat) (hrs : rs.all J = true) {os : List Oper} {i : Nat} {o : Oper} {d : Tmp} {v : Value} {n : Nat} {l : Array Bool} {a : Act} {w : World} (hi : nthO os i = some o) (hd : o.dst = some d) (hs : Region.noSelect os.toArray = true) (hf : Region.free md os.toArray l i = true) (hB : earlyT md os.toArray l i (fun j => rs.contains j) = true)
    (hr : (Region.ready md os.toArray l).contains i = true) (hQ : ∀ c a w, Q (.panic c) (a.put (some d) v) w → Q (.panic c) a w) (hw : Region.wanted o (yielded os.toArray a.tmps) = true) (hy : ∀ w, S w → (execOp a.eval o).run P w = .ok (.value v) w) (hS : S w)
    (h : AnyP P md os.toArray Q J S n (l.setIfInBounds i true) (a.put (some d) v) w) : AnyP P md os.toArray Q J S (n + 1) l a w := by
  have hi2 := (nthO_eq os i).trans hi
  refine AnyP.firstT (R := fun j => rs.contains j) (fun j hj => List.all_eq_true.1 hrs j (by simpa using hj)) (o := o) (v := v) hi2 (Region.noSelect_spec hs) (by rw [hd]; exact hQ) n l a w (fun j p hE => Region.free_spec hi2 hf j p hE.1 hE.2.1 hE.2.2.1 hE.2.2.2) (earlyT_spec hB) (by simpa using hr) (.inl ⟨hw, hy⟩) hS (by rw [hd]; exact h)
theorem AnyP.firstP {i : Nat} {o : Oper} {v : Value} (hi : ops[i]? = some o) (hsel : ∀ (j : Nat) (o : Oper) cs b, ops[j]? = some o → o.op ≠ .select cs b) (hQ : ∀ c a w, Q (.panic c) (a.put o.dst v) w → Q (.panic c) a w) :
    ∀ (n : Nat) (l : Array Bool) (a : Act) (w : World), (∀ j p, Early md ops l i j p → o.apart ops p = true) → i ∈ Region.ready md ops l → YieldsIf P ops (fun _ => True) o v a →
      AnyP P md ops Q J S n (l.setIfInBounds i true) (a.put o.dst v) w → AnyP P md ops Q J S (n + 1) l a w := by
  intro n
  induction n with
  | zero =>
    intro l a w _ hr hy h
    refine ⟨fun e => absurd hr (by rw [e]; exact List.not_mem_nil), fun j hj => ?_⟩
    rcases Decidable.em (j = i) with rfl | hne
    · exact hy.wpOp hi trivial ⟨fun _ hs => hs, h⟩
    · exact absurd (ready_mono hj hne) (by rw [h.1]; exact List.not_mem_nil)
  | succ n ih =>
    intro l a w he hr hy h
    refine ⟨fun e => absurd hr (by rw [e]; exact List.not_mem_nil), fun j hj => ?_⟩
    rcases Decidable.em (j = i) with rfl | hne
    · exact hy.wpOp hi trivial ⟨fun _ hs => hs, h⟩
    obtain ⟨hj0, p, hp, hall⟩ := mem_ready.1 hj
    have hun : l.getD i true = false := (mem_ready.1 hr).1
    have hE : Early md ops l i j p := ⟨hp, hne, hj0, fun e hm hb hx => by
      have h2 := hall e hm hb
      rw [hx] at h2
      rcases Nat.lt_or_ge i l.size with h3 | h3
      · simp [h3] at hun h2; rw [hun] at h2; cases h2
      · simp [Array.getElem?_eq_none h3] at h2⟩
    refine wpOp_mono ?_ (wpOp_putIf hp (he j p hE) (fun cs b => hsel i o cs b hi) (fun cs b => hsel j p cs b hp) hQ hy (h.2 j (ready_mono hj hne)))
    rintro a2 w2 ⟨hy2, hS2, h2⟩
    refine ⟨hS2, ih _ a2 w2 (fun k q hk => he k q ⟨hk.1, hk.2.1, ?_, hk.2.2.2⟩) (ready_mono hr (Ne.symm hne)) hy2 (by rw [Array.setIfInBounds_comm _ _ hne]; exact h2)⟩
    rcases Decidable.em (j = k) with rfl | hjk
    · exact hj0
    · have := hk.2.2.1
      rwa [getD_set_ne true hjk] at this
theorem AnyP.takeP {os : List Oper} {i : Nat} {o : Oper} {d : Tmp} {v : Value} {n : Nat} {l : Array Bool} {a : Act} {w : World} (hi : nthO os i = some o) (hd : o.dst = some d) (hs : Region.noSelect os.toArray = true) (hf : Region.free md os.toArray l i = true)
    (hr : (Region.ready md os.toArray l).contains i = true) (hQ : ∀ c a w, Q (.panic c) (a.put (some d) v) w → Q (.panic c) a w) (hw : Region.wanted o (yielded os.toArray a.tmps) = true) (hy : ∀ w, (execOp a.eval o).run P w = .ok (.value v) w)
    (h : AnyP P md os.toArray Q J S n (l.setIfInBounds i true) (a.put (some d) v) w) : AnyP P md os.toArray Q J S (n + 1) l a w := by
  have hi2 := (nthO_eq os i).trans hi
  exact AnyP.firstP (o := o) (v := v) hi2 (Region.noSelect_spec hs) (by rw [hd]; exact hQ) n l a w (fun j p hE => Region.free_spec hi2 hf j p hE.1 hE.2.1 hE.2.2.1 hE.2.2.2) (by simpa using hr) (.inl ⟨hw, fun w _ => hy w⟩) (by rw [hd]; exact h)
theorem AnyP.stepL {os : List Oper} {n i : Nat} {l : Array Bool} {a : Act} {w : World} {o : Oper} (hi : nthO os i = some o)
    (h : ∀ K : Act → World → Prop, Shut (∀ a w2, (J i = true → S w → S w2) → AnyP P md os.toArray Q J S n (l.setIfInBounds i true) a w2 → K a w2) → if Region.wanted o (yielded os.toArray a.tmps) = true then Oper.wp P o a w K Q else K (a.put o.dst undef) w) :
    wpOp P os.toArray Q i (fun a2 w2 => (J i = true → S w → S w2) ∧ AnyP P md os.toArray Q J S n (l.setIfInBounds i true) a2 w2) a w :=
  wpOp_step ((nthO_eq os i).trans hi) (fun K hK => h K (fun a w h1 h2 => hK a w ⟨h1, h2⟩))
theorem AnyP.oneL {os : List Oper} {n i : Nat} {l : Array Bool} {a : Act} {w : World} {oi : Oper} (hr : Region.ready md os.toArray l = [i]) (hi : nthO os i = some oi)
    (h : (∀ K : Act → World → Prop, Shut (∀ a w2, (J i = true → S w → S w2) → AnyP P md os.toArray Q J S n (l.setIfInBounds i true) a w2 → K a w2) → if Region.wanted oi (yielded os.toArray a.tmps) = true then Oper.wp P oi a w K Q else K (a.put oi.dst undef) w)) : AnyP P md os.toArray Q J S (n + 1) l a w :=
  ⟨fun e => absurd (hr.symm.trans e) (by simp), fun j hj => by rw [hr] at hj; obtain rfl := List.mem_singleton.mp hj; exact AnyP.stepL hi h⟩
theorem AnyP.twoL {os : List Oper} {n i k : Nat} {l : Array Bool} {a : Act} {w : World} {oi ok : Oper} (hr : Region.ready md os.toArray l = [i, k]) (hi : nthO os i = some oi) (hk : nthO os k = some ok)
    (h : (∀ K : Act → World → Prop, Shut (∀ a w2, (J i = true → S w → S w2) → AnyP P md os.toArray Q J S n (l.setIfInBounds i true) a w2 → K a w2) → if Region.wanted oi (yielded os.toArray a.tmps) = true then Oper.wp P oi a w K Q else K (a.put oi.dst undef) w))
    (g : (∀ K : Act → World → Prop, Shut (∀ a w2, (J k = true → S w → S w2) → AnyP P md os.toArray Q J S n (l.setIfInBounds k true) a w2 → K a w2) → if Region.wanted ok (yielded os.toArray a.tmps) = true then Oper.wp P ok a w K Q else K (a.put ok.dst undef) w)) : AnyP P md os.toArray Q J S (n + 1) l a w :=
  ⟨fun e => absurd (hr.symm.trans e) (by simp), fun j hj => by
    rw [hr] at hj
    rcases List.mem_cons.mp hj with rfl | hj
    · exact AnyP.stepL hi h
    · obtain rfl := List.mem_singleton.mp hj; exact AnyP.stepL hk g⟩
theorem AnyP.done {n : Nat} {l : Array Bool} {a : Act} {w : World} (hr : Region.ready md ops l = []) (h : Q .normal a w) : AnyP P md ops Q J S n l a w := by
  cases n with
  | zero => exact ⟨hr, h⟩
  | succ n => exact ⟨fun _ => h, fun j hj => absurd hj (by rw [hr]; exact List.not_mem_nil)⟩
theorem AnyP.begin {id : Nat} {n : Nat} {l : Array Bool} {a : Act} {w : World} (hm : P.follows .mixedOrders = true) (hn : ops.size = n) (hl : Array.replicate n false = l) (h : AnyP P .any ops Q J S n l a w.drew) : (Code.region id ops true).wp P Q a w := by
  subst hn hl
  exact wp_region_any hm h.any
end
end Go.Proofs.YtecnjifincahaaaGreatDoor
