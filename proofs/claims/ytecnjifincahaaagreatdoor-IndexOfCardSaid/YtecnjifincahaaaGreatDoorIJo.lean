/- Orders: a load is taken first although a later operation of the region writes its cell: what may run ahead of it alone must keep the cell. -/
import Derived.Test.YtecnjifincahaaaGreatDoorGA
namespace Go.Proofs.YtecnjifincahaaaGreatDoor
open Go.RowKit

section
variable {P : Program} {ops : Array Oper} {Q : Exit → Act → World → Prop} {md : Region.Mode} {J : Nat → Bool} {S : World → Prop}

/-- whatever order is picked from here on, and S holds behind each operation that J names. -/
def AnyJ (P : Program) (md : Region.Mode) (ops : Array Oper) (Q : Exit → Act → World → Prop) (J : Nat → Bool) (S : World → Prop) : Nat → Array Bool → Act → World → Prop
  | 0, l, a, w => Region.ready md ops l = [] ∧ Q .normal a w
  | n + 1, l, a, w => (Region.ready md ops l = [] → Q .normal a w) ∧ ∀ i ∈ Region.ready md ops l, wpOp P ops Q i (fun a2 w2 => (J i = true → S w2) ∧ AnyJ P md ops Q J S n (l.setIfInBounds i true) a2 w2) a w
theorem AnyJ.any : ∀ {n : Nat} {l : Array Bool} {a : Act} {w : World}, AnyJ P md ops Q J S n l a w → wpAny P md ops Q n l a w
  | 0, _, _, _, h => h
  | _ + 1, _, _, _, h => ⟨h.1, fun i hi => wpOp_mono (fun _ _ x => x.2.any) (h.2 i hi)⟩
/-- operation j does not wait for i, and may be still to come. -/
def Early (md : Region.Mode) (ops : Array Oper) (l : Array Bool) (i j : Nat) (o : Oper) : Prop := ops[j]? = some o ∧ j ≠ i ∧ l.getD j true = false ∧ ∀ e ∈ o.after, Region.binds md e = true → e.on ≠ i
theorem AnyJ.first {i : Nat} {o : Oper} {v : Value} (hi : ops[i]? = some o) (hsel : ∀ (j : Nat) (o : Oper) cs b, ops[j]? = some o → o.op ≠ .select cs b) (hQ : ∀ c a w, Q (.panic c) (a.put o.dst v) w → Q (.panic c) a w) :
    ∀ (n : Nat) (l : Array Bool) (a : Act) (w : World), (∀ j p, Early md ops l i j p → o.apart ops p = true ∧ J j = true) → i ∈ Region.ready md ops l → YieldsIf P ops S o v a → S w →
      AnyJ P md ops Q J S n (l.setIfInBounds i true) (a.put o.dst v) w → AnyJ P md ops Q J S (n + 1) l a w := by
  intro n
  induction n with
  | zero =>
    intro l a w _ hr hy hS h
    refine ⟨fun e => absurd hr (by rw [e]; exact List.not_mem_nil), fun j hj => ?_⟩
    rcases Decidable.em (j = i) with rfl | hne
    · exact hy.wpOp hi hS ⟨fun _ => hS, h⟩
    · exact absurd (ready_mono hj hne) (by rw [h.1]; exact List.not_mem_nil)
  | succ n ih =>
    intro l a w he hr hy hS h
    refine ⟨fun e => absurd hr (by rw [e]; exact List.not_mem_nil), fun j hj => ?_⟩
    rcases Decidable.em (j = i) with rfl | hne
    · exact hy.wpOp hi hS ⟨fun _ => hS, h⟩
    obtain ⟨hj0, p, hp, hall⟩ := mem_ready.1 hj
    have hun : l.getD i true = false := (mem_ready.1 hr).1
    have hE : Early md ops l i j p := ⟨hp, hne, hj0, fun e hm hb hx => by
      have h2 := hall e hm hb
      rw [hx] at h2
      rcases Nat.lt_or_ge i l.size with h3 | h3
      · simp [h3] at hun h2; rw [hun] at h2; cases h2
      · simp [Array.getElem?_eq_none h3] at h2⟩
    obtain ⟨hap, hJ⟩ := he j p hE
    refine wpOp_mono ?_ (wpOp_putIf hp hap (fun cs b => hsel i o cs b hi) (fun cs b => hsel j p cs b hp) hQ hy (h.2 j (ready_mono hj hne)))
    rintro a2 w2 ⟨hy2, hS2, h2⟩
    refine ⟨hS2, ih _ a2 w2 (fun k q hk => he k q ⟨hk.1, hk.2.1, ?_, hk.2.2.2⟩) (ready_mono hr (Ne.symm hne)) hy2 (hS2 hJ) (by rw [Array.setIfInBounds_comm _ _ hne]; exact h2)⟩
    rcases Decidable.em (j = k) with rfl | hjk
    · exact hj0
    · have := hk.2.2.1
      rwa [getD_set_ne true hjk] at this
/-- each operation that may run ahead of i is named by J. -/
def earlyB (md : Region.Mode) (ops : Array Oper) (l : Array Bool) (i : Nat) (J : Nat → Bool) : Bool :=
  (List.range ops.size).all fun j => j == i || l.getD j true || J j || match ops[j]? with
    | some p => p.after.any fun e => Region.binds md e && e.on == i
    | none => true
theorem AnyJ.take {i : Nat} {o : Oper} {v : Value} {n : Nat} {l : Array Bool} {a : Act} {w : World} (hi : ops[i]? = some o) (hs : Region.noSelect ops = true) (hf : Region.free md ops l i = true) (hB : earlyB md ops l i J = true)
    (hr : (Region.ready md ops l).contains i = true) (hQ : ∀ c a w, Q (.panic c) (a.put o.dst v) w → Q (.panic c) a w) (hy : YieldsIf P ops S o v a) (hS : S w)
    (h : AnyJ P md ops Q J S n (l.setIfInBounds i true) (a.put o.dst v) w) : AnyJ P md ops Q J S (n + 1) l a w := by
  refine AnyJ.first hi (Region.noSelect_spec hs) hQ n l a w (fun j p hE => ⟨Region.free_spec hi hf j p hE.1 hE.2.1 hE.2.2.1 hE.2.2.2, ?_⟩) (by simpa using hr) hy hS h
  unfold earlyB at hB
  rw [List.all_eq_true] at hB
  have h1 := hB j (List.mem_range.mpr (Array.getElem?_eq_some_iff.1 hE.1).1)
  simp only [hE.1, hE.2.2.1, Bool.or_eq_true, beq_iff_eq, hE.2.1, false_or, Bool.false_eq_true] at h1
  rcases h1 with h1 | h1
  · exact h1
  · obtain ⟨e, he, hb⟩ := Array.any_eq_true'.1 h1
    rw [Bool.and_eq_true, beq_iff_eq] at hb
    exact absurd hb.2 (hE.2.2.2 e he hb.1)
/-- one operation that comes up. -/
theorem AnyJ.step {n i : Nat} {l : Array Bool} {a : Act} {w : World} {o : Oper} (ho : ops[i]? = some o)
    (h : ∀ K : Act → World → Prop, Shut (∀ a w, (J i = true → S w) → AnyJ P md ops Q J S n (l.setIfInBounds i true) a w → K a w) → if Region.wanted o (yielded ops a.tmps) = true then Oper.wp P o a w K Q else K (a.put o.dst undef) w) :
    wpOp P ops Q i (fun a2 w2 => (J i = true → S w2) ∧ AnyJ P md ops Q J S n (l.setIfInBounds i true) a2 w2) a w :=
  wpOp_step ho (fun K hK => h K (fun a w h1 h2 => hK a w ⟨h1, h2⟩))
theorem AnyJ.one {n i : Nat} {l : Array Bool} {a : Act} {w : World} (hr : Region.ready md ops l = [i])
    (h : wpOp P ops Q i (fun a2 w2 => (J i = true → S w2) ∧ AnyJ P md ops Q J S n (l.setIfInBounds i true) a2 w2) a w) : AnyJ P md ops Q J S (n + 1) l a w :=
  ⟨fun e => absurd (hr.symm.trans e) (by simp), fun j hj => by rw [hr] at hj; obtain rfl := List.mem_singleton.mp hj; exact h⟩
theorem AnyJ.two {n i k : Nat} {l : Array Bool} {a : Act} {w : World} (hr : Region.ready md ops l = [i, k])
    (h : wpOp P ops Q i (fun a2 w2 => (J i = true → S w2) ∧ AnyJ P md ops Q J S n (l.setIfInBounds i true) a2 w2) a w)
    (g : wpOp P ops Q k (fun a2 w2 => (J k = true → S w2) ∧ AnyJ P md ops Q J S n (l.setIfInBounds k true) a2 w2) a w) : AnyJ P md ops Q J S (n + 1) l a w :=
  ⟨fun e => absurd (hr.symm.trans e) (by simp), fun j hj => by
    rw [hr] at hj
    rcases List.mem_cons.mp hj with rfl | hj
    · exact h
    · obtain rfl := List.mem_singleton.mp hj; exact g⟩
theorem AnyJ.done {n : Nat} {l : Array Bool} {a : Act} {w : World} (hr : Region.ready md ops l = []) (h : Q .normal a w) : AnyJ P md ops Q J S n l a w := by
  cases n with
  | zero => exact ⟨hr, h⟩
  | succ n => exact ⟨fun _ => h, fun j hj => absurd hj (by rw [hr]; exact List.not_mem_nil)⟩
theorem AnyJ.turn {J2 : Nat → Bool} {S2 : World → Prop} : ∀ {n : Nat} {l : Array Bool} {a : Act} {w : World}, (∀ j o, ops[j]? = some o → l.getD j true = false → J j = false) → AnyJ P md ops Q J2 S2 n l a w → AnyJ P md ops Q J S n l a w
  | 0, _, _, _, _, h => h
  | n + 1, l, _, _, hJ, h => ⟨h.1, fun i hi => by
    obtain ⟨h0, o, ho, _⟩ := mem_ready.1 hi
    refine wpOp_mono (fun a2 w2 x => ⟨fun e => absurd ((hJ i o ho h0).symm.trans e) (by simp), AnyJ.turn (fun j p hp hj => hJ j p hp ?_) x.2⟩) (h.2 i hi)
    rcases Decidable.em (i = j) with rfl | hne
    · exact h0
    · rwa [getD_set_ne true hne] at hj⟩
/-- nothing is left that must keep anything. -/
def freeB (ops : Array Oper) (l : Array Bool) (J : Nat → Bool) : Bool := (List.range ops.size).all fun j => l.getD j true || !J j
theorem AnyJ.rest {n : Nat} {l : Array Bool} {a : Act} {w : World} (hB : freeB ops l J = true) (h : AnyJ P md ops Q (fun _ => true) (fun _ => True) n l a w) : AnyJ P md ops Q J S n l a w := by
  refine AnyJ.turn (fun j o ho hj => ?_) h
  unfold freeB at hB
  rw [List.all_eq_true] at hB
  have h1 := hB j (List.mem_range.mpr (Array.getElem?_eq_some_iff.1 ho).1)
  rw [hj, Bool.false_or, Bool.not_eq_true'] at h1
  exact h1
theorem AnyJ.begin {id : Nat} {n : Nat} {l : Array Bool} {a : Act} {w : World} (hm : P.follows .mixedOrders = true) (hn : ops.size = n) (hl : Array.replicate n false = l) (h : AnyJ P .any ops Q J S n l a w.drew) : (Code.region id ops true).wp P Q a w := by
  subst hn hl
  exact wp_region_any hm h.any
/-- the list's entry, laid out by computing. -/
def nthO : List Oper → Nat → Option Oper
  | [], _ => none
  | o :: _, 0 => some o
  | _ :: l, n + 1 => nthO l n
theorem nthO_eq : ∀ (os : List Oper) (i : Nat), os.toArray[i]? = nthO os i
  | [], _ => by simp [nthO]
  | o :: l, 0 => by simp [nthO]
  | o :: l, n + 1 => by
    have h := nthO_eq l n
    rw [List.getElem?_toArray] at h ⊢
    rw [List.getElem?_cons_succ, h, nthO]
theorem AnyJ.takeL {os : List Oper} {i : Nat} {o : Oper} {d : Tmp} {v : Value} {n : Nat} {l : Array Bool} {a : Act} {w : World} (hi : nthO os i = some o) (hd : o.dst = some d) (hs : Region.noSelect os.toArray = true) (hf : Region.free md os.toArray l i = true) (hB : earlyB md os.toArray l i J = true)
    (hr : (Region.ready md os.toArray l).contains i = true) (hQ : ∀ c a w, Q (.panic c) (a.put (some d) v) w → Q (.panic c) a w) (hw : Region.wanted o (yielded os.toArray a.tmps) = true) (hy : ∀ w, S w → (execOp a.eval o).run P w = .ok (.value v) w) (hS : S w)
    (h : AnyJ P md os.toArray Q J S n (l.setIfInBounds i true) (a.put (some d) v) w) : AnyJ P md os.toArray Q J S (n + 1) l a w :=
  AnyJ.take (o := o) (v := v) ((nthO_eq os i).trans hi) hs hf hB hr (by rw [hd]; exact hQ) (.inl ⟨hw, hy⟩) hS (by rw [hd]; exact h)
theorem AnyJ.stepL {os : List Oper} {n i : Nat} {l : Array Bool} {a : Act} {w : World} {o : Oper} (hi : nthO os i = some o)
    (h : ∀ K : Act → World → Prop, Shut (∀ a w, (J i = true → S w) → AnyJ P md os.toArray Q J S n (l.setIfInBounds i true) a w → K a w) → if Region.wanted o (yielded os.toArray a.tmps) = true then Oper.wp P o a w K Q else K (a.put o.dst undef) w) :
    wpOp P os.toArray Q i (fun a2 w2 => (J i = true → S w2) ∧ AnyJ P md os.toArray Q J S n (l.setIfInBounds i true) a2 w2) a w :=
  AnyJ.step ((nthO_eq os i).trans hi) h
theorem AnyJ.oneL {os : List Oper} {n i : Nat} {l : Array Bool} {a : Act} {w : World} {oi : Oper} (hr : Region.ready md os.toArray l = [i]) (hi : nthO os i = some oi)
    (h : (∀ K : Act → World → Prop, Shut (∀ a w, (J i = true → S w) → AnyJ P md os.toArray Q J S n (l.setIfInBounds i true) a w → K a w) → if Region.wanted oi (yielded os.toArray a.tmps) = true then Oper.wp P oi a w K Q else K (a.put oi.dst undef) w)) : AnyJ P md os.toArray Q J S (n + 1) l a w := AnyJ.one hr (AnyJ.stepL hi h)
theorem AnyJ.twoL {os : List Oper} {n i j : Nat} {l : Array Bool} {a : Act} {w : World} {oi oj : Oper} (hr : Region.ready md os.toArray l = [i, j]) (hi : nthO os i = some oi) (hj : nthO os j = some oj)
    (h : (∀ K : Act → World → Prop, Shut (∀ a w, (J i = true → S w) → AnyJ P md os.toArray Q J S n (l.setIfInBounds i true) a w → K a w) → if Region.wanted oi (yielded os.toArray a.tmps) = true then Oper.wp P oi a w K Q else K (a.put oi.dst undef) w)) (g : (∀ K : Act → World → Prop, Shut (∀ a w, (J j = true → S w) → AnyJ P md os.toArray Q J S n (l.setIfInBounds j true) a w → K a w) → if Region.wanted oj (yielded os.toArray a.tmps) = true then Oper.wp P oj a w K Q else K (a.put oj.dst undef) w)) : AnyJ P md os.toArray Q J S (n + 1) l a w := AnyJ.two hr (AnyJ.stepL hi h) (AnyJ.stepL hj g)
/-- whatever may run ahead of i is named by J: what J does not name waits for i, or for one that J does not name either. -/
def earlyT (md : Region.Mode) (ops : Array Oper) (l : Array Bool) (i : Nat) (J : Nat → Bool) : Bool :=
  (List.range ops.size).all fun j => j == i || l.getD j true || J j || match ops[j]? with
    | some p => p.after.any fun e => Region.binds md e && (e.on == i || (!(l.getD e.on false) && !(J e.on)))
    | none => true
theorem earlyT_spec {i : Nat} {l : Array Bool} (h : earlyT md ops l i J = true) (j : Nat) (p : Oper) (hp : ops[j]? = some p) (hne : j ≠ i) (hl : l.getD j true = false) (ha : ∀ e ∈ p.after, Region.binds md e = true → e.on ≠ i ∧ (l.getD e.on false = true ∨ J e.on = true)) : J j = true := by
  unfold earlyT at h
  rw [List.all_eq_true] at h
  have h1 := h j (List.mem_range.mpr (Array.getElem?_eq_some_iff.1 hp).1)
  simp only [hp, hl, Bool.or_eq_true, beq_iff_eq, hne, false_or, Bool.false_eq_true] at h1
  rcases h1 with h1 | h1
  · exact h1
  · obtain ⟨e, he, hb⟩ := Array.any_eq_true'.1 h1
    rw [Bool.and_eq_true] at hb
    obtain ⟨h2, h3⟩ := ha e he hb.1
    have h4 := hb.2
    rw [Bool.or_eq_true, beq_iff_eq, Bool.and_eq_true, Bool.not_eq_true', Bool.not_eq_true'] at h4
    rcases h4 with h4 | ⟨h4, h5⟩
    · exact absurd h4 h2
    · rcases h3 with h3 | h3
      · rw [h3] at h4; cases h4
      · rw [h3] at h5; cases h5
theorem AnyJ.firstT {R : Nat → Bool} (hRJ : ∀ j, R j = true → J j = true) {i : Nat} {o : Oper} {v : Value} (hi : ops[i]? = some o) (hsel : ∀ (j : Nat) (o : Oper) cs b, ops[j]? = some o → o.op ≠ .select cs b) (hQ : ∀ c a w, Q (.panic c) (a.put o.dst v) w → Q (.panic c) a w) :
    ∀ (n : Nat) (l : Array Bool) (a : Act) (w : World), (∀ j p, Early md ops l i j p → o.apart ops p = true) → (∀ j p, ops[j]? = some p → j ≠ i → l.getD j true = false → (∀ e ∈ p.after, Region.binds md e = true → e.on ≠ i ∧ (l.getD e.on false = true ∨ R e.on = true)) → R j = true) → i ∈ Region.ready md ops l → YieldsIf P ops S o v a → S w →
      AnyJ P md ops Q J S n (l.setIfInBounds i true) (a.put o.dst v) w → AnyJ P md ops Q J S (n + 1) l a w := by
  intro n
  induction n with
  | zero =>
    intro l a w _ _ hr hy hS h
    refine ⟨fun e => absurd hr (by rw [e]; exact List.not_mem_nil), fun j hj => ?_⟩
    rcases Decidable.em (j = i) with rfl | hne
    · exact hy.wpOp hi hS ⟨fun _ => hS, h⟩
    · exact absurd (ready_mono hj hne) (by rw [h.1]; exact List.not_mem_nil)
  | succ n ih =>
    intro l a w he hcl hr hy hS h
    refine ⟨fun e => absurd hr (by rw [e]; exact List.not_mem_nil), fun j hj => ?_⟩
    rcases Decidable.em (j = i) with rfl | hne
    · exact hy.wpOp hi hS ⟨fun _ => hS, h⟩
    obtain ⟨hj0, p, hp, hall⟩ := mem_ready.1 hj
    have hun : l.getD i true = false := (mem_ready.1 hr).1
    have hE : Early md ops l i j p := ⟨hp, hne, hj0, fun e hm hb hx => by
      have h2 := hall e hm hb
      rw [hx] at h2
      rcases Nat.lt_or_ge i l.size with h3 | h3
      · simp [h3] at hun h2; rw [hun] at h2; cases h2
      · simp [Array.getElem?_eq_none h3] at h2⟩
    have hap := he j p hE
    have hR := hcl j p hp hne hj0 fun e hm hb => ⟨hE.2.2.2 e hm hb, .inl (hall e hm hb)⟩
    refine wpOp_mono ?_ (wpOp_putIf hp hap (fun cs b => hsel i o cs b hi) (fun cs b => hsel j p cs b hp) hQ hy (h.2 j (ready_mono hj hne)))
    rintro a2 w2 ⟨hy2, hS2, h2⟩
    refine ⟨hS2, ih _ a2 w2 (fun k q hk => he k q ⟨hk.1, hk.2.1, ?_, hk.2.2.2⟩) (fun k q hq hki hkl hdep => ?_) (ready_mono hr (Ne.symm hne)) hy2 (hS2 (hRJ j hR)) (by rw [Array.setIfInBounds_comm _ _ hne]; exact h2)⟩
    · rcases Decidable.em (j = k) with rfl | hjk
      · exact hj0
      · have := hk.2.2.1
        rwa [getD_set_ne true hjk] at this
    · rcases Decidable.em (j = k) with rfl | hjk
      · exact hR
      · rw [getD_set_ne true hjk] at hkl
        refine hcl k q hq hki hkl fun e hm hb => ?_
        obtain ⟨h3, h4⟩ := hdep e hm hb
        refine ⟨h3, ?_⟩
        rcases Decidable.em (j = e.on) with hje | hje
        · right; rw [← hje]; exact hR
        · rcases h4 with h4 | h4
          · left; rwa [getD_set_ne false hje] at h4
          · exact .inr h4
theorem AnyJ.takeT (rs : List Nat) (hrs : rs.all J = true) {os : List Oper} {i : Nat} {o : Oper} {d : Tmp} {v : Value} {n : Nat} {l : Array Bool} {a : Act} {w : World} (hi : nthO os i = some o) (hd : o.dst = some d) (hs : Region.noSelect os.toArray = true) (hf : Region.free md os.toArray l i = true) (hB : earlyT md os.toArray l i (fun j => rs.contains j) = true)
    (hr : (Region.ready md os.toArray l).contains i = true) (hQ : ∀ c a w, Q (.panic c) (a.put (some d) v) w → Q (.panic c) a w) (hw : Region.wanted o (yielded os.toArray a.tmps) = true) (hy : ∀ w, S w → (execOp a.eval o).run P w = .ok (.value v) w) (hS : S w)
    (h : AnyJ P md os.toArray Q J S n (l.setIfInBounds i true) (a.put (some d) v) w) : AnyJ P md os.toArray Q J S (n + 1) l a w := by
  have hi2 := (nthO_eq os i).trans hi
  refine AnyJ.firstT (R := fun j => rs.contains j) (fun j hj => List.all_eq_true.1 hrs j (by simpa using hj)) (o := o) (v := v) hi2 (Region.noSelect_spec hs) (by rw [hd]; exact hQ) n l a w (fun j p hE => Region.free_spec hi2 hf j p hE.1 hE.2.1 hE.2.2.1 hE.2.2.2) (earlyT_spec hB) (by simpa using hr) (.inl ⟨hw, hy⟩) hS (by rw [hd]; exact h)
end
end Go.Proofs.YtecnjifincahaaaGreatDoor
