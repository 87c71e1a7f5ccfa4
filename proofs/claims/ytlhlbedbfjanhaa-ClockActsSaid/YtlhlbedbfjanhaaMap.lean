/- Maps by their entries: look-up, store, delete, for any type of keys whose '==' is known. -/
import Derived.Test.YtlhlbedbfjanhaaBase
import Derived.MapViews
namespace Go.Proofs.Ytlhlbedbfjanhaa
open Go.RowKit

structure KeyEnc (P : Program) (kt : TypeId) {κ : Type} [DecidableEq κ] (inj : κ → Value) : Prop where
  und : ∃ kind, P.underlying kt = some kind ∧ ((∀ a b, Instr.sameNow kind (inj a) (inj b) = some (decide (a = b))) ∨ (∀ a b, Instr.sameNow kind (inj a) (inj b) = none))
  eqRun : ∀ a b w, (Op.equal kt (inj a) (inj b)).run P w = .ok (decide (a = b)) w
  check : ∀ b a w, (Instr.checkKey b 10000 kt (inj a)).run P w = .ok () w
  same : ∀ a, Instr.sameBits 10000 (inj a) (inj a) = true
  inj : ∀ a b, inj a = inj b → a = b

section
variable {P : Program} {κ : Type} [DecidableEq κ] {kt : TypeId} {inj : κ → Value}

def fnd (k : κ) : List (κ × Value) → Nat → Option (Nat × Value)
  | [], _ => none
  | p :: r, i => if k = p.1 then some (i, p.2) else fnd k r (i + 1)

def entryOf (inj : κ → Value) (p : κ × Value) : Value × Value := (inj p.1, p.2)

theorem findAsking_run (K : KeyEnc P kt inj) (k : κ) (w : World) : ∀ (es : List MapEntry) (ks : List (κ × Value)) (i : Nat), es.map (fun e => (e.key, e.val)) = ks.map (entryOf inj) →
    (Instr.findAsking kt (inj k) es i).run P w = .ok (fnd k ks i) w
  | [], [], i, _ => by simp [Instr.findAsking, fnd]
  | [], p :: ks, i, h => by simp at h
  | e :: es, [], i, h => by simp at h
  | e :: es, p :: ks, i, h => by
    simp only [List.map_cons, List.cons.injEq, entryOf, Prod.mk.injEq] at h
    obtain ⟨⟨h1, h2⟩, h3⟩ := h
    have ih := findAsking_run K k w es ks (i + 1) h3
    simp only [Instr.findAsking, Sem.run_bind, h1, K.eqRun, Result.andThen_ok]
    by_cases hk : k = p.1
    · simp [hk, fnd, h2]
    · simp [hk, fnd, ih]

theorem findNow_some {kind : TypeDesc} (K : ∀ a b, Instr.sameNow kind (inj a) (inj b) = some (decide (a = b))) (k : κ) : ∀ (es : List MapEntry) (ks : List (κ × Value)) (i : Nat), es.map (fun e => (e.key, e.val)) = ks.map (entryOf inj) →
    Instr.findNow kind (inj k) es i = some (fnd k ks i)
  | [], [], i, _ => by simp [Instr.findNow, fnd]
  | [], p :: ks, i, h => by simp at h
  | e :: es, [], i, h => by simp at h
  | e :: es, p :: ks, i, h => by
    simp only [List.map_cons, List.cons.injEq, entryOf, Prod.mk.injEq] at h
    obtain ⟨⟨h1, h2⟩, h3⟩ := h
    have ih := findNow_some K k es ks (i + 1) h3
    simp only [Instr.findNow, h1, K]
    by_cases hk : k = p.1
    · simp [hk, fnd, h2]
    · simp [hk, fnd, ih]

theorem findKey_run (K : KeyEnc P kt inj) (k : κ) (w : World) (es : List MapEntry) (ks : List (κ × Value)) (h : es.map (fun e => (e.key, e.val)) = ks.map (entryOf inj)) :
    (Instr.findKey kt (inj k) es).run P w = .ok (fnd k ks 0) w := by
  obtain ⟨kind, hu, hn | hn⟩ := K.und
  · simp [Instr.findKey, run_underlying hu, findNow_some hn k es ks 0 h]
  · cases es with
    | nil =>
      cases ks with
      | nil => simp [Instr.findKey, run_underlying hu, Instr.findNow, fnd]
      | cons p ks => simp at h
    | cons e es =>
      cases ks with
      | nil => simp at h
      | cons p ks =>
        have hr := findAsking_run K k w (e :: es) (p :: ks) 0 h
        simp only [List.map_cons, List.cons.injEq, entryOf, Prod.mk.injEq] at h
        have : Instr.findNow kind (inj k) (e :: es) 0 = none := by simp [Instr.findNow, h.1.1, hn]
        simp [Instr.findKey, run_underlying hu, this, hr]

theorem fnd_shift (k : κ) : ∀ (ks : List (κ × Value)) (i : Nat), fnd k ks i = (fnd k ks 0).map fun p => (p.1 + i, p.2)
  | [], i => rfl
  | p :: r, i => by
    unfold fnd
    by_cases h : k = p.1
    · simp [h]
    · simp only [h, if_false]
      rw [fnd_shift k r (i + 1), fnd_shift k r (0 + 1)]
      cases fnd k r 0 with
      | none => rfl
      | some q => simp; omega
theorem fnd_none {k : κ} : ∀ {ks : List (κ × Value)} {i : Nat}, fnd k ks i = none ↔ ∀ p ∈ ks, p.1 ≠ k
  | [], i => by simp [fnd]
  | p :: r, i => by
    unfold fnd
    by_cases h : k = p.1
    · simp [h]
    · simp only [h, if_false, fnd_none (ks := r), List.mem_cons, forall_eq_or_imp]
      exact ⟨fun h2 => ⟨fun e => h e.symm, h2⟩, fun h2 => h2.2⟩
theorem fnd_some {k : κ} : ∀ {ks : List (κ × Value)} {i : Nat} {v : Value}, fnd k ks 0 = some (i, v) → ∃ pre post, ks = pre ++ (k, v) :: post ∧ pre.length = i ∧ ∀ p ∈ pre, p.1 ≠ k
  | [], i, v, h => by simp [fnd] at h
  | p :: r, i, v, h => by
    unfold fnd at h
    by_cases hk : k = p.1
    · simp only [hk, if_true, Option.some.injEq, Prod.mk.injEq] at h
      exact ⟨[], r, by rw [← h.2, hk]; rfl, h.1, by simp⟩
    · simp only [hk, if_false] at h
      rw [fnd_shift] at h
      cases hf : fnd k r 0 with
      | none => simp [hf] at h
      | some q =>
        simp only [hf, Option.map_some, Option.some.injEq, Prod.mk.injEq] at h
        obtain ⟨pre, post, e, hl, hp⟩ := fnd_some (i := q.1) (v := q.2) hf
        refine ⟨p :: pre, post, by rw [e, h.2]; rfl, by simp [hl, ← h.1], ?_⟩
        intro x hx
        rcases List.mem_cons.1 hx with rfl | hx
        · exact fun e => hk e.symm
        · exact hp x hx
def look (ks : List (κ × Value)) (k : κ) : Option Value := (fnd k ks 0).map Prod.snd
theorem look_cons (p : κ × Value) (r : List (κ × Value)) (k : κ) : look (p :: r) k = if k = p.1 then some p.2 else look r k := by
  unfold look
  rw [show fnd k (p :: r) 0 = if k = p.1 then some (0, p.2) else fnd k r 1 from rfl]
  by_cases h : k = p.1
  · simp [h]
  · simp only [h, if_false]
    rw [fnd_shift]
    cases fnd k r 0 <;> rfl
theorem modify_mid {α : Type} (f : α → α) (a : α) (r : List α) : ∀ l : List α, (l ++ a :: r).modify l.length f = l ++ f a :: r
  | [] => rfl
  | x :: l => by
    show (x :: (l ++ a :: r)).modify (l.length + 1) f = _
    rw [List.modify_succ_cons, modify_mid f a r l]; rfl
theorem look_append (a b : List (κ × Value)) (k : κ) : look (a ++ b) k = (look a k).or (look b k) := by
  induction a with
  | nil => rfl
  | cons p a ih =>
    rw [List.cons_append, look_cons, look_cons, ih]
    by_cases h : k = p.1 <;> simp [h]
theorem look_none {ks : List (κ × Value)} {k : κ} (h : ∀ p ∈ ks, p.1 ≠ k) : look ks k = none := by
  unfold look; rw [fnd_none.2 h]; rfl

/-- Block b is a map that holds just m. -/
def MapRep (inj : κ → Value) (w : World) (b : Nat) (m : κ → Option Value) : Prop :=
  ∃ es clock, ∃ ks : List (κ × Value), w.heap[b]? = some (.map es clock) ∧ es.toList.map (fun e => (e.key, e.val)) = ks.map (entryOf inj) ∧ (ks.map Prod.fst).Nodup ∧ ∀ k, m k = look ks k

theorem MapRep.lt {w : World} {b : Nat} {m : κ → Option Value} (h : MapRep inj w b m) : b < w.heap.size := by
  obtain ⟨es, clock, ks, hb, _⟩ := h
  exact (Array.getElem?_eq_some_iff.1 hb).1
theorem MapRep.only {S : Nat → Prop} {w w2 : World} {b : Nat} {m : κ → Option Value} (h : MapRep inj w b m) (ho : Only S w w2) (hs : ¬ S b) : MapRep inj w2 b m := by
  have hlt := h.lt
  obtain ⟨es, clock, ks, hb, h⟩ := h
  exact ⟨es, clock, ks, (ho.block b hlt hs).trans hb, h⟩
theorem MapRep.made (w : World) : MapRep inj (w.alloc (.map #[] 0)) w.heap.size (fun _ => none) :=
  ⟨#[], 0, [], (MapKept.heap_alloc w _).1, rfl, by simp, fun _ => rfl⟩
theorem MapRep.congr {w : World} {b : Nat} {m m2 : κ → Option Value} (h : MapRep inj w b m) (e : ∀ k, m2 k = m k) : MapRep inj w b m2 := by
  obtain ⟨es, clock, ks, h1, h2, h3, h4⟩ := h
  exact ⟨es, clock, ks, h1, h2, h3, fun k => (e k).trans (h4 k)⟩

theorem MapRep.lookup {t e : TypeId} {w : World} {b : Nat} {m : κ → Option Value} (h : MapRep inj w b m) (K : KeyEnc P kt inj) (ht : P.underlying t = some (.map kt e)) {z : Value} (hz : (zeroValue e).run P w = .ok z w) (k : κ) :
    (Instr.lookup t (.map (some b)) (inj k) false).run P w = .ok ((m k).getD z) w := by
  obtain ⟨es, clock, ks, hb, hes, hnd, hm⟩ := h
  have hf := findKey_run K k w es.toList ks hes
  rw [hm k]
  unfold look
  cases hk : fnd k ks 0 with
  | none => simp [Instr.lookup, run_underlying ht, MapKept.run_getObj_map hb, K.check, hf, hk, hz, Result.andThen]
  | some q => simp [Instr.lookup, run_underlying ht, MapKept.run_getObj_map hb, K.check, hf, hk, Result.andThen]
theorem MapRep.lookup_ok {t e : TypeId} {w : World} {b : Nat} {m : κ → Option Value} (h : MapRep inj w b m) (K : KeyEnc P kt inj) (ht : P.underlying t = some (.map kt e)) {z : Value} (hz : (zeroValue e).run P w = .ok z w) (k : κ) :
    (Instr.lookup t (.map (some b)) (inj k) true).run P w = .ok (.tuple #[(m k).getD z, .bool (m k).isSome]) w := by
  obtain ⟨es, clock, ks, hb, hes, hnd, hm⟩ := h
  have hf := findKey_run K k w es.toList ks hes
  rw [hm k]
  unfold look
  cases hk : fnd k ks 0 with
  | none => simp [Instr.lookup, run_underlying ht, MapKept.run_getObj_map hb, K.check, hf, hk, hz, Result.andThen]
  | some q => simp [Instr.lookup, run_underlying ht, MapKept.run_getObj_map hb, K.check, hf, hk, Result.andThen]

theorem only_setObj {w : World} {b : Nat} (o : Obj) : Only (fun x => x = b) w { w with heap := w.heap.setIfInBounds b o } :=
  ⟨rfl, rfl, rfl, by simp, fun k _ hk => by simp only [Array.getElem?_setIfInBounds]; rw [if_neg (fun e => hk e.symm)]⟩

theorem MapRep.update {t e : TypeId} {w : World} {b : Nat} {m : κ → Option Value} (h : MapRep inj w b m) (K : KeyEnc P kt inj) (ht : P.underlying t = some (.map kt e)) (k : κ) (v : Value) :
    ∃ w2, (Instr.mapUpdate t (.map (some b)) (inj k) v).run P w = .ok () w2 ∧ MapRep inj w2 b (fun k2 => if k2 = k then some v else m k2) ∧ Only (fun x => x = b) w w2 := by
  have hlt := h.lt
  obtain ⟨es, clock, ks, hb, hes, hnd, hm⟩ := h
  have hf := findKey_run K k w es.toList ks hes
  cases hk : fnd k ks 0 with
  | none =>
    refine ⟨{ w with heap := w.heap.setIfInBounds b (.map (es.push { key := inj k, val := v, born := clock }) (clock + 1)) }, ?_, ?_, only_setObj _⟩
    · simp [Instr.mapUpdate, run_underlying ht, MapKept.run_getObj_map hb, K.check, hf, hk, MapKept.run_setObj_map _ hb, Result.andThen]
    · refine ⟨es.push { key := inj k, val := v, born := clock }, clock + 1, ks ++ [(k, v)], by simp [hlt], by simp [hes, entryOf], ?_, fun k2 => ?_⟩
      · simp only [List.map_append, List.map_cons, List.map_nil]
        rw [List.nodup_append]
        exact ⟨hnd, by simp, fun x hx y hy => by
          simp at hy; subst hy
          obtain ⟨p, hp, rfl⟩ := List.mem_map.1 hx
          exact fnd_none.1 hk p hp⟩
      · rw [look_append, ← hm k2]
        by_cases h2 : k2 = k
        · subst h2
          rw [hm k2, look_none (fnd_none.1 hk)]
          simp [look_cons]
        · simp only [h2, if_false, look_cons]
          cases m k2 <;> rfl
  | some q =>
    obtain ⟨pre, post, e1, hl, hp⟩ := fnd_some (i := q.1) (v := q.2) hk
    have hmap : es.toList.map (fun e => (e.key, e.val)) = (pre ++ (k, q.2) :: post).map (entryOf inj) := by rw [hes, e1]
    obtain ⟨l1, l0, hesl, hl1, hl0⟩ := List.map_eq_append_iff.1 (hmap.trans (List.map_append ..))
    rw [List.map_cons] at hl0
    obtain ⟨e0, l2, rfl, he0, hl2⟩ := List.map_eq_cons_iff.1 hl0
    have hlen1 : l1.length = q.1 := by rw [← hl, ← List.length_map (fun e : MapEntry => (e.key, e.val)), hl1, List.length_map]
    obtain ⟨es⟩ := es
    simp only at hesl
    subst hesl
    have hkey : e0.key = inj k := (Prod.mk.inj he0).1
    refine ⟨{ w with heap := w.heap.setIfInBounds b (.map (l1 ++ { e0 with key := inj k, val := v } :: l2).toArray clock) }, ?_, ?_, only_setObj _⟩
    · have hst : (Instr.keyThatStays (inj k) (inj k)).run P w = .ok (inj k) w := by simp [Instr.keyThatStays, K.same]
      have hat : (l1 ++ e0 :: l2)[q.1]? = some e0 := by rw [← hlen1]; simp
      have hmod : (l1 ++ e0 :: l2).modify q.1 (fun e => { e with key := inj k, val := v }) = l1 ++ { e0 with key := inj k, val := v } :: l2 := by rw [← hlen1]; exact modify_mid _ _ _ _
      have hf2 : (Instr.findKey kt (inj k) (l1 ++ e0 :: l2)).run P w = .ok (some q) w := by rw [← hk]; exact hf
      simp [Instr.mapUpdate, run_underlying ht, MapKept.run_getObj_map hb, K.check, hf2, MapKept.run_setObj_map _ hb, Result.andThen, hat, hkey, hst, hmod]
    · refine ⟨(l1 ++ { e0 with key := inj k, val := v } :: l2).toArray, clock, pre ++ (k, v) :: post, by simp [hlt], ?_, ?_, fun k2 => ?_⟩
      · simp [hl1, hl2, entryOf]
      · rw [e1] at hnd; simpa using hnd
      · rw [look_append, look_cons]
        have := hm k2
        rw [e1, look_append, look_cons] at this
        by_cases h2 : k2 = k
        · subst h2
          rw [look_none hp]; simp
        · simp only [h2, if_false] at this ⊢; exact this

theorem MapRep.delete {t ut ty e : TypeId} {w : World} {b : Nat} {m : κ → Option Value} (h : MapRep inj w b m) (K : KeyEnc P kt inj) (ht : P.underlying t = some (.map kt e)) (k : κ) :
    ∃ w2, (Builtin.delete_ #[t, ut] ty #[.map (some b), inj k]).run P w = .ok (.tuple #[]) w2 ∧ MapRep inj w2 b (fun k2 => if k2 = k then none else m k2) ∧ Only (fun x => x = b) w w2 := by
  have hlt := h.lt
  obtain ⟨es, clock, ks, hb, hes, hnd, hm⟩ := h
  have hf := findKey_run K k w es.toList ks hes
  cases hk : fnd k ks 0 with
  | none =>
    refine ⟨{ w with heap := w.heap.setIfInBounds b (.map es clock) }, ?_, ?_, only_setObj _⟩
    · simp [Builtin.delete_, run_underlying ht, MapKept.run_getObj_map hb, K.check, hf, hk, MapKept.run_setObj_map _ hb, Result.andThen]
    · refine ⟨es, clock, ks, by simp [hlt], hes, hnd, fun k2 => ?_⟩
      by_cases h2 : k2 = k
      · subst h2; simp [look_none (fnd_none.1 hk)]
      · simp [h2, hm k2]
  | some q =>
    obtain ⟨pre, post, e1, hl, hp⟩ := fnd_some (i := q.1) (v := q.2) hk
    have hmap : es.toList.map (fun e => (e.key, e.val)) = (pre ++ (k, q.2) :: post).map (entryOf inj) := by rw [hes, e1]
    obtain ⟨l1, l0, hesl, hl1, hl0⟩ := List.map_eq_append_iff.1 (hmap.trans (List.map_append ..))
    rw [List.map_cons] at hl0
    obtain ⟨e0, l2, rfl, he0, hl2⟩ := List.map_eq_cons_iff.1 hl0
    have hlen1 : l1.length = q.1 := by rw [← hl, ← List.length_map (fun e : MapEntry => (e.key, e.val)), hl1, List.length_map]
    obtain ⟨es⟩ := es
    simp only at hesl
    subst hesl
    refine ⟨{ w with heap := w.heap.setIfInBounds b (.map (l1 ++ l2).toArray clock) }, ?_, ?_, only_setObj _⟩
    · have hf2 : (Instr.findKey kt (inj k) (l1 ++ e0 :: l2)).run P w = .ok (some q) w := by rw [← hk]; exact hf
      have her : (l1 ++ e0 :: l2).eraseIdx q.1 = l1 ++ l2 := by
        rw [← hlen1, List.eraseIdx_append_of_length_le (Nat.le_refl _)]; simp
      simp [Builtin.delete_, run_underlying ht, MapKept.run_getObj_map hb, K.check, hf2, MapKept.run_setObj_map _ hb, Result.andThen, her]
    · rw [e1] at hnd
      simp only [List.map_append, List.map_cons] at hnd
      rw [List.nodup_append] at hnd
      obtain ⟨n1, n2, n3⟩ := hnd
      rw [List.nodup_cons] at n2
      refine ⟨(l1 ++ l2).toArray, clock, pre ++ post, by simp [hlt], by simp [hl1, hl2], ?_, fun k2 => ?_⟩
      · rw [List.map_append, List.nodup_append]
        exact ⟨n1, n2.2, fun x hx y hy => n3 x hx y (List.mem_cons_of_mem _ hy)⟩
      · have := hm k2
        rw [e1, look_append, look_cons] at this
        rw [look_append]
        by_cases h2 : k2 = k
        · subst h2
          rw [look_none hp, look_none (fun p hp2 e => n2.1 (by rw [← e]; exact List.mem_map_of_mem hp2))]; simp
        · simp only [h2, if_false] at this ⊢; exact this
end
end Go.Proofs.Ytlhlbedbfjanhaa
