/- Merged: Map, MapL, MapT. -/
import Derived.Test.YtecnjifincahaaaGreatDoorGA
import Derived.MapViews
import Derived.Maps.RangeRun
import Derived.Maps.RangeWalk
/- Maps by their entries: look-up, store, delete, for any type of keys whose '==' is known. -/
namespace Go.Proofs.YtecnjifincahaaaGreatDoor
open Go.RowKit

structure KeyEnc (P : Program) (kt : TypeId) {κ : Type} [DecidableEq κ] (inj : κ → Value) : Prop where
  und : ∃ kind, P.underlying kt = some kind ∧ ((∀ a b, Instr.sameNow kind (inj a) (inj b) = some (decide (a = b))) ∨ (∀ a b, Instr.sameNow kind (inj a) (inj b) = none))
  eqRun : ∀ a b w, (Op.equal kt (inj a) (inj b)).run P w = .ok (decide (a = b)) w
  check : ∀ b a w, (Instr.checkKey b 10000 kt (inj a)).run P w = .ok () w
  same : ∀ a, Instr.sameBits 10000 (inj a) (inj a) = true
  inj : ∀ a b, inj a = inj b → a = b

section
variable {P : Program} {κ : Type} [DecidableEq κ] {kt : TypeId} {inj : κ → Value}

def fnd (k : κ) : List (κ × Value) → Nat → Option (Nat × Value)
  | [], _ => none
  | p :: r, i => if k = p.1 then some (i, p.2) else fnd k r (i + 1)

def entryOf (inj : κ → Value) (p : κ × Value) : Value × Value := (inj p.1, p.2)

theorem findAsking_run (K : KeyEnc P kt inj) (k : κ) (w : World) : ∀ (es : List MapEntry) (ks : List (κ × Value)) (i : Nat), es.map (fun e => (e.key, e.val)) = ks.map (entryOf inj) →
    (Instr.findAsking kt (inj k) es i).run P w = .ok (fnd k ks i) w
  | [], [], i, _ => by simp [Instr.findAsking, fnd]
  | [], p :: ks, i, h => by simp at h
  | e :: es, [], i, h => by simp at h
  | e :: es, p :: ks, i, h => by
    simp only [List.map_cons, List.cons.injEq, entryOf, Prod.mk.injEq] at h
    obtain ⟨⟨h1, h2⟩, h3⟩ := h
    have ih := findAsking_run K k w es ks (i + 1) h3
    simp only [Instr.findAsking, Sem.run_bind, h1, K.eqRun, Result.andThen_ok]
    by_cases hk : k = p.1
    · simp [hk, fnd, h2]
    · simp [hk, fnd, ih]

theorem findNow_some {kind : TypeDesc} (K : ∀ a b, Instr.sameNow kind (inj a) (inj b) = some (decide (a = b))) (k : κ) : ∀ (es : List MapEntry) (ks : List (κ × Value)) (i : Nat), es.map (fun e => (e.key, e.val)) = ks.map (entryOf inj) →
    Instr.findNow kind (inj k) es i = some (fnd k ks i)
  | [], [], i, _ => by simp [Instr.findNow, fnd]
  | [], p :: ks, i, h => by simp at h
  | e :: es, [], i, h => by simp at h
  | e :: es, p :: ks, i, h => by
    simp only [List.map_cons, List.cons.injEq, entryOf, Prod.mk.injEq] at h
    obtain ⟨⟨h1, h2⟩, h3⟩ := h
    have ih := findNow_some K k es ks (i + 1) h3
    simp only [Instr.findNow, h1, K]
    by_cases hk : k = p.1
    · simp [hk, fnd, h2]
    · simp [hk, fnd, ih]

theorem findKey_run (K : KeyEnc P kt inj) (k : κ) (w : World) (es : List MapEntry) (ks : List (κ × Value)) (h : es.map (fun e => (e.key, e.val)) = ks.map (entryOf inj)) :
    (Instr.findKey kt (inj k) es).run P w = .ok (fnd k ks 0) w := by
  obtain ⟨kind, hu, hn | hn⟩ := K.und
  · simp [Instr.findKey, run_underlying hu, findNow_some hn k es ks 0 h]
  · cases es with
    | nil =>
      cases ks with
      | nil => simp [Instr.findKey, run_underlying hu, Instr.findNow, fnd]
      | cons p ks => simp at h
    | cons e es =>
      cases ks with
      | nil => simp at h
      | cons p ks =>
        have hr := findAsking_run K k w (e :: es) (p :: ks) 0 h
        simp only [List.map_cons, List.cons.injEq, entryOf, Prod.mk.injEq] at h
        have : Instr.findNow kind (inj k) (e :: es) 0 = none := by simp [Instr.findNow, h.1.1, hn]
        simp [Instr.findKey, run_underlying hu, this, hr]

theorem fnd_shift (k : κ) : ∀ (ks : List (κ × Value)) (i : Nat), fnd k ks i = (fnd k ks 0).map fun p => (p.1 + i, p.2)
  | [], i => rfl
  | p :: r, i => by
    unfold fnd
    by_cases h : k = p.1
    · simp [h]
    · simp only [h, if_false]
      rw [fnd_shift k r (i + 1), fnd_shift k r (0 + 1)]
      cases fnd k r 0 with
      | none => rfl
      | some q => simp; omega
theorem fnd_none {k : κ} : ∀ {ks : List (κ × Value)} {i : Nat}, fnd k ks i = none ↔ ∀ p ∈ ks, p.1 ≠ k
  | [], i => by simp [fnd]
  | p :: r, i => by
    unfold fnd
    by_cases h : k = p.1
    · simp [h]
    · simp only [h, if_false, fnd_none (ks := r), List.mem_cons, forall_eq_or_imp]
      exact ⟨fun h2 => ⟨fun e => h e.symm, h2⟩, fun h2 => h2.2⟩
theorem fnd_some {k : κ} : ∀ {ks : List (κ × Value)} {i : Nat} {v : Value}, fnd k ks 0 = some (i, v) → ∃ pre post, ks = pre ++ (k, v) :: post ∧ pre.length = i ∧ ∀ p ∈ pre, p.1 ≠ k
  | [], i, v, h => by simp [fnd] at h
  | p :: r, i, v, h => by
    unfold fnd at h
    by_cases hk : k = p.1
    · simp only [hk, if_true, Option.some.injEq, Prod.mk.injEq] at h
      exact ⟨[], r, by rw [← h.2, hk]; rfl, h.1, by simp⟩
    · simp only [hk, if_false] at h
      rw [fnd_shift] at h
      cases hf : fnd k r 0 with
      | none => simp [hf] at h
      | some q =>
        simp only [hf, Option.map_some, Option.some.injEq, Prod.mk.injEq] at h
        obtain ⟨pre, post, e, hl, hp⟩ := fnd_some (i := q.1) (v := q.2) hf
        refine ⟨p :: pre, post, by rw [e, h.2]; rfl, by simp [hl, ← h.1], ?_⟩
        intro x hx
        rcases List.mem_cons.1 hx with rfl | hx
        · exact fun e => hk e.symm
        · exact hp x hx
def look (ks : List (κ × Value)) (k : κ) : Option Value := (fnd k ks 0).map Prod.snd
theorem look_cons (p : κ × Value) (r : List (κ × Value)) (k : κ) : look (p :: r) k = if k = p.1 then some p.2 else look r k := by
  unfold look
  rw [show fnd k (p :: r) 0 = if k = p.1 then some (0, p.2) else fnd k r 1 from rfl]
  by_cases h : k = p.1
  · simp [h]
  · simp only [h, if_false]
    rw [fnd_shift]
    cases fnd k r 0 <;> rfl
theorem modify_mid {α : Type} (f : α → α) (a : α) (r : List α) : ∀ l : List α, (l ++ a :: r).modify l.length f = l ++ f a :: r
  | [] => rfl
  | x :: l => by
    show (x :: (l ++ a :: r)).modify (l.length + 1) f = _
    rw [List.modify_succ_cons, modify_mid f a r l]; rfl
theorem look_append (a b : List (κ × Value)) (k : κ) : look (a ++ b) k = (look a k).or (look b k) := by
  induction a with
  | nil => rfl
  | cons p a ih =>
    rw [List.cons_append, look_cons, look_cons, ih]
    by_cases h : k = p.1 <;> simp [h]
theorem look_none {ks : List (κ × Value)} {k : κ} (h : ∀ p ∈ ks, p.1 ≠ k) : look ks k = none := by
  unfold look; rw [fnd_none.2 h]; rfl

/-- Block b is a map that holds just m. -/
def MapRep (inj : κ → Value) (w : World) (b : Nat) (m : κ → Option Value) : Prop :=
  ∃ es clock, ∃ ks : List (κ × Value), w.heap[b]? = some (.map es clock) ∧ es.toList.map (fun e => (e.key, e.val)) = ks.map (entryOf inj) ∧ (ks.map Prod.fst).Nodup ∧ ∀ k, m k = look ks k

theorem MapRep.lt {w : World} {b : Nat} {m : κ → Option Value} (h : MapRep inj w b m) : b < w.heap.size := by
  obtain ⟨es, clock, ks, hb, _⟩ := h
  exact (Array.getElem?_eq_some_iff.1 hb).1
theorem MapRep.only {S : Nat → Prop} {w w2 : World} {b : Nat} {m : κ → Option Value} (h : MapRep inj w b m) (ho : Only S w w2) (hs : ¬ S b) : MapRep inj w2 b m := by
  have hlt := h.lt
  obtain ⟨es, clock, ks, hb, h⟩ := h
  exact ⟨es, clock, ks, (ho.block b hlt hs).trans hb, h⟩
theorem MapRep.made (w : World) : MapRep inj (w.alloc (.map #[] 0)) w.heap.size (fun _ => none) :=
  ⟨#[], 0, [], (MapKept.heap_alloc w _).1, rfl, by simp, fun _ => rfl⟩
theorem MapRep.congr {w : World} {b : Nat} {m m2 : κ → Option Value} (h : MapRep inj w b m) (e : ∀ k, m2 k = m k) : MapRep inj w b m2 := by
  obtain ⟨es, clock, ks, h1, h2, h3, h4⟩ := h
  exact ⟨es, clock, ks, h1, h2, h3, fun k => (e k).trans (h4 k)⟩

theorem MapRep.lookup {t e : TypeId} {w : World} {b : Nat} {m : κ → Option Value} (h : MapRep inj w b m) (K : KeyEnc P kt inj) (ht : P.underlying t = some (.map kt e)) {z : Value} (hz : (zeroValue e).run P w = .ok z w) (k : κ) :
    (Instr.lookup t (.map (some b)) (inj k) false).run P w = .ok ((m k).getD z) w := by
  obtain ⟨es, clock, ks, hb, hes, hnd, hm⟩ := h
  have hf := findKey_run K k w es.toList ks hes
  rw [hm k]
  unfold look
  cases hk : fnd k ks 0 with
  | none => simp [Instr.lookup, run_underlying ht, MapKept.run_getObj_map hb, K.check, hf, hk, hz, Result.andThen]
  | some q => simp [Instr.lookup, run_underlying ht, MapKept.run_getObj_map hb, K.check, hf, hk, Result.andThen]
theorem MapRep.lookup_ok {t e : TypeId} {w : World} {b : Nat} {m : κ → Option Value} (h : MapRep inj w b m) (K : KeyEnc P kt inj) (ht : P.underlying t = some (.map kt e)) {z : Value} (hz : (zeroValue e).run P w = .ok z w) (k : κ) :
    (Instr.lookup t (.map (some b)) (inj k) true).run P w = .ok (.tuple #[(m k).getD z, .bool (m k).isSome]) w := by
  obtain ⟨es, clock, ks, hb, hes, hnd, hm⟩ := h
  have hf := findKey_run K k w es.toList ks hes
  rw [hm k]
  unfold look
  cases hk : fnd k ks 0 with
  | none => simp [Instr.lookup, run_underlying ht, MapKept.run_getObj_map hb, K.check, hf, hk, hz, Result.andThen]
  | some q => simp [Instr.lookup, run_underlying ht, MapKept.run_getObj_map hb, K.check, hf, hk, Result.andThen]

theorem only_setObj {w : World} {b : Nat} (o : Obj) : Only (fun x => x = b) w { w with heap := w.heap.setIfInBounds b o } :=
  ⟨rfl, rfl, rfl, by simp, fun k _ hk => by simp only [Array.getElem?_setIfInBounds]; rw [if_neg (fun e => hk e.symm)]⟩

theorem MapRep.update {t e : TypeId} {w : World} {b : Nat} {m : κ → Option Value} (h : MapRep inj w b m) (K : KeyEnc P kt inj) (ht : P.underlying t = some (.map kt e)) (k : κ) (v : Value) :
    ∃ w2, (Instr.mapUpdate t (.map (some b)) (inj k) v).run P w = .ok () w2 ∧ MapRep inj w2 b (fun k2 => if k2 = k then some v else m k2) ∧ Only (fun x => x = b) w w2 := by
  have hlt := h.lt
  obtain ⟨es, clock, ks, hb, hes, hnd, hm⟩ := h
  have hf := findKey_run K k w es.toList ks hes
  cases hk : fnd k ks 0 with
  | none =>
    refine ⟨{ w with heap := w.heap.setIfInBounds b (.map (es.push { key := inj k, val := v, born := clock }) (clock + 1)) }, ?_, ?_, only_setObj _⟩
    · simp [Instr.mapUpdate, run_underlying ht, MapKept.run_getObj_map hb, K.check, hf, hk, MapKept.run_setObj_map _ hb, Result.andThen]
    · refine ⟨es.push { key := inj k, val := v, born := clock }, clock + 1, ks ++ [(k, v)], by simp [hlt], by simp [hes, entryOf], ?_, fun k2 => ?_⟩
      · simp only [List.map_append, List.map_cons, List.map_nil]
        rw [List.nodup_append]
        exact ⟨hnd, by simp, fun x hx y hy => by
          simp at hy; subst hy
          obtain ⟨p, hp, rfl⟩ := List.mem_map.1 hx
          exact fnd_none.1 hk p hp⟩
      · rw [look_append, ← hm k2]
        by_cases h2 : k2 = k
        · subst h2
          rw [hm k2, look_none (fnd_none.1 hk)]
          simp [look_cons]
        · simp only [h2, if_false, look_cons]
          cases m k2 <;> rfl
  | some q =>
    obtain ⟨pre, post, e1, hl, hp⟩ := fnd_some (i := q.1) (v := q.2) hk
    have hmap : es.toList.map (fun e => (e.key, e.val)) = (pre ++ (k, q.2) :: post).map (entryOf inj) := by rw [hes, e1]
    obtain ⟨l1, l0, hesl, hl1, hl0⟩ := List.map_eq_append_iff.1 (hmap.trans (List.map_append ..))
    rw [List.map_cons] at hl0
    obtain ⟨e0, l2, rfl, he0, hl2⟩ := List.map_eq_cons_iff.1 hl0
    have hlen1 : l1.length = q.1 := by rw [← hl, ← List.length_map (fun e : MapEntry => (e.key, e.val)), hl1, List.length_map]
    obtain ⟨es⟩ := es
    simp only at hesl
    subst hesl
    have hkey : e0.key = inj k := (Prod.mk.inj he0).1
    refine ⟨{ w with heap := w.heap.setIfInBounds b (.map (l1 ++ { e0 with key := inj k, val := v } :: l2).toArray clock) }, ?_, ?_, only_setObj _⟩
    · have hst : (Instr.keyThatStays (inj k) (inj k)).run P w = .ok (inj k) w := by simp [Instr.keyThatStays, K.same]
      have hat : (l1 ++ e0 :: l2)[q.1]? = some e0 := by rw [← hlen1]; simp
      have hmod : (l1 ++ e0 :: l2).modify q.1 (fun e => { e with key := inj k, val := v }) = l1 ++ { e0 with key := inj k, val := v } :: l2 := by rw [← hlen1]; exact modify_mid _ _ _ _
      have hf2 : (Instr.findKey kt (inj k) (l1 ++ e0 :: l2)).run P w = .ok (some q) w := by rw [← hk]; exact hf
      simp [Instr.mapUpdate, run_underlying ht, MapKept.run_getObj_map hb, K.check, hf2, MapKept.run_setObj_map _ hb, Result.andThen, hat, hkey, hst, hmod]
    · refine ⟨(l1 ++ { e0 with key := inj k, val := v } :: l2).toArray, clock, pre ++ (k, v) :: post, by simp [hlt], ?_, ?_, fun k2 => ?_⟩
      · simp [hl1, hl2, entryOf]
      · rw [e1] at hnd; simpa using hnd
      · rw [look_append, look_cons]
        have := hm k2
        rw [e1, look_append, look_cons] at this
        by_cases h2 : k2 = k
        · subst h2
          rw [look_none hp]; simp
        · simp only [h2, if_false] at this ⊢; exact this

theorem MapRep.delete {t ut ty e : TypeId} {w : World} {b : Nat} {m : κ → Option Value} (h : MapRep inj w b m) (K : KeyEnc P kt inj) (ht : P.underlying t = some (.map kt e)) (k : κ) :
    ∃ w2, (Builtin.delete_ #[t, ut] ty #[.map (some b), inj k]).run P w = .ok (.tuple #[]) w2 ∧ MapRep inj w2 b (fun k2 => if k2 = k then none else m k2) ∧ Only (fun x => x = b) w w2 := by
  have hlt := h.lt
  obtain ⟨es, clock, ks, hb, hes, hnd, hm⟩ := h
  have hf := findKey_run K k w es.toList ks hes
  cases hk : fnd k ks 0 with
  | none =>
    refine ⟨{ w with heap := w.heap.setIfInBounds b (.map es clock) }, ?_, ?_, only_setObj _⟩
    · simp [Builtin.delete_, run_underlying ht, MapKept.run_getObj_map hb, K.check, hf, hk, MapKept.run_setObj_map _ hb, Result.andThen]
    · refine ⟨es, clock, ks, by simp [hlt], hes, hnd, fun k2 => ?_⟩
      by_cases h2 : k2 = k
      · subst h2; simp [look_none (fnd_none.1 hk)]
      · simp [h2, hm k2]
  | some q =>
    obtain ⟨pre, post, e1, hl, hp⟩ := fnd_some (i := q.1) (v := q.2) hk
    have hmap : es.toList.map (fun e => (e.key, e.val)) = (pre ++ (k, q.2) :: post).map (entryOf inj) := by rw [hes, e1]
    obtain ⟨l1, l0, hesl, hl1, hl0⟩ := List.map_eq_append_iff.1 (hmap.trans (List.map_append ..))
    rw [List.map_cons] at hl0
    obtain ⟨e0, l2, rfl, he0, hl2⟩ := List.map_eq_cons_iff.1 hl0
    have hlen1 : l1.length = q.1 := by rw [← hl, ← List.length_map (fun e : MapEntry => (e.key, e.val)), hl1, List.length_map]
    obtain ⟨es⟩ := es
    simp only at hesl
    subst hesl
    refine ⟨{ w with heap := w.heap.setIfInBounds b (.map (l1 ++ l2).toArray clock) }, ?_, ?_, only_setObj _⟩
    · have hf2 : (Instr.findKey kt (inj k) (l1 ++ e0 :: l2)).run P w = .ok (some q) w := by rw [← hk]; exact hf
      have her : (l1 ++ e0 :: l2).eraseIdx q.1 = l1 ++ l2 := by
        rw [← hlen1, List.eraseIdx_append_of_length_le (Nat.le_refl _)]; simp
      simp [Builtin.delete_, run_underlying ht, MapKept.run_getObj_map hb, K.check, hf2, MapKept.run_setObj_map _ hb, Result.andThen, her]
    · rw [e1] at hnd
      simp only [List.map_append, List.map_cons] at hnd
      rw [List.nodup_append] at hnd
      obtain ⟨n1, n2, n3⟩ := hnd
      rw [List.nodup_cons] at n2
      refine ⟨(l1 ++ l2).toArray, clock, pre ++ post, by simp [hlt], by simp [hl1, hl2], ?_, fun k2 => ?_⟩
      · rw [List.map_append, List.nodup_append]
        exact ⟨n1, n2.2, fun x hx y hy => n3 x hx y (List.mem_cons_of_mem _ hy)⟩
      · have := hm k2
        rw [e1, look_append, look_cons] at this
        rw [look_append]
        by_cases h2 : k2 = k
        · subst h2
          rw [look_none hp, look_none (fun p hp2 e => n2.1 (by rw [← e]; exact List.mem_map_of_mem hp2))]; simp
        · simp only [h2, if_false] at this ⊢; exact this
end
end Go.Proofs.YtecnjifincahaaaGreatDoor

/- How many entries a map has. -/
namespace Go.Proofs.YtecnjifincahaaaGreatDoor
open Go.RowKit

theorem look_some {κ : Type} [DecidableEq κ] {k : κ} : ∀ {ks : List (κ × Value)}, (look ks k).isSome = true ↔ k ∈ ks.map Prod.fst
  | [] => by simp [look, fnd]
  | p :: ks => by
    rw [look_cons]
    by_cases e : k = p.1
    · simp [e]
    · simp only [e, if_false, List.map_cons, List.mem_cons, false_or]
      exact look_some
theorem MapRep.len {κ : Type} [DecidableEq κ] {inj : κ → Value} {P : Program} {t ty : TypeId} {w : World} {b : Nat} {m : κ → Option Value} (h : MapRep inj w b m) (ht : P.underlying t = some (.map (P.mapKeyOf t) (P.mapElemOf t)))
    {L : List κ} (hL : L.Nodup) (hm : ∀ k, k ∈ L ↔ (m k).isSome = true) : (Builtin.len_ #[t] ty #[.map (some b)]).run P w = .ok (.int .i64 (L.length : Int)) w := by
  obtain ⟨es, clock, ks, hb, hes, hnd, hk⟩ := h
  rw [run_len_map w t ty b es clock ht hb]
  have hp : (ks.map Prod.fst).Perm L := (List.perm_ext_iff_of_nodup hnd hL).2 (fun k => by rw [hm k, hk k, look_some])
  have h1 := hp.length_eq
  have h2 := congrArg List.length hes
  simp only [List.length_map, Array.length_toList] at h1 h2
  rw [h2, h1]; rfl
end Go.Proofs.YtecnjifincahaaaGreatDoor

/- Maps by their entries, with the stamps that a range looks at: made, stored, deleted, ranged over in whatever order. -/
namespace Go.Proofs.YtecnjifincahaaaGreatDoor
open Go.RowKit Go.ChangeMaps

section
variable {P : Program} {κ : Type} [DecidableEq κ] {kt : TypeId} {inj : κ → Value}

structure Stamps (es : Array MapEntry) (clock : Nat) : Prop where
  lt : ∀ e ∈ es.toList, e.born < clock
  nodup : (es.toList.map (·.born)).Nodup
theorem Stamps.nil (c : Nat) : Stamps #[] c := ⟨by simp, by simp⟩
theorem Stamps.push {es : Array MapEntry} {clock : Nat} (h : Stamps es clock) (k v : Value) : Stamps (es.push { key := k, val := v, born := clock }) (clock + 1) := by
  refine ⟨fun e he => ?_, ?_⟩
  · rw [Array.toList_push, List.mem_append, List.mem_singleton] at he
    rcases he with he | rfl
    · have := h.lt e he; omega
    · simp
  · rw [Array.toList_push, List.map_append, List.nodup_append]
    refine ⟨h.nodup, by simp, ?_⟩
    intro x hx y hy
    obtain ⟨e, he, rfl⟩ := List.mem_map.1 hx
    rw [List.map_singleton, List.mem_singleton] at hy
    have := h.lt e he
    rw [hy]
    show e.born ≠ clock
    omega

/-- Block b is a map that holds just m; its stamps are in order. -/
def MapS (inj : κ → Value) (w : World) (b : Nat) (m : κ → Option Value) : Prop :=
  ∃ es clock, ∃ ks : List (κ × Value), w.heap[b]? = some (.map es clock) ∧ es.toList.map (fun e => (e.key, e.val)) = ks.map (entryOf inj) ∧ (ks.map Prod.fst).Nodup ∧ (∀ k, m k = look ks k) ∧ Stamps es clock
theorem MapS.rep {w : World} {b : Nat} {m : κ → Option Value} (h : MapS inj w b m) : MapRep inj w b m := by
  obtain ⟨es, clock, ks, h1, h2, h3, h4, _⟩ := h
  exact ⟨es, clock, ks, h1, h2, h3, h4⟩
theorem MapS.lt {w : World} {b : Nat} {m : κ → Option Value} (h : MapS inj w b m) : b < w.heap.size := h.rep.lt
theorem MapS.only {S : Nat → Prop} {w w2 : World} {b : Nat} {m : κ → Option Value} (h : MapS inj w b m) (ho : Only S w w2) (hs : ¬ S b) : MapS inj w2 b m := by
  have hlt := h.lt
  obtain ⟨es, clock, ks, hb, h⟩ := h
  exact ⟨es, clock, ks, (ho.block b hlt hs).trans hb, h⟩
theorem MapS.made (w : World) : MapS inj (w.alloc (.map #[] 0)) w.heap.size (fun _ => none) :=
  ⟨#[], 0, [], (MapKept.heap_alloc w _).1, rfl, by simp, fun _ => rfl, Stamps.nil 0⟩
theorem MapS.congr {w : World} {b : Nat} {m m2 : κ → Option Value} (h : MapS inj w b m) (e : ∀ k, m2 k = m k) : MapS inj w b m2 := by
  obtain ⟨es, clock, ks, h1, h2, h3, h4, h5⟩ := h
  exact ⟨es, clock, ks, h1, h2, h3, fun k => (e k).trans (h4 k), h5⟩

theorem MapS.update {t e : TypeId} {w : World} {b : Nat} {m : κ → Option Value} (h : MapS inj w b m) (K : KeyEnc P kt inj) (ht : P.underlying t = some (.map kt e)) (k : κ) (v : Value) :
    ∃ w2, (Instr.mapUpdate t (.map (some b)) (inj k) v).run P w = .ok () w2 ∧ MapS inj w2 b (fun k2 => if k2 = k then some v else m k2) ∧ Only (fun x => x = b) w w2 ∧ w2.heap.size = w.heap.size := by
  have hlt := h.lt
  obtain ⟨es, clock, ks, hb, hes, hnd, hm, hst⟩ := h
  have hf := findKey_run K k w es.toList ks hes
  cases hk : fnd k ks 0 with
  | none =>
    refine ⟨{ w with heap := w.heap.setIfInBounds b (.map (es.push { key := inj k, val := v, born := clock }) (clock + 1)) }, ?_, ?_, only_setObj _, by simp⟩
    · simp [Instr.mapUpdate, run_underlying ht, MapKept.run_getObj_map hb, K.check, hf, hk, MapKept.run_setObj_map _ hb, Result.andThen]
    · refine ⟨es.push { key := inj k, val := v, born := clock }, clock + 1, ks ++ [(k, v)], by simp [hlt], by simp [hes, entryOf], ?_, fun k2 => ?_, hst.push _ _⟩
      · simp only [List.map_append, List.map_cons, List.map_nil]
        rw [List.nodup_append]
        exact ⟨hnd, by simp, fun x hx y hy => by
          simp at hy; subst hy
          obtain ⟨p, hp, rfl⟩ := List.mem_map.1 hx
          exact fnd_none.1 hk p hp⟩
      · rw [look_append, ← hm k2]
        by_cases h2 : k2 = k
        · subst h2
          rw [hm k2, look_none (fnd_none.1 hk)]
          simp [look_cons]
        · simp only [h2, if_false, look_cons]
          cases m k2 <;> rfl
  | some q =>
    obtain ⟨pre, post, e1, hl, hp⟩ := fnd_some (i := q.1) (v := q.2) hk
    have hmap : es.toList.map (fun e => (e.key, e.val)) = (pre ++ (k, q.2) :: post).map (entryOf inj) := by rw [hes, e1]
    obtain ⟨l1, l0, hesl, hl1, hl0⟩ := List.map_eq_append_iff.1 (hmap.trans (List.map_append ..))
    rw [List.map_cons] at hl0
    obtain ⟨e0, l2, rfl, he0, hl2⟩ := List.map_eq_cons_iff.1 hl0
    have hlen1 : l1.length = q.1 := by rw [← hl, ← List.length_map (fun e : MapEntry => (e.key, e.val)), hl1, List.length_map]
    obtain ⟨es⟩ := es
    simp only at hesl
    subst hesl
    have hkey : e0.key = inj k := (Prod.mk.inj he0).1
    refine ⟨{ w with heap := w.heap.setIfInBounds b (.map (l1 ++ { e0 with key := inj k, val := v } :: l2).toArray clock) }, ?_, ?_, only_setObj _, by simp⟩
    · have hst : (Instr.keyThatStays (inj k) (inj k)).run P w = .ok (inj k) w := by simp [Instr.keyThatStays, K.same]
      have hat : (l1 ++ e0 :: l2)[q.1]? = some e0 := by rw [← hlen1]; simp
      have hmod : (l1 ++ e0 :: l2).modify q.1 (fun e => { e with key := inj k, val := v }) = l1 ++ { e0 with key := inj k, val := v } :: l2 := by rw [← hlen1]; exact modify_mid _ _ _ _
      have hf2 : (Instr.findKey kt (inj k) (l1 ++ e0 :: l2)).run P w = .ok (some q) w := by rw [← hk]; exact hf
      simp [Instr.mapUpdate, run_underlying ht, MapKept.run_getObj_map hb, K.check, hf2, MapKept.run_setObj_map _ hb, Result.andThen, hat, hkey, hst, hmod]
    · refine ⟨(l1 ++ { e0 with key := inj k, val := v } :: l2).toArray, clock, pre ++ (k, v) :: post, by simp [hlt], ?_, ?_, fun k2 => ?_, ⟨fun e he => ?_, ?_⟩⟩
      · simp [hl1, hl2, entryOf]
      · rw [e1] at hnd; simpa using hnd
      · rw [look_append, look_cons]
        have := hm k2
        rw [e1, look_append, look_cons] at this
        by_cases h2 : k2 = k
        · subst h2
          rw [look_none hp]; simp
        · simp only [h2, if_false] at this ⊢; exact this
      · simp only [List.mem_append, List.mem_cons] at he
        rcases he with he | rfl | he
        · exact hst.lt e (by simp [he])
        · exact hst.lt e0 (by simp)
        · exact hst.lt e (by simp [he])
      · have := hst.nodup
        simpa using this

theorem MapS.delete {t ut ty e : TypeId} {w : World} {b : Nat} {m : κ → Option Value} (h : MapS inj w b m) (K : KeyEnc P kt inj) (ht : P.underlying t = some (.map kt e)) (k : κ) :
    ∃ w2, (Builtin.delete_ #[t, ut] ty #[.map (some b), inj k]).run P w = .ok (.tuple #[]) w2 ∧ MapS inj w2 b (fun k2 => if k2 = k then none else m k2) ∧ Only (fun x => x = b) w w2 ∧ w2.heap.size = w.heap.size := by
  have hlt := h.lt
  obtain ⟨es, clock, ks, hb, hes, hnd, hm, hst⟩ := h
  have hf := findKey_run K k w es.toList ks hes
  cases hk : fnd k ks 0 with
  | none =>
    refine ⟨{ w with heap := w.heap.setIfInBounds b (.map es clock) }, ?_, ?_, only_setObj _, by simp⟩
    · simp [Builtin.delete_, run_underlying ht, MapKept.run_getObj_map hb, K.check, hf, hk, MapKept.run_setObj_map _ hb, Result.andThen]
    · refine ⟨es, clock, ks, by simp [hlt], hes, hnd, fun k2 => ?_, hst⟩
      by_cases h2 : k2 = k
      · subst h2; simp [look_none (fnd_none.1 hk)]
      · simp [h2, hm k2]
  | some q =>
    obtain ⟨pre, post, e1, hl, hp⟩ := fnd_some (i := q.1) (v := q.2) hk
    have hmap : es.toList.map (fun e => (e.key, e.val)) = (pre ++ (k, q.2) :: post).map (entryOf inj) := by rw [hes, e1]
    obtain ⟨l1, l0, hesl, hl1, hl0⟩ := List.map_eq_append_iff.1 (hmap.trans (List.map_append ..))
    rw [List.map_cons] at hl0
    obtain ⟨e0, l2, rfl, he0, hl2⟩ := List.map_eq_cons_iff.1 hl0
    have hlen1 : l1.length = q.1 := by rw [← hl, ← List.length_map (fun e : MapEntry => (e.key, e.val)), hl1, List.length_map]
    obtain ⟨es⟩ := es
    simp only at hesl
    subst hesl
    refine ⟨{ w with heap := w.heap.setIfInBounds b (.map (l1 ++ l2).toArray clock) }, ?_, ?_, only_setObj _, by simp⟩
    · have hf2 : (Instr.findKey kt (inj k) (l1 ++ e0 :: l2)).run P w = .ok (some q) w := by rw [← hk]; exact hf
      have her : (l1 ++ e0 :: l2).eraseIdx q.1 = l1 ++ l2 := by
        rw [← hlen1, List.eraseIdx_append_of_length_le (Nat.le_refl _)]; simp
      simp [Builtin.delete_, run_underlying ht, MapKept.run_getObj_map hb, K.check, hf2, MapKept.run_setObj_map _ hb, Result.andThen, her]
    · rw [e1] at hnd
      simp only [List.map_append, List.map_cons] at hnd
      rw [List.nodup_append] at hnd
      obtain ⟨n1, n2, n3⟩ := hnd
      rw [List.nodup_cons] at n2
      refine ⟨(l1 ++ l2).toArray, clock, pre ++ post, by simp [hlt], by simp [hl1, hl2], ?_, fun k2 => ?_, ⟨fun e he => ?_, ?_⟩⟩
      · rw [List.map_append, List.nodup_append]
        exact ⟨n1, n2.2, fun x hx y hy => n3 x hx y (List.mem_cons_of_mem _ hy)⟩
      · have := hm k2
        rw [e1, look_append, look_cons] at this
        rw [look_append]
        by_cases h2 : k2 = k
        · subst h2
          rw [look_none hp, look_none (fun p hp2 e => n2.1 (by rw [← e]; exact List.mem_map_of_mem hp2))]; simp
        · simp only [h2, if_false] at this ⊢; exact this
      · simp only [List.mem_append] at he
        rcases he with he | he
        · exact hst.lt e (by simp [he])
        · exact hst.lt e (by simp [he])
      · have h2 := hst.nodup
        simp only [List.map_append, List.map_cons] at h2 ⊢
        rw [List.nodup_append] at h2 ⊢
        obtain ⟨a1, a2, a3⟩ := h2
        rw [List.nodup_cons] at a2
        exact ⟨a1, a2.2, fun x hx y hy => a3 x hx y (List.mem_cons_of_mem _ hy)⟩

/-- A range over the map b, under way in the iterator r: `left k`: the entry at k is still to come; cnt: how many are. -/
def RgS (inj : κ → Value) (w : World) (b r : Nat) (m : κ → Option Value) (left : κ → Bool) (cnt : Nat) : Prop :=
  ∃ es clock, ∃ ks : List (κ × Value), ∃ since seen c0, w.heap[b]? = some (.map es clock) ∧ es.toList.map (fun e => (e.key, e.val)) = ks.map (entryOf inj) ∧ (ks.map Prod.fst).Nodup ∧ (∀ k, m k = look ks k) ∧ Stamps es clock ∧
    w.heap[r]? = some (.mapIter (some b) since seen c0) ∧ (∀ x ∈ es.toList, x.born < since) ∧ since ≤ c0 ∧ since ≤ clock ∧ (leftOf es seen).size = cnt ∧ (∀ k, left k = true ↔ ∃ e ∈ es.toList, e.key = inj k ∧ seen.contains e.born = false)
theorem RgS.map {w : World} {b r : Nat} {m : κ → Option Value} {left : κ → Bool} {cnt : Nat} (h : RgS inj w b r m left cnt) : MapS inj w b m := by
  obtain ⟨es, clock, ks, since, seen, c0, h1, h2, h3, h4, h5, _⟩ := h
  exact ⟨es, clock, ks, h1, h2, h3, h4, h5⟩
theorem RgS.lt {w : World} {b r : Nat} {m : κ → Option Value} {left : κ → Bool} {cnt : Nat} (h : RgS inj w b r m left cnt) : r < w.heap.size := by
  obtain ⟨es, clock, ks, since, seen, c0, h1, h2, h3, h4, h5, h6, _⟩ := h
  exact (Array.getElem?_eq_some_iff.1 h6).1
theorem RgS.only {S : Nat → Prop} {w w2 : World} {b r : Nat} {m : κ → Option Value} {left : κ → Bool} {cnt : Nat} (h : RgS inj w b r m left cnt) (ho : Only S w w2) (hb : ¬ S b) (hr : ¬ S r) : RgS inj w2 b r m left cnt := by
  have h1 := h.map.lt
  have h2 := h.lt
  obtain ⟨es, clock, ks, since, seen, c0, g1, g2, g3, g4, g5, g6, g7⟩ := h
  exact ⟨es, clock, ks, since, seen, c0, (ho.block b h1 hb).trans g1, g2, g3, g4, g5, (ho.block r h2 hr).trans g6, g7⟩
omit [DecidableEq κ] in
theorem key_of_entry {es : Array MapEntry} {ks : List (κ × Value)} (h : es.toList.map (fun e => (e.key, e.val)) = ks.map (entryOf inj)) {e : MapEntry} (he : e ∈ es.toList) : ∃ k, (k, e.val) ∈ ks ∧ e.key = inj k := by
  have h1 : (e.key, e.val) ∈ es.toList.map (fun e => (e.key, e.val)) := List.mem_map.2 ⟨e, he, rfl⟩
  rw [h] at h1
  obtain ⟨p, hp, e1⟩ := List.mem_map.1 h1
  unfold entryOf at e1
  obtain ⟨a, b⟩ := Prod.mk.inj e1
  exact ⟨p.1, by rw [← b]; exact hp, a.symm⟩
theorem look_mem {ks : List (κ × Value)} (hn : (ks.map Prod.fst).Nodup) {k : κ} {v : Value} (h : (k, v) ∈ ks) : look ks k = some v := by
  induction ks with
  | nil => simp at h
  | cons p ks ih =>
    rw [List.map_cons, List.nodup_cons] at hn
    rw [look_cons]
    rcases List.mem_cons.1 h with rfl | h
    · simp
    · rw [if_neg (fun e => hn.1 (by rw [← e]; exact List.mem_map.2 ⟨_, h, rfl⟩))]
      exact ih hn.2 h
theorem entry_of_key {es : Array MapEntry} {ks : List (κ × Value)} (h : es.toList.map (fun e => (e.key, e.val)) = ks.map (entryOf inj)) {k : κ} (hk : (look ks k).isSome = true) : ∃ e ∈ es.toList, e.key = inj k := by
  rw [look_some] at hk
  obtain ⟨p, hp, rfl⟩ := List.mem_map.1 hk
  have h1 : entryOf inj p ∈ ks.map (entryOf inj) := List.mem_map.2 ⟨p, hp, rfl⟩
  rw [← h] at h1
  obtain ⟨e, he, e1⟩ := List.mem_map.1 h1
  exact ⟨e, he, (Prod.mk.inj e1).1⟩
omit [DecidableEq κ] in
theorem entry_one (hinj : ∀ a b, inj a = inj b → a = b) {es : Array MapEntry} {ks : List (κ × Value)} (h : es.toList.map (fun e => (e.key, e.val)) = ks.map (entryOf inj)) (hn : (ks.map Prod.fst).Nodup) : (es.toList.map (·.key)).Nodup := by
  have e1 : es.toList.map (·.key) = (ks.map Prod.fst).map inj := by
    have := congrArg (List.map Prod.fst) h
    simpa [entryOf, Function.comp_def] using this
  rw [e1]
  exact List.Pairwise.map _ (fun a b hab e => hab (hinj a b e)) hn
theorem nodup_same {α β : Type} {f : α → β} : ∀ {l : List α}, (l.map f).Nodup → ∀ {x y : α}, x ∈ l → y ∈ l → f x = f y → x = y
  | [], _, _, _, hx, _, _ => by simp at hx
  | a :: l, hn, x, y, hx, hy, e => by
    rw [List.map_cons, List.nodup_cons] at hn
    rcases List.mem_cons.1 hx with ex | hx2
    · rcases List.mem_cons.1 hy with ey | hy2
      · rw [ex, ey]
      · exact absurd (List.mem_map.2 ⟨y, hy2, by rw [← e, ex]⟩) hn.1
    · rcases List.mem_cons.1 hy with ey | hy2
      · exact absurd (List.mem_map.2 ⟨x, hx2, by rw [e, ey]⟩) hn.1
      · exact nodup_same hn.2 hx2 hy2 e

theorem MapS.range {t e : TypeId} {w : World} {b : Nat} {m : κ → Option Value} (h : MapS inj w b m) (K : KeyEnc P kt inj) (ht : P.underlying t = some (.map kt e)) :
    ∃ w' cnt, (Instr.range t (.map (some b))).run P w = .ok (.pointer (some ⟨w.heap.size, 0, none⟩)) w' ∧ RgS inj w' b w.heap.size m (fun k => (m k).isSome) cnt ∧ Below w.heap.size w w' ∧ w'.heap.size = w.heap.size + 1 := by
  have hlt := h.lt
  obtain ⟨es, clock, ks, hb, hes, hnd, hm, hst⟩ := h
  refine ⟨_, _, run_range_map w t kt e b es clock ht hb, ⟨es, clock, ks, clock, #[], clock, ((MapKept.heap_alloc w _).2 b hlt).trans hb, hes, hnd, hm, hst, (MapKept.heap_alloc w _).1, hst.lt, Nat.le_refl _, Nat.le_refl _, rfl, fun k => ?_⟩, (Below.refl _ w).alloc (Nat.le_refl _) _, by simp⟩
  show (m k).isSome = true ↔ _
  rw [hm k]
  constructor
  · intro hk
    obtain ⟨e, he, e1⟩ := entry_of_key hes hk
    exact ⟨e, he, e1, by simp⟩
  · rintro ⟨e, he, e1, _⟩
    obtain ⟨k2, hk2, e2⟩ := key_of_entry hes he
    have : k = k2 := K.inj _ _ (e1.symm.trans e2)
    rw [this, look_mem hnd hk2]; rfl

theorem RgS.next {w : World} {b r : Nat} {m : κ → Option Value} {left : κ → Bool} {cnt : Nat} (h : RgS inj w b r m left cnt) (hinj : ∀ a b, inj a = inj b → a = b) (hne : r ≠ b) (ty : TypeId) :
    ((∀ k, left k = false) ∧ (Instr.next (.pointer (some ⟨r, 0, none⟩)) false ty).run P w = .ok (.tuple #[.bool false]) w) ∨
    ∃ k v w' cnt', left k = true ∧ m k = some v ∧ (Instr.next (.pointer (some ⟨r, 0, none⟩)) false ty).run P w = .ok (.tuple #[.bool true, inj k, v]) w' ∧
      RgS inj w' b r m (fun x => left x && !decide (x = k)) cnt' ∧ cnt' < cnt ∧ Only (fun x => x = r) w w' ∧ w'.heap.size = w.heap.size ∧ (Instr.entry (.pointer (some ⟨r, 0, none⟩))).run P w' = .ok (.tuple #[inj k, v]) w' := by
  obtain ⟨es, clock, ks, since, seen, c0, hb, hes, hnd, hm, hst, hr, hold, hsc, hsk, rfl, hl⟩ := h
  rcases run_next_at (P := P) w ty r b since c0 seen es clock hr hb hold hsc with ⟨h0, hrun⟩ | ⟨e, he, w1, hal, hrun⟩
  · refine Or.inl ⟨fun k => ?_, hrun⟩
    cases hk : left k with
    | false => rfl
    | true =>
      obtain ⟨x, hx, _, hs⟩ := (hl k).1 hk
      rw [all_seen es seen h0 x hx] at hs
      cases hs
  · obtain ⟨hem, hes0⟩ := mem_left he
    obtain ⟨k, hkv, hkey⟩ := key_of_entry hes hem
    have hr1 : w1.heap[r]? = some (.mapIter (some b) since seen c0) := by rcases hal with rfl | rfl <;> exact hr
    have hb1 : w1.heap[b]? = some (.map es clock) := by rcases hal with rfl | rfl <;> exact hb
    have hset := MapKept.heap_set (o' := .mapIter (some b) since (seen.push e.born) clock) hr1
    have hb' : (setBlock w1 r (.mapIter (some b) since (seen.push e.born) clock)).heap[b]? = some (.map es clock) := (hset.2 b (fun e1 => hne e1.symm)).trans hb1
    refine Or.inr ⟨k, e.val, setBlock w1 r (.mapIter (some b) since (seen.push e.born) clock), (leftOf es (seen.push e.born)).size, (hl k).2 ⟨e, hem, hkey, hes0⟩, by rw [hm k]; exact look_mem hnd hkv, by rw [hrun, hkey], ⟨es, clock, ks, since, seen.push e.born, clock, hb', hes, hnd, hm, hst, hset.1, hold, hsk, hsk, rfl, fun k2 => ?_⟩, left_shrinks es seen e he, ?_, ?_, ?_⟩
    · rw [Bool.and_eq_true, hl k2, Bool.not_eq_true', decide_eq_false_iff_not]
      constructor
      · rintro ⟨⟨x, hx, hxk, hxs⟩, hne2⟩
        refine ⟨x, hx, hxk, ?_⟩
        rw [contains_push, hxs, Bool.false_or, beq_eq_false_iff_ne]
        intro hbe
        have := nodup_same hst.nodup hx hem hbe
        subst this
        exact hne2 (hinj _ _ (hxk.symm.trans hkey))
      · rintro ⟨x, hx, hxk, hxs⟩
        rw [contains_push, Bool.or_eq_false_iff, beq_eq_false_iff_ne] at hxs
        refine ⟨⟨x, hx, hxk, hxs.1⟩, fun e2 => ?_⟩
        have hk1 : x.key = e.key := by rw [hxk, hkey, e2]
        have := nodup_same (entry_one hinj hes hnd) hx hem hk1
        rw [this] at hxs
        exact hxs.2 rfl
    · have h2 : Only (fun x => x = r) w1 (setBlock w1 r (.mapIter (some b) since (seen.push e.born) clock)) := only_setObj _
      rcases hal with rfl | rfl
      · exact h2
      · exact (Only.drew _ _).trans h2
    · rcases hal with rfl | rfl <;> simp [setBlock]
    · rw [← hkey]
      exact run_entry_at _ r b since seen es clock e hset.1 hb' hem hst.nodup
end
end Go.Proofs.YtecnjifincahaaaGreatDoor
