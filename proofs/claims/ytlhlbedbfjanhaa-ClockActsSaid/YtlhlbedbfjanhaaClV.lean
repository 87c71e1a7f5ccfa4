/- The law's due: what holds in its loops. -/
import Derived.Test.YtlhlbedbfjanhaaClT
namespace Go.Proofs.Ytlhlbedbfjanhaa
open Go.RowKit

/-- the best of those that have been seen. -/
def BestOf (c : Clk) (now : Int) (V : Int → Prop) : Option Int → Prop
  | none => ∀ k, V k → isDue now (c.at_ k) = false
  | some x => V x ∧ isDue now (c.at_ x) = true ∧ ∀ k, V k → isDue now (c.at_ k) = true → k = x ∨ ahead c.at_ x k
theorem BestOf.skip {c : Clk} {now : Int} {V V' : Int → Prop} {st : Option Int} (h : BestOf c now V st) (id : Int) (hV : ∀ k, V' k ↔ (V k ∨ k = id)) (hd : isDue now (c.at_ id) = false) : BestOf c now V' st := by
  cases st with
  | none =>
    intro k hk
    rcases (hV k).1 hk with hk | rfl
    · exact h k hk
    · exact hd
  | some x =>
    refine ⟨(hV x).2 (.inl h.1), h.2.1, fun k hk hkd => ?_⟩
    rcases (hV k).1 hk with hk | rfl
    · exact h.2.2 k hk hkd
    · rw [hd] at hkd; cases hkd
theorem BestOf.take {c : Clk} {now : Int} {V V' : Int → Prop} {st : Option Int} (h : BestOf c now V st) (id : Int) (hV : ∀ k, V' k ↔ (V k ∨ k = id)) (hd : isDue now (c.at_ id) = true) (hs : ∀ x, st = some x → ahead c.at_ id x) : BestOf c now V' (some id) := by
  refine ⟨(hV id).2 (.inr rfl), hd, fun k hk hkd => ?_⟩
  rcases (hV k).1 hk with hk | rfl
  · cases st with
    | none => rw [h k hk] at hkd; cases hkd
    | some x =>
      have hx := hs x rfl
      rcases h.2.2 k hk hkd with rfl | h2
      · exact .inr hx
      · exact .inr (ahead_trans hx h2)
  · exact .inl rfl
theorem BestOf.keep {c : Clk} {now : Int} {V V' : Int → Prop} {x : Int} (h : BestOf c now V (some x)) (id : Int) (hV : ∀ k, V' k ↔ (V k ∨ k = id)) (hx : id = x ∨ ahead c.at_ x id) : BestOf c now V' (some x) := by
  refine ⟨(hV x).2 (.inl h.1), h.2.1, fun k hk hkd => ?_⟩
  rcases (hV k).1 hk with hk | rfl
  · exact h.2.2 k hk hkd
  · exact hx

def minusF (c : Clk) (l : List Int) : Int → Option Value := fun k => if k ∈ l then none else atF c k
theorem minusF_some {c : Clk} {l : List Int} {k : Int} {v : Value} (h : minusF c l k = some v) : k ∉ l ∧ ∃ t, c.at_ k = some t ∧ v = .int .i64 t := by
  unfold minusF atF at h
  split at h
  · cases h
  · rename_i hn
    cases hc : c.at_ k with
    | none => rw [hc] at h; cases h
    | some t => rw [hc] at h; exact ⟨hn, t, rfl, (Option.some.inj h).symm⟩
theorem minusF_due {c : Clk} {l : List Int} {k now : Int} (hk : k ∉ l) (hd : isDue now (c.at_ k) = true) : (minusF c l k).isSome = true := by
  unfold minusF atF
  rw [if_neg hk]
  cases hc : c.at_ k with
  | none => rw [hc] at hd; cases hd
  | some t => rfl
/-- out holds l, the first of those that are due. -/
structure LD (w wr : World) (mB : Nat) (c : Clk) (now : Int) (ov : Value) (l : List Int) : Prop where
  own : wr.ownsRow w.heap.size 2 1 ov l.length (i64s l)
  map : MapS i64V wr mB (minusF c l)
  ord : l.Pairwise (ahead c.at_)
  due : ∀ x ∈ l, isDue now (c.at_ x) = true
  fst : ∀ x ∈ l, ∀ k, k ∉ l → isDue now (c.at_ k) = true → ahead c.at_ x k
  only : Only (fun x => x = mB) w wr
  lt : mB < w.heap.size
theorem LD.nodup {w wr : World} {mB : Nat} {c : Clk} {now : Int} {ov : Value} {l : List Int} (h : LD w wr mB c now ov l) : l.Nodup := h.ord.imp fun {x y} hxy e => by rw [e] at hxy; exact ahead_irrefl _ _ hxy
theorem LD.len {w wr : World} {mB : Nat} {c : Clk} {now : Int} {ov : Value} {l : List Int} {N : Nat} (h : LD w wr mB c now ov l) (hF : Few c N) : l.length ≤ N := by
  obtain ⟨L, h1, h2⟩ := hF
  refine Nat.le_trans (sub_len h.nodup fun x hx => h2 x ?_) h1
  have := h.due x hx
  cases hq : c.at_ x with
  | none => rw [hq] at this; cases this
  | some t => rfl
/-- nobody is left. -/
theorem LD.done {w wr w2 : World} {mB : Nat} {c : Clk} {now : Int} {ov : Value} {l : List Int} (h : LD w wr mB c now ov l) (hm : MapS i64V w2 mB (minusF c l)) (hb : BestOf c now (fun k => (minusF c l k).isSome = true) none) :
    DueL c.at_ now l ∧ MapS i64V w2 mB (atF ⟨now, fun k => if isDue now (c.at_ k) then none else c.at_ k⟩) := by
  have hmem : ∀ k, k ∈ l ↔ isDue now (c.at_ k) = true := fun k => by
    constructor
    · exact h.due k
    · intro hd
      rcases Decidable.em (k ∈ l) with hk | hk
      · exact hk
      · have := hb k (minusF_due hk hd)
        rw [hd] at this; cases this
  refine ⟨⟨h.ord, hmem⟩, hm.congr fun k => ?_⟩
  unfold atF minusF
  simp only
  by_cases e : k ∈ l
  · rw [if_pos e, if_pos ((hmem k).1 e)]; rfl
  · rw [if_neg e, if_neg (fun e2 => e ((hmem k).2 e2))]; rfl
/-- the best one is told, and taken away. -/
theorem LD.more {w wr w1 w2 w3 w4 : World} {mB r0 : Nat} {c : Clk} {now : Int} {ov v2 : Value} {l : List Int} {x : Int} (h : LD w wr mB c now ov l) (hb : BestOf c now (fun k => (minusF c l k).isSome = true) (some x)) (hr0 : wr.heap.size ≤ r0) (h1 : Only (fun k => k = r0) wr w1)
    (h2 : Below w1.heap.size w1 w2) (hown : w3.ownsRow w.heap.size 2 1 v2 (l.length + 1) (i64s l ++ [.int .i64 x])) (hgr : w2.grownBy w3 ov.ownBlock)
    (hm : MapS i64V w4 mB (fun k => if k = x then none else minusF c l k)) (ho : Only (fun k => k = mB) w3 w4) : LD w w4 mB c now v2 (l ++ [x]) := by
  have hlt := h.lt
  have hsz := h.only.size
  have h12 : Only NoneS w1 w2 := Only.ofBelow h2 NoneS
  have h23 : Only (fun k => ov.ownBlock = some k) w2 w3 := Only.ofGrown hgr (fun k hk => hk)
  have hob : ∀ k, ov.ownBlock = some k → w.heap.size ≤ k := fun k hk => (own_lt h.own hk).1
  have hxl : x ∉ l := by
    intro hx
    have : (minusF c l x).isSome = true := hb.1
    unfold minusF at this
    rw [if_pos hx] at this
    cases this
  refine ⟨?_, hm.congr fun k => ?_, ?_, fun y hy => ?_, fun y hy k hk hd => ?_, ?_, h.lt⟩
  · have e1 : (l ++ [x]).length = l.length + 1 := by simp
    have e2 : i64s (l ++ [x]) = i64s l ++ [.int .i64 x] := by simp [i64s]
    rw [e1, e2]
    exact own_only hown ho (fun g hg e => by have := (own_lt hown hg).1; omega)
  · unfold minusF
    by_cases e : k = x
    · rw [if_pos e, if_pos (by rw [List.mem_append, List.mem_singleton]; exact .inr e)]
    · rw [if_neg e]
      by_cases e2 : k ∈ l
      · rw [if_pos e2, if_pos (by rw [List.mem_append]; exact .inl e2)]
      · rw [if_neg e2, if_neg (by rw [List.mem_append, List.mem_singleton]; rintro (h | h) <;> contradiction)]
  · rw [List.pairwise_append]
    refine ⟨h.ord, by simp, fun a ha b hb2 => ?_⟩
    rw [List.mem_singleton] at hb2
    subst hb2
    exact h.fst a ha b hxl hb.2.1
  · rw [List.mem_append, List.mem_singleton] at hy
    rcases hy with hy | rfl
    · exact h.due y hy
    · exact hb.2.1
  · rw [List.mem_append, List.mem_singleton] at hy hk
    have hkl : k ∉ l := fun e => hk (.inl e)
    have hkx : k ≠ x := fun e => hk (.inr e)
    rcases hy with hy | rfl
    · exact h.fst y hy k hkl hd
    · rcases hb.2.2 k (minusF_due hkl hd) hd with e | e
      · exact absurd e hkx
      · exact e
  · exact (h.only.trans' ((h1.mono (T := fun k => w.heap.size ≤ k) (fun k _ e => by omega)).trans ((h12.mono (fun k _ e => e.elim)).trans (h23.mono (fun k _ e => hob k e)))) (fun k hk e => by omega)).trans ho
end Go.Proofs.Ytlhlbedbfjanhaa
