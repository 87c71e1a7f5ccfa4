/- append of one row of grants (or numbers) to another one. -/
import Derived.Test.YteghcgiclpbkdaaDoorQueC
import Derived.Laws.OwnMore
import Derived.Maps.AppendAt
namespace Go.Proofs.YteghcgiclpbkdaaDoor
open Go.RowKit

theorem wpList_append_run {P : Program} {ops : Array Oper} {rest : List Oper} {o : Oper} {a : Act} {w : World} {Q : Exit → Act → World → Prop}
    (hg : o.guard = none) (s x : Operand) (t : TypeId) (hop : o.op = Op.call { callee := Callee.builtin Builtin.append, args := #[s, x], argTypes := #[t, t] })
    (v u : Value) (hs : a.eval s = v) (hx : a.eval x = u) (v2 : Value) (w2 : World) (hrun : ∀ ty, (Builtin.append_ #[t, t] ty #[v, u]).run P w = .ok v2 w2)
    (hK : wpList P ops Q rest (a.put o.dst v2) w2) : wpList P ops Q (o :: rest) a w := by
  refine wpList_plain hg fun K hK' => ?_
  unfold Oper.wp
  simp [execOp, hop, resolve, invoke, builtin, hs, hx, hrun, Result.andThen]
  exact hK' _ _ hK

theorem run_append_rows {b1 b2 : Nat} {w : World} {v1 v2 : Value} {l1 l2 : List (Int × Int)} (h1 : w.ownsRow b1 34 2 v1 l1.length (gcells l1)) (h2 : w.ownsRow b2 34 2 v2 l2.length (gcells l2))
    (hb : b1 ≤ w.heap.size) (hl : l1.length + l2.length ≤ 4000000) :
    ∃ v w', (∀ ty, (Builtin.append_ #[31, 31] ty #[v1, v2]).run Tryd.prog w = .ok v w') ∧ w'.ownsRow b1 34 2 v (l1 ++ l2).length (gcells (l1 ++ l2)) ∧ w.grownBy w' v1.ownBlock ∧ (v.ownBlock = v1.ownBlock ∨ v.ownBlock = some w.heap.size) := by
  obtain ⟨i, hi, hii⟩ := Option.map_eq_some_iff.1 infoGrant
  simp only [Prod.mk.injEq] at hii
  obtain ⟨i1, i2, i3⟩ := hii
  rcases ownsRow_cases h2 with ⟨rfl, h0, hx⟩ | ⟨g, cap, rfl⟩
  · have : l2 = [] := List.eq_nil_of_length_eq_zero h0
    subst this
    refine ⟨v1, w, fun ty => run_append_owned_none w b1 _ ty _ i 2 Tryd.underlying31 hi v1 _ _ h1, by simpa using h1, ⟨rfl, rfl, rfl, Nat.le_refl _, fun _ _ _ => rfl⟩, .inl rfl⟩
  · have key := fun ty => run_append_own_at (P := Tryd.prog) w b1 31 ty 34 i (.agg #[.int .i64 0, .int .i64 0]) 2 16 Tryd.underlying31 hi i1 i2 i3 rfl (by decide) v1 l1.length (gcells l1) h1
      ⟨g, 0, none⟩ l2.length cap (gcells l2) (by rw [gcells_length]; omega) (h2.cells rfl) gcells_one (by unfold maxLen; omega) (by omega) hb
    obtain ⟨v, w', hr, ho, hg, _, hat⟩ := key 0
    refine ⟨v, w', fun ty => hr, ?_, hg, hat⟩
    rw [gcells_append, List.length_append]; exact ho
theorem ints_one {l : List Int} : ∀ u ∈ i64s l, u.oneCell' = true := by
  intro u hu
  unfold i64s at hu
  obtain ⟨x, _, rfl⟩ := List.mem_map.1 hu
  rfl
theorem run_append_ints {b1 b2 : Nat} {w : World} {v1 v2 : Value} {l1 l2 : List Int} (h1 : w.ownsRow b1 2 1 v1 l1.length (i64s l1)) (h2 : w.ownsRow b2 2 1 v2 l2.length (i64s l2))
    (hb : b1 ≤ w.heap.size) (hl : l1.length + l2.length ≤ 4000000) :
    ∃ v w', (∀ ty, (Builtin.append_ #[44, 44] ty #[v1, v2]).run Tryd.prog w = .ok v w') ∧ w'.ownsRow b1 2 1 v (l1 ++ l2).length (i64s (l1 ++ l2)) ∧ w.grownBy w' v1.ownBlock ∧ (v.ownBlock = v1.ownBlock ∨ v.ownBlock = some w.heap.size) := by
  obtain ⟨i, hi, hii⟩ := Option.map_eq_some_iff.1 infoI64
  simp only [Prod.mk.injEq] at hii
  obtain ⟨i1, i2, i3⟩ := hii
  rcases ownsRow_cases h2 with ⟨rfl, h0, hx⟩ | ⟨g, cap, rfl⟩
  · have : l2 = [] := List.eq_nil_of_length_eq_zero h0
    subst this
    refine ⟨v1, w, fun ty => run_append_owned_none w b1 _ ty _ i 1 Tryd.underlying44 hi v1 _ _ h1, by simpa using h1, ⟨rfl, rfl, rfl, Nat.le_refl _, fun _ _ _ => rfl⟩, .inl rfl⟩
  · have key := fun ty => run_append_own_at (P := Tryd.prog) w b1 44 ty 2 i (.int .i64 0) 1 8 Tryd.underlying44 hi i1 i2 i3 rfl (by decide) v1 l1.length (i64s l1) h1
      ⟨g, 0, none⟩ l2.length cap (i64s l2) (by simp [i64s]) (h2.cells rfl) ints_one (by unfold maxLen; omega) (by omega) hb
    obtain ⟨v, w', hr, ho, hg, _, hat⟩ := key 0
    refine ⟨v, w', fun ty => hr, ?_, hg, hat⟩
    rw [List.length_append, show i64s (l1 ++ l2) = i64s l1 ++ i64s l2 by simp [i64s]]; exact ho
end Go.Proofs.YteghcgiclpbkdaaDoor
