/- Rows of grants that are owned and written: the block as a list. -/
import Derived.Test.YtlhlbedbfjanhaaBase
import Derived.Laws.CopyRow
import Derived.Maps.AppendAt
import Derived.Deep.AppendLies
import Derived.Deep.RegionLaw
namespace Go.Proofs.Ytlhlbedbfjanhaa
open Go.RowKit

/-- Block g is a row of type e that holds just the values xs. -/
def Blk (w : World) (g : Nat) (e : TypeId) (xs : List Value) : Prop := w.heap[g]? = some (.cells xs.toArray e (0, 0))

theorem Blk.lt {w : World} {g : Nat} {e : TypeId} {xs : List Value} (h : Blk w g e xs) : g < w.heap.size := (Array.getElem?_eq_some_iff.1 h).1
theorem Blk.cell {w : World} {g : Nat} {e : TypeId} {xs : List Value} (h : Blk w g e xs) (j : Nat) : w.cell? ⟨g, j, none⟩ = xs[j]? := by
  rw [cell_of_row w g j _ e (0, 0) h]; simp
theorem Blk.frozen {w : World} {g : Nat} {e : TypeId} {xs : List Value} (h : Blk w g e xs) (j : Nat) : w.frozen? ⟨g, j, none⟩ = false := frozen_of_row w g j _ e h
theorem Blk.only {S : Nat → Prop} {w w2 : World} {g : Nat} {e : TypeId} {xs : List Value} (h : Blk w g e xs) (ho : Only S w w2) (hs : ¬ S g) : Blk w2 g e xs := (ho.block g h.lt hs).trans h
theorem Blk.below {w w2 : World} {g : Nat} {e : TypeId} {xs : List Value} (h : Blk w g e xs) (hb : Below w.heap.size w w2) : Blk w2 g e xs := (hb.block g h.lt).trans h
theorem Blk.alloc {w : World} {g : Nat} {e : TypeId} {xs : List Value} (h : Blk w g e xs) (o : Obj) : Blk (w.alloc o) g e xs := (Below.heap_alloc _ _ _ h.lt).trans h
theorem Blk.set {w : World} {g : Nat} {e : TypeId} {xs : List Value} (h : Blk w g e xs) (j : Nat) (u : Value) : Blk (w.setCell ⟨g, j, none⟩ u) g e (xs.set j u) := by
  unfold Blk
  rw [heap_setCell_same w g j _ e u h]; simp
theorem Blk.inj {w : World} {g : Nat} {e e2 : TypeId} {xs ys : List Value} (h : Blk w g e xs) (h2 : Blk w g e2 ys) : e = e2 ∧ xs = ys := by
  unfold Blk at h h2
  rw [h] at h2
  injection h2 with h2
  injection h2 with a b
  exact ⟨b, by simpa using a⟩
theorem Blk.drew {w : World} {g : Nat} {e : TypeId} {xs : List Value} (h : Blk w g e xs) : Blk w.drew g e xs := h

theorem ownsRow_of_blk {w : World} {g : Nat} {e : TypeId} {size n cap : Nat} {xs rest : List Value} (h : Blk w g e (xs ++ rest)) (hx : xs.length = n * size) (hl : (xs ++ rest).length = cap * size) (hn : n ≤ cap) (hc : cap ≤ maxLen) :
    w.ownsRow 0 e size (.slice (some ⟨g, 0, none⟩) n cap) n xs :=
  ⟨hx, .inr ⟨g, cap, _, rfl, Nat.zero_le _, h, hn, hc, by simpa using hl, by rw [← hx]; simp⟩⟩
theorem blk_of_ownsRow {w : World} {b g : Nat} {e : TypeId} {size n cap : Nat} {xs : List Value} (h : w.ownsRow b e size (.slice (some ⟨g, 0, none⟩) n cap) n xs) :
    ∃ rest, Blk w g e (xs ++ rest) ∧ xs.length = n * size ∧ (xs ++ rest).length = cap * size ∧ n ≤ cap ∧ cap ≤ maxLen := by
  obtain ⟨hx, h⟩ := h
  rcases h with ⟨h, _⟩ | ⟨g2, cap2, cur, h, _, hg, hn, hc, hs, ht⟩
  · simp at h
  · simp only [Value.slice.injEq, Option.some.injEq, Addr.mk.injEq, and_true, true_and] at h
    obtain ⟨rfl, rfl⟩ := h
    refine ⟨cur.toList.drop (n * size), ?_, hx, ?_, hn, hc⟩
    · unfold Blk; rw [hg, ← ht]; simp
    · rw [← ht]; simpa using hs

/-- What a slice of an owned row looks like. -/
theorem ownsRow_cases {w : World} {b : Nat} {e : TypeId} {size n : Nat} {v : Value} {xs : List Value} (h : w.ownsRow b e size v n xs) :
    (v = .slice none 0 0 ∧ n = 0 ∧ xs = []) ∨ ∃ g cap, v = .slice (some ⟨g, 0, none⟩) n cap := by
  obtain ⟨hx, h⟩ := h
  rcases h with ⟨rfl, rfl⟩ | ⟨g, cap, cur, rfl, _⟩
  · exact .inl ⟨rfl, rfl, by simpa using hx⟩
  · exact .inr ⟨g, cap, rfl⟩

theorem ownsRow_slice {w : World} {b : Nat} {e : TypeId} {size n : Nat} {v : Value} {xs : List Value} (h : w.ownsRow b e size v n xs) : ∃ a m c, v = .slice a m c := by
  rcases ownsRow_cases h with ⟨rfl, _⟩ | ⟨g, cap, rfl⟩
  · exact ⟨_, _, _, rfl⟩
  · exact ⟨_, _, _, rfl⟩
theorem gread_of_ownsRow {w : World} {b : Nat} {e : TypeId} {v : Value} {l : List (Int × Int)} (h : w.ownsRow b e 2 v l.length (gcells l)) : GRead w v l := by
  rcases ownsRow_cases h with ⟨rfl, h0, hx⟩ | ⟨g, cap, rfl⟩
  · have : l = [] := by cases l <;> simp_all
    subst this
    exact ⟨by simp, none, 0, rfl, fun h => by simp at h⟩
  · obtain ⟨rest, hb, _, _, hn, hc⟩ := blk_of_ownsRow h
    refine ⟨by unfold maxLen at hc; omega, _, cap, rfl, fun _ => ⟨g, 0, rfl, fun i hi => ?_⟩⟩
    obtain ⟨h0, h1⟩ := gcells_at l i hi
    rw [hb.cell, hb.cell, Nat.zero_add, List.getElem?_append_left (by simp; omega), List.getElem?_append_left (by simp; omega)]
    exact ⟨h0, h1⟩

theorem gcells_set (m : List (Int × Int)) : ∀ (i : Nat) (g : Int × Int), i < m.length → ((gcells m).set (i * 2) (.int .i64 g.1)).set (i * 2 + 1) (.int .i64 g.2) = gcells (m.set i g) := by
  induction m with
  | nil => intro i g h; simp at h
  | cons x m ih =>
    intro i g h
    cases i with
    | zero => rfl
    | succ i =>
      have := ih i g (by simpa using h)
      rw [show (i + 1) * 2 = i * 2 + 2 by omega, show i * 2 + 2 + 1 = (i * 2 + 1) + 2 by omega]
      show _ :: _ :: ((gcells m).set (i * 2) _).set (i * 2 + 1) _ = _ :: _ :: gcells (m.set i g)
      rw [this]
theorem gcells_take (m : List (Int × Int)) : ∀ (i : Nat), (gcells m).take (i * 2) = gcells (m.take i) := by
  induction m with
  | nil => intro i; simp [gcells]
  | cons x m ih =>
    intro i
    cases i with
    | zero => rfl
    | succ i =>
      rw [show (i + 1) * 2 = i * 2 + 1 + 1 by omega]
      show _ :: _ :: (gcells m).take (i * 2) = _ :: _ :: gcells (m.take i)
      rw [ih i]

/-- An append whose run is known, at a step of a region that draws. -/
theorem step_append_run {P : Program} {ops : Array Oper} {o : Oper} {a : Act} {w : World} {K : Act → World → Prop} {Q : Exit → Act → World → Prop} {E : Prop}
    (hg : o.guard = none) (s x : Operand) (t : TypeId) (hop : o.op = Op.call { callee := Callee.builtin Builtin.append, args := #[s, x], argTypes := #[t, t] })
    (v u : Value) (hs : a.eval s = v) (hx : a.eval x = u) (v2 : Value) (w2 : World) (hrun : ∀ ty, (Builtin.append_ #[t, t] ty #[v, u]).run P w = .ok v2 w2)
    (hK : K (a.put o.dst v2) w2) : if Region.wanted o (yielded ops a.tmps) = true then Oper.wp P o a w K Q else E := by
  have hw : Region.wanted o (yielded ops a.tmps) = true := by simp [Region.wanted, hg]
  rw [if_pos hw]
  unfold Oper.wp
  simp [execOp, hop, resolve, invoke, builtin, hs, hx, hrun, Result.andThen]
  exact hK

/-- The built-in clear over the end of a row. -/
theorem run_clear_row {P : Program} {t e ty : TypeId} {z : Value} (ht : P.underlying t = some (.slice e)) (hz : ∀ w, (zeroValue e).run P w = .ok z w) (h1 : ∀ u ∈ z.cells, u.oneCell' = true) (hz0 : 0 < z.cells.size)
    {w : World} {g o n c : Nat} {et : TypeId} {xs : List Value} (hb : Blk w g et xs) (hn : o + n * z.cells.size ≤ xs.length) :
    ∃ w2 ys, (Builtin.clear_ #[t] ty #[.slice (some ⟨g, o, none⟩) n c]).run P w = .ok (.tuple #[]) w2 ∧ Blk w2 g et (xs.take o ++ ys) ∧ (xs.take o ++ ys).length = xs.length ∧ Only (· = g) w w2 := by
  rcases Nat.eq_zero_or_pos n with rfl | hn0
  · refine ⟨w, xs.drop o, ?_, by simpa using hb, by simp, Only.refl _ _⟩
    simp [Builtin.clear_, run_underlying ht]
  · have hl : (Builtin.zeroCells z.cells n).toList.length = n * z.cells.size := by simp [Builtin.zeroCells]
    have hall : ∀ v ∈ (Builtin.zeroCells z.cells n).toList, v.oneCell' = true := by
      intro v hv
      simp only [Builtin.zeroCells, Array.toList_map, List.mem_map] at hv
      obtain ⟨i, _, rfl⟩ := hv
      have : i % z.cells.size < z.cells.size := Nat.mod_lt _ hz0
      rw [getElem!_pos z.cells _ this]
      exact h1 _ (Array.getElem_mem this)
    have hst := run_storeCells_at (P := P) g o et (Builtin.zeroCells z.cells n).toList 0 xs.toArray w hb (by simp [hl]; omega) hall
    refine ⟨w.setRow g (xs.take o ++ (Builtin.zeroCells z.cells n).toList ++ xs.drop (o + n * z.cells.size)).toArray, (Builtin.zeroCells z.cells n).toList ++ xs.drop (o + n * z.cells.size), ?_, ?_, ?_, ?_⟩
    · obtain ⟨n', rfl⟩ : ∃ k, n = k + 1 := ⟨n - 1, by omega⟩
      simp [Builtin.clear_, run_underlying ht, hz]
      rw [hst, hl]; simp [Result.andThen]
    · unfold Blk
      rw [setRow_heap w g _ _ et (0, 0) hb]
      simp
    · simp [hl]; omega
    · refine ⟨rfl, rfl, rfl, by simp [World.setRow], fun k hk hne => ?_⟩
      simp only [World.setRow, Array.getElem?_modify]
      rw [if_neg (fun e => hne e.symm)]
end Go.Proofs.Ytlhlbedbfjanhaa
