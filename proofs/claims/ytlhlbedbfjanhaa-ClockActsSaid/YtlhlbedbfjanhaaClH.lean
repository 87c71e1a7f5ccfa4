/- What holds in Tick's two loops. -/
import Derived.Test.YtlhlbedbfjanhaaClG
namespace Go.Proofs.Ytlhlbedbfjanhaa
open Go.RowKit Go.Sort

def Clk.mid (c : Clk) (nx : Int) : Clk := ⟨nx, c.at_⟩
def clears (c : Clk) (l : List Int) : Clk := l.foldl Clk.clear c
theorem clears_now (l : List Int) : ∀ c : Clk, (clears c l).now = c.now := by
  induction l with
  | nil => intro c; rfl
  | cons a l ih => intro c; show (clears (c.clear a) l).now = _; rw [ih]; rfl
theorem clears_at (l : List Int) : ∀ (c : Clk) (k : Int), (clears c l).at_ k = if k ∈ l then none else c.at_ k := by
  induction l with
  | nil => intro c k; simp [clears]
  | cons a l ih =>
    intro c k
    show (clears (c.clear a) l).at_ k = _
    rw [ih]
    unfold Clk.clear
    by_cases h : k ∈ l
    · simp [h]
    · by_cases e : k = a <;> simp [h, e]
theorem clears_snoc (c : Clk) (l : List Int) (a : Int) : clears c (l ++ [a]) = (clears c l).clear a := by
  unfold clears; rw [List.foldl_append]; rfl
theorem clears_tick (c : Clk) (n : Int) (l : List Int) (h : ∀ k, k ∈ l ↔ isDue (c.next n) (c.at_ k) = true) : clears (c.mid (c.next n)) l = c.tick n := by
  have h1 := clears_now l (c.mid (c.next n))
  have h2 := funext fun k => clears_at l (c.mid (c.next n)) k
  generalize clears (c.mid (c.next n)) l = d at h1 h2
  obtain ⟨dn, da⟩ := d
  simp only at h1 h2
  unfold Clk.tick
  rw [h1, h2]
  congr 1
  funext k
  by_cases hk : k ∈ l
  · rw [if_pos hk, if_pos ((h k).1 hk)]
  · rw [if_neg hk, if_neg (fun e => hk ((h k).2 e))]
    rfl
theorem slot_mid (c : Clk) (nx : Int) (k : Nat) : slotF (c.mid nx) k = slotF c k := rfl
theorem WRep.mid {w : World} {b p mb : Nat} {c : Clk} (h : WRep w b p mb c) (nx : Int) (h0 : 0 ≤ nx) (h1 : nx ≤ maxT) : WRep (w.setCell ⟨p, 0, none⟩ (.int .i64 nx)) b p mb (c.mid nx) := by
  have hp := h.ps
  have hm := h.ms
  have hne := h.ne
  have ho := Only.set1 w p 0 (.int .i64 nx)
  refine ⟨h.ps, h.ms, h.ne, ?_, h.map.only ho (fun e => hne e.symm), fun k hk => (h.slot k hk).only ho (by omega), ⟨h0, h1, h.ok.at_⟩⟩
  have h2 := h.blk.set 0 (.int .i64 nx)
  rw [wcells_set] at h2
  exact h2

/-- slots' loop: i of them are seen. -/
structure T1 (w wr : World) (b p mb : Nat) (c : Clk) (nx : Int) (i : Nat) (lv : Value) (l : List Int) : Prop where
  own : wr.ownsRow (w.heap.size + 1) 2 1 lv l.length (i64s l)
  nd : l.Nodup
  mem : ∀ id, id ∈ l ↔ winB c nx i id = true
  rep : WRep wr b p mb (c.mid nx)
  only : Only (InW b) w wr
  box : wr.cell? ⟨w.heap.size, 0, none⟩ = some (.pointer (some ⟨p, 0, none⟩))
  top : w.heap.size + 1 ≤ wr.heap.size
  low : b + 66 ≤ w.heap.size
theorem T1.step {w wr w2 : World} {b p mb : Nat} {c : Clk} {nx : Int} {i : Nat} {lv v2 : Value} {l r : List Int} (h : T1 w wr b p mb c nx i lv l) (hc : c.OK) (hi : i < 64) (hown : w2.ownsRow (w.heap.size + 1) 2 1 v2 (l ++ r).length (i64s (l ++ r))) (hn : r.Nodup)
    (hm : ∀ id, id ∈ r ↔ (slotF c ((c.now.toNat + i) % 64) id).isSome = true ∧ isDue nx (c.at_ id) = true) (hr : WRep w2 b p mb (c.mid nx)) (ho : Only (fun x => w.heap.size + 1 ≤ x) wr w2) : T1 w w2 b p mb c nx (i + 1) v2 (l ++ r) := by
  have htop := h.top
  have hlow := h.low
  refine ⟨hown, ?_, fun id => ?_, hr, h.only.trans' ho (fun x hx e => by omega), ho.cell (by show ¬ _; simp only; omega) h.box, Nat.le_trans h.top ho.size, h.low⟩
  · rw [List.nodup_append]
    refine ⟨h.nd, hn, fun x hx y hy e => ?_⟩
    subst e
    exact win_disj hc nx i hi x ((h.mem x).1 hx) (slotF_some.1 ((hm x).1 hy).1)
  · rw [List.mem_append, h.mem id, hm id, win_succ hc nx i hi id, Bool.or_eq_true, slotF_some]
    refine or_congr_right ?_
    cases hc2 : c.at_ id with
    | none => simp
    | some t =>
      simp only [Option.some.injEq, exists_eq_left', isDue, decide_eq_true_eq, Bool.and_eq_true]
      exact and_comm
/-- the loop over those that are due: i of them are taken away. -/
structure T2 (w wr : World) (b p mb : Nat) (c : Clk) (nx : Int) (i : Nat) (lv : Value) (l : List Int) : Prop where
  own : wr.ownsRow (w.heap.size + 1) 2 1 lv l.length (i64s l)
  rep : WRep wr b p mb (clears (c.mid nx) (l.take i))
  only : Only (InW b) w wr
  box : wr.cell? ⟨w.heap.size, 0, none⟩ = some (.pointer (some ⟨p, 0, none⟩))
  low : b + 66 ≤ w.heap.size
  top : w.heap.size + 1 ≤ wr.heap.size
theorem T2.start {w wr w2 : World} {b p mb : Nat} {c : Clk} {nx : Int} {i : Nat} {lv : Value} {l l2 : List Int} (h : T1 w wr b p mb c nx i lv l) (hown : w2.ownsRow (w.heap.size + 1) 2 1 lv l2.length (i64s l2)) (ho : Only (fun x => lv.ownBlock = some x) wr w2) : T2 w w2 b p mb c nx 0 lv l2 := by
  have htop := h.top
  have hlow := h.low
  have hlv : ∀ x, lv.ownBlock = some x → w.heap.size + 1 ≤ x := fun x hx => (own_lt h.own hx).1
  refine ⟨hown, ?_, h.only.trans' ho (fun x hx e => by have := hlv x e; omega), ho.cell (fun e => by have := hlv _ e; simp only at this; omega) h.box, h.low, Nat.le_trans h.top ho.size⟩
  exact h.rep.only ho (fun x hx e => by have := hlv x e; unfold InW at hx; omega)
theorem T2.step {w wr w2 : World} {b p mb : Nat} {c : Clk} {nx : Int} {i : Nat} {lv : Value} {l : List Int} (h : T2 w wr b p mb c nx i lv l) (hi : i < l.length) (hr : WRep w2 b p mb ((clears (c.mid nx) (l.take i)).clear l[i])) (ho : Only (InW b) wr w2) : T2 w w2 b p mb c nx (i + 1) lv l := by
  have hlow := h.low
  have htop := h.top
  refine ⟨own_only h.own ho (fun g hg e => by have := (own_lt h.own hg).1; unfold InW at e; omega), ?_, h.only.trans ho, ho.cell (fun e => by unfold InW at e; simp only at e; omega) h.box, h.low, Nat.le_trans h.top ho.size⟩
  rw [List.take_succ_eq_append_getElem hi, clears_snoc]
  exact hr
theorem i64s_at (l : List Int) (i : Nat) (h : i < l.length) : (i64s l)[i]? = some (.int .i64 l[i]) := by
  unfold i64s
  rw [List.getElem?_map, List.getElem?_eq_getElem h]; rfl
end Go.Proofs.Ytlhlbedbfjanhaa
