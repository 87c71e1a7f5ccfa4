/- The clock in memory: its block, its map of deadlines, its 64 slots' maps. -/
import Derived.Test.YtlhlbedbfjanhaaClP
import Derived.Test.YtlhlbedbfjanhaaClK
import Derived.Test.YtlhlbedbfjanhaaRow
namespace Go.Proofs.Ytlhlbedbfjanhaa
open Go.RowKit

def wcells (now : Int) (mb : Nat) (s : Nat → Option Nat) : List Value := .int .i64 now :: .map (some mb) :: (List.range 64).map (fun k => .map (s k))
theorem wcells_now (now : Int) (mb : Nat) (s : Nat → Option Nat) : (wcells now mb s)[0]? = some (.int .i64 now) := rfl
theorem wcells_at (now : Int) (mb : Nat) (s : Nat → Option Nat) : (wcells now mb s)[1]? = some (.map (some mb)) := rfl
theorem wcells_slot (now : Int) (mb : Nat) (s : Nat → Option Nat) (k : Nat) (h : k < 64) : (wcells now mb s)[2 + k]? = some (.map (s k)) := by
  unfold wcells
  rw [Nat.add_comm 2 k, List.getElem?_cons_succ, List.getElem?_cons_succ, List.getElem?_map, List.getElem?_range h]
  rfl
theorem wcells_set (now n2 : Int) (mb : Nat) (s : Nat → Option Nat) : (wcells now mb s).set 0 (.int .i64 n2) = wcells n2 mb s := rfl
theorem wcells_put (now : Int) (mb : Nat) (s : Nat → Option Nat) (k : Nat) (h : k < 64) (v : Option Nat) : (wcells now mb s).set (2 + k) (.map v) = wcells now mb (fun j => if j = k then v else s j) := by
  unfold wcells
  rw [Nat.add_comm 2 k, List.set_cons_succ, List.set_cons_succ]
  congr 2
  apply List.ext_getElem?
  intro j
  rw [List.getElem?_set, List.getElem?_map, List.getElem?_map]
  by_cases hj : j < 64
  · rw [List.getElem?_range hj]
    by_cases e : k = j
    · subst e; simp [h]
    · rw [if_neg e]
      simp [Ne.symm e]
  · rw [List.getElem?_eq_none (by simpa using hj)]
    rw [if_neg (by omega)]
    rfl

def atF (c : Clk) : Int → Option Value := fun id => (c.at_ id).map (fun t => Value.int .i64 t)
def slotF (c : Clk) (k : Nat) : Int → Option Value := fun id => match c.at_ id with
  | some t => if t.toNat % 64 = k then some (.bool true) else none
  | none => none
/-- the clock c lies in the blocks b .. b + 65: p is its own. -/
structure WRep (w : World) (b p mb : Nat) (c : Clk) : Prop where
  ps : p = b ∨ p = b + 1
  ms : mb = b ∨ mb = b + 1
  ne : p ≠ mb
  blk : Blk w p 49 (wcells c.now mb (fun k => some (b + 2 + k)))
  map : MapS i64V w mb (atF c)
  slot : ∀ k, k < 64 → MapS i64V w (b + 2 + k) (slotF c k)
  ok : c.OK0
def InW (b : Nat) : Nat → Prop := fun x => b ≤ x ∧ x < b + 66
theorem WRep.top {w : World} {b p mb : Nat} {c : Clk} (h : WRep w b p mb c) : b + 66 ≤ w.heap.size := by
  have := (h.slot 63 (by omega)).lt
  omega
theorem WRep.only {S : Nat → Prop} {w w2 : World} {b p mb : Nat} {c : Clk} (h : WRep w b p mb c) (ho : Only S w w2) (hs : ∀ x, InW b x → ¬ S x) : WRep w2 b p mb c := by
  have hp := h.ps
  have hm := h.ms
  exact ⟨h.ps, h.ms, h.ne, h.blk.only ho (hs p (by unfold InW; omega)), h.map.only ho (hs mb (by unfold InW; omega)), fun k hk => (h.slot k hk).only ho (hs _ (by unfold InW; omega)), h.ok⟩
theorem WRep.below {w w2 : World} {b p mb : Nat} {c : Clk} (h : WRep w b p mb c) (hb : Below w.heap.size w w2) : WRep w2 b p mb c := h.only (Only.ofBelow hb NoneS) (fun _ _ h => h)
theorem WRep.alloc {w : World} {b p mb : Nat} {c : Clk} (h : WRep w b p mb c) (o : Obj) : WRep (w.alloc o) b p mb c := h.only (Only.alloc NoneS w o) (fun _ _ h => h)
theorem WRep.drew {w : World} {b p mb : Nat} {c : Clk} (h : WRep w b p mb c) : WRep w.drew b p mb c := h.only (Only.drew NoneS w) (fun _ _ h => h)
theorem WRep.now0 {w : World} {b p mb : Nat} {c : Clk} (h : WRep w b p mb c) : w.cell? ⟨p, 0, none⟩ = some (.int .i64 c.now) := h.blk.cell 0
theorem WRep.at1 {w : World} {b p mb : Nat} {c : Clk} (h : WRep w b p mb c) : w.cell? ⟨p, 1, none⟩ = some (.map (some mb)) := h.blk.cell 1
theorem WRep.slot2 {w : World} {b p mb : Nat} {c : Clk} (h : WRep w b p mb c) (k : Nat) (hk : k < 64) : w.cell? ⟨p, 2 + k, none⟩ = some (.map (some (b + 2 + k))) := by
  rw [h.blk.cell (2 + k)]
  exact wcells_slot _ _ _ k hk

/-- the keys of a map of deadlines are few: they stand on a list. -/
theorem MapS.keys {w : World} {b : Nat} {m : Int → Option Value} (h : MapS i64V w b m) : ∃ L : List Int, L.Nodup ∧ ∀ k, k ∈ L ↔ (m k).isSome = true := by
  obtain ⟨es, clock, ks, h1, h2, h3, h4, _⟩ := h
  exact ⟨ks.map Prod.fst, h3, fun k => by rw [h4 k, look_some]⟩

theorem slotF_set (c : Clk) (id a : Int) (k : Nat) (hk : (c.when a).toNat % 64 = k) (j : Nat) (hc : c.at_ id = none) (id2 : Int) :
    slotF (c.set id a) j id2 = if j = k then (if id2 = id then some (.bool true) else slotF c j id2) else slotF c j id2 := by
  unfold slotF Clk.set
  simp only
  by_cases h : id2 = id
  · subst h
    simp only [if_true, hc, hk]
    by_cases hj : j = k
    · subst hj; simp
    · simp [hj, Ne.symm hj]
  · simp only [h, if_false]
    exact (ite_self _).symm
theorem slotF_clear (c : Clk) (id : Int) (k : Nat) (hk : ((c.at_ id).getD 0).toNat % 64 = k) (j : Nat) (id2 : Int) :
    slotF (c.clear id) j id2 = if j = k then (if id2 = id then none else slotF c j id2) else slotF c j id2 := by
  unfold slotF Clk.clear
  simp only
  by_cases h : id2 = id
  · subst h
    simp only [if_true]
    by_cases hj : j = k
    · simp [hj]
    · simp only [hj, if_false]
      cases hc : c.at_ id2 with
      | none => rfl
      | some t =>
        rw [hc] at hk
        simp only [Option.getD_some] at hk
        simp only
        rw [if_neg (by omega)]
  · simp only [h, if_false]
    exact (ite_self _).symm
theorem atF_set (c : Clk) (id a id2 : Int) : atF (c.set id a) id2 = if id2 = id then some (.int .i64 (c.when a)) else atF c id2 := by
  unfold atF Clk.set
  simp only
  split <;> rfl
theorem atF_clear (c : Clk) (id id2 : Int) : atF (c.clear id) id2 = if id2 = id then none else atF c id2 := by
  unfold atF Clk.clear
  simp only
  split <;> rfl
/-- a deadline taken away: its entry in the map, then that in its slot. -/
theorem WRep.cleared {w w2 w3 : World} {b p mb : Nat} {c : Clk} (h : WRep w b p mb c) (id : Int) (k : Nat) (hk : ((c.at_ id).getD 0).toNat % 64 = k)
    (hm : MapS i64V w2 mb (fun x => if x = id then none else atF c x)) (ho : Only (fun x => x = mb) w w2) (hn : MapS i64V w3 (b + 2 + k) (fun x => if x = id then none else slotF c k x)) (ho2 : Only (fun x => x = b + 2 + k) w2 w3) :
    WRep w3 b p mb (c.clear id) := by
  have hp := h.ps
  have hms := h.ms
  have hne := h.ne
  refine ⟨h.ps, h.ms, h.ne, (h.blk.only ho hne).only ho2 (by omega), (hm.congr (fun x => atF_clear c id x)).only ho2 (by omega), fun j hj => ?_, Clk.clear_ok0 h.ok id⟩
  by_cases e : j = k
  · subst e
    exact hn.congr (fun x => by rw [slotF_clear c id j hk j x, if_pos rfl])
  · refine ((((h.slot j hj).congr (m2 := slotF (c.clear id) j) (fun x => by rw [slotF_clear c id k hk j x, if_neg e])).only ho (by omega)).only ho2 (by omega))
/-- a deadline set that is not there. -/
theorem WRep.setted {w w2 w3 : World} {b p mb : Nat} {c : Clk} (h : WRep w b p mb c) (id a : Int) (k : Nat) (hk : (c.when a).toNat % 64 = k) (hc : c.at_ id = none)
    (hm : MapS i64V w2 mb (fun x => if x = id then some (.int .i64 (c.when a)) else atF c x)) (ho : Only (fun x => x = mb) w w2) (hn : MapS i64V w3 (b + 2 + k) (fun x => if x = id then some (.bool true) else slotF c k x)) (ho2 : Only (fun x => x = b + 2 + k) w2 w3) :
    WRep w3 b p mb (c.set id a) := by
  have hp := h.ps
  have hms := h.ms
  have hne := h.ne
  refine ⟨h.ps, h.ms, h.ne, (h.blk.only ho hne).only ho2 (by omega), (hm.congr (fun x => atF_set c id a x)).only ho2 (by omega), fun j hj => ?_, Clk.set_ok0 h.ok id a⟩
  by_cases e : j = k
  · subst e
    exact hn.congr (fun x => by rw [slotF_set c id a j hk j hc x, if_pos rfl])
  · refine ((((h.slot j hj).congr (m2 := slotF (c.set id a) j) (fun x => by rw [slotF_set c id a k hk j hc x, if_neg e])).only ho (by omega)).only ho2 (by omega))
theorem Clk.set_clear (c : Clk) (id a : Int) : (c.clear id).set id a = c.set id a := by
  unfold Clk.set Clk.clear Clk.when
  simp only [Clk.mk.injEq, true_and]
  funext k
  by_cases h : k = id <;> simp [h]
end Go.Proofs.Ytlhlbedbfjanhaa
