/- Goes. -/
import Derived.Test.YteghcgiclpbkdaaDoorLawA
import Derived.Deep.WholeRow
namespace Go.Proofs.YteghcgiclpbkdaaDoor
open Go.RowKit

theorem wpList_run {P : Program} {ops : Array Oper} {rest : List Oper} {o : Oper} {a : Act} {w : World} {Q : Exit → Act → World → Prop} (hg : o.guard = none) (v : Value) (w2 : World)
    (hrun : (execOp a.eval o).run P w = .ok (.value v) w2) (h : wpList P ops Q rest (a.put o.dst v) w2) : wpList P ops Q (o :: rest) a w :=
  wpList_plain hg fun _ hK => by unfold Oper.wp; rw [hrun]; exact hK _ _ h
def goesTab : Array Value := #[.bool false, .bool false, .bool false, .bool false, .bool false, .bool false, .bool true, .bool true, .bool true, .bool false, .bool false, .bool true, .bool true, .bool false, .bool false, .bool false, .bool true, .bool false, .bool true, .bool false, .bool false, .bool false, .bool false, .bool false, .bool false]
def goesZero : Array Value := #[.bool false, .bool false, .bool false, .bool false, .bool false, .bool false, .bool false, .bool false, .bool false, .bool false, .bool false, .bool false, .bool false, .bool false, .bool false, .bool false, .bool false, .bool false, .bool false, .bool false, .bool false, .bool false, .bool false, .bool false, .bool false]
theorem goes_cell (w : World) (x y : Nat) (hx : x < 5) (hy : y < 5) : (w.alloc (.cells goesTab 88)).cell? ⟨w.heap.size, x * 5 + y, none⟩ = some (.bool (fitsB x y)) := by
  rw [World.cell?_alloc_at _ _ _ _ rfl]
  have hx' : x = 0 ∨ x = 1 ∨ x = 2 ∨ x = 3 ∨ x = 4 := by omega
  have hy' : y = 0 ∨ y = 1 ∨ y = 2 ∨ y = 3 ∨ y = 4 := by omega
  rcases hx' with rfl | rfl | rfl | rfl | rfl <;> rcases hy' with rfl | rfl | rfl | rfl | rfl <;> rfl

theorem gbuild1 (w : World) : (Instr.build 87 #[(1, .bool true), (2, .bool true), (3, .bool true)]).run Tryd.prog w = .ok (.agg #[.bool false, .bool true, .bool true, .bool true, .bool false]) w := by kernel_rfl
theorem gbuild2 (w : World) : (Instr.build 87 #[(1, .bool true), (2, .bool true)]).run Tryd.prog w = .ok (.agg #[.bool false, .bool true, .bool true, .bool false, .bool false]) w := by kernel_rfl
theorem gbuild3 (w : World) : (Instr.build 87 #[(1, .bool true), (3, .bool true)]).run Tryd.prog w = .ok (.agg #[.bool false, .bool true, .bool false, .bool true, .bool false]) w := by kernel_rfl
theorem gbuild4 (w : World) : (Instr.build 88 #[(1, .agg #[.bool false, .bool true, .bool true, .bool true, .bool false]), (2, .agg #[.bool false, .bool true, .bool true, .bool false, .bool false]), (3, .agg #[.bool false, .bool true, .bool false, .bool true, .bool false])]).run Tryd.prog w = .ok (.agg goesTab) w := by kernel_rfl

theorem goes_b (w : World) (a : Go.Act) (o : Oper) (t : TypeId) (parts : List (Nat × Operand)) (v : Value) (ho : o.op = .build t parts.toArray) (h : (Instr.build t (parts.map fun p => (p.1, a.eval p.2)).toArray).run Tryd.prog w = .ok v w) :
    (execOp a.eval o).run Tryd.prog w = .ok (.value v) w := by
  unfold execOp
  simp only [ho, Sem.run_bind, List.map_toArray, h, Result.andThen_ok]
  rfl
theorem goes_alloc (w : World) (e : Operand → Value) (pos : String) (ty : TypeId) (af : Array Edge) (g : Option (Nat × Bool)) (d : Option Tmp) : (execOp e ⟨d, .alloc 88, ty, pos, af, g⟩).run Tryd.prog w = .ok (.value (.pointer (some ⟨w.heap.size, 0, none⟩))) (w.alloc (.cells goesZero 88)) := by kernel_rfl
theorem goes_store (w : World) {ops : Array Oper} {rest : List Oper} {o : Oper} {a : Act} {Q : Exit → Act → World → Prop} (hgd : o.guard = none) (x y : Operand) (ho : o.op = .store 88 x y)
    (hx : a.eval x = .pointer (some ⟨w.heap.size, 0, none⟩)) (hy : a.eval y = .agg goesTab) (h : wpList Tryd.prog ops Q rest (a.put o.dst undef) (w.alloc (.cells goesTab 88))) :
    wpList Tryd.prog ops Q (o :: rest) a (w.alloc (.cells goesZero 88)) :=
  wpList_store_row hgd 88 x y ho w.heap.size goesTab hx hy 88 goesZero (heap_alloc_last w _) (by kernel_rfl) rfl (by kernel_rfl) (by rw [World.setRow_alloc_new]; exact h)

set_option maxHeartbeats 4000000 in
theorem goes_any (a b : Int) (w : World) :
    Calls Tryd.prog 14 #[.int .i64 a, .int .i64 b] w fun e w' => e = .returned (.bool (fitsB a b)) ∧ Below w.heap.size w w' := by
  by_cases h : 1 ≤ a ∧ a ≤ 4 ∧ 1 ≤ b ∧ b ≤ 4
  · obtain ⟨a1, a2, b1, b2⟩ := h
    obtain ⟨x, rfl⟩ := Int.eq_ofNat_of_zero_le (show 0 ≤ a by omega)
    obtain ⟨y, rfl⟩ := Int.eq_ofNat_of_zero_le (show 0 ≤ b by omega)
    have hc := goes_cell w x y (by omega) (by omega)
    go_enter Tryd.func14, Tryd.ntmps14
    go_wp2_with (first
      | ((with_reducible refine wpList_run (o := ⟨some 6, _, _, _, _, _⟩) ?_ (.agg #[.bool false, .bool true, .bool true, .bool true, .bool false]) w ?_ ?_); rfl; exact goes_b w _ _ _ [(1, _), (2, _), (3, _)] _ rfl (gbuild1 w))
      | ((with_reducible refine wpList_run (o := ⟨some 7, _, _, _, _, _⟩) ?_ (.agg #[.bool false, .bool true, .bool true, .bool false, .bool false]) w ?_ ?_); rfl; exact goes_b w _ _ _ [(1, _), (2, _)] _ rfl (gbuild2 w))
      | ((with_reducible refine wpList_run (o := ⟨some 8, _, _, _, _, _⟩) ?_ (.agg #[.bool false, .bool true, .bool false, .bool true, .bool false]) w ?_ ?_); rfl; exact goes_b w _ _ _ [(1, _), (3, _)] _ rfl (gbuild3 w))
      | ((with_reducible refine wpList_run (o := ⟨some 9, _, _, _, _, _⟩) ?_ (.agg goesTab) w ?_ ?_); rfl; exact goes_b w _ _ _ [(1, _), (2, _), (3, _)] _ rfl (gbuild4 w))
      | ((with_reducible refine goes_store w (o := ⟨none, _, _, _, _, _⟩) ?_ (.tmp 5) (.tmp 9) ?_ ?_ ?_ ?_); rfl; rfl; rfl; rfl)
      | ((with_reducible refine wpList_run (o := ⟨some 5, _, _, _, _, _⟩) ?_ (.pointer (some ⟨w.heap.size, 0, none⟩)) (w.alloc (.cells goesZero 88)) ?_ ?_); rfl; exact goes_alloc w _ _ _ _ _ _))
    go_ret
    exact ⟨rfl, (Below.refl _ _).alloc (Nat.le_refl _) _⟩
  · have hf : fitsB a b = false := by
      unfold fitsB
      by_cases h1 : a = 1
      · subst h1; simp; omega
      · by_cases h2 : a = 2
        · subst h2; simp; omega
        · by_cases h3 : a = 3
          · subst h3; simp; omega
          · simp [h1, h2, h3]
    rw [hf]
    have HF := Lib.hid hf
    clear hf
    go_enter Tryd.func14, Tryd.ntmps14
    go_wp2_with (first
      | ((with_reducible refine wpList_run (o := ⟨some 6, _, _, _, _, _⟩) ?_ (.agg #[.bool false, .bool true, .bool true, .bool true, .bool false]) w ?_ ?_); rfl; exact goes_b w _ _ _ [(1, _), (2, _), (3, _)] _ rfl (gbuild1 w))
      | ((with_reducible refine wpList_run (o := ⟨some 7, _, _, _, _, _⟩) ?_ (.agg #[.bool false, .bool true, .bool true, .bool false, .bool false]) w ?_ ?_); rfl; exact goes_b w _ _ _ [(1, _), (2, _)] _ rfl (gbuild2 w))
      | ((with_reducible refine wpList_run (o := ⟨some 8, _, _, _, _, _⟩) ?_ (.agg #[.bool false, .bool true, .bool false, .bool true, .bool false]) w ?_ ?_); rfl; exact goes_b w _ _ _ [(1, _), (3, _)] _ rfl (gbuild3 w))
      | ((with_reducible refine wpList_run (o := ⟨some 9, _, _, _, _, _⟩) ?_ (.agg goesTab) w ?_ ?_); rfl; exact goes_b w _ _ _ [(1, _), (2, _), (3, _)] _ rfl (gbuild4 w))
      | ((with_reducible refine goes_store w (o := ⟨none, _, _, _, _, _⟩) ?_ (.tmp 5) (.tmp 9) ?_ ?_ ?_ ?_); rfl; rfl; rfl; rfl)
      | ((with_reducible refine wpList_run (o := ⟨some 5, _, _, _, _, _⟩) ?_ (.pointer (some ⟨w.heap.size, 0, none⟩)) (w.alloc (.cells goesZero 88)) ?_ ?_); rfl; exact goes_alloc w _ _ _ _ _ _))
    all_goals go_ret
    all_goals exact ⟨rfl, (Below.refl _ _).alloc (Nat.le_refl _) _⟩

end Go.Proofs.YteghcgiclpbkdaaDoor
