/- A region that draws its order, whose operations read, and whose callees leave what was there as it was: walked once, in the order of the text. -/
import Derived.Test.YthlioinmeimhoaaDoorKpB
namespace Go.Proofs.YthlioinmeimhoaaDoor
open Go.Shelf Go.RowKit Go.Lib

/-- a world in which all that lay in w lies as it did. -/
structure BelBy (w : World) where
  val : World
  bel : Below w.heap.size w val
instance (w : World) : Inhabited (BelBy w) := ⟨⟨w, Below.refl _ _⟩⟩
theorem wp_region_bel {P : Program} {id : Nat} {Q : Exit → Act → World → Prop} {a : Act} {w : World} {l : List Oper} (hm : P.follows .mixedOrders = true) (hB : Region.lexB .any l.toArray = true)
    (h : wpQuiet P l.toArray (fun w' => ∃ p : BelBy w, w' = p.val) (fun a' => ∀ w', (∃ p : BelBy w, w' = p.val) → Q .normal a' w') l a) : (Code.region id l.toArray true).wp P Q a w :=
  wp_region_quiet (C := fun w' => ∃ p : BelBy w, w' = p.val) hm hB ⟨⟨w.drew, (Below.refl _ w).drew⟩, rfl⟩ (by simpa using h)
theorem calls_bel {P : Program} {f : FuncId} {args : Array Value} {w : World} {p : BelBy w} {v : Value} (h : Calls P f args p.val fun e w' => e = .returned v ∧ Below p.val.heap.size p.val w') :
    Calls P f args p.val fun e w'' => e = .returned v ∧ ∃ q : BelBy w, w'' = q.val :=
  h.mono fun _ _ ⟨he, hb⟩ => ⟨he, ⟨_, p.bel.trans (hb.mono p.bel.size)⟩, rfl⟩
theorem bel_cell {w : World} {a : Addr} {v : Value} (h : w.cell? a = some v) (p : BelBy w) : p.val.cell? a = some v := bcell p.bel h
end Go.Proofs.YthlioinmeimhoaaDoor
