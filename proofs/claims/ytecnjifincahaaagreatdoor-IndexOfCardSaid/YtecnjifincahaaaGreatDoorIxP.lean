/- What stands at the end of a path. Plain: no program in sight. -/
import Derived.Test.YtecnjifincahaaaGreatDoorIGD
namespace Go.Proofs.YtecnjifincahaaaGreatDoor
open Go.Shelf Go.RowKit Go.Lib

/-- the field of a name. -/
def fieldP : List (BL × V) → BL → Option V
  | [], _ => none
  | f :: l, p => if f.1 = p then some f.2 else fieldP l p
def stepP (place : BL → Nat → Option Nat) (v : V) (p : BL) : Option V := match v with
  | .obj l => fieldP l p
  | .list l => (place p l.length).bind fun k => l[k]?
  | _ => none
def findP (place : BL → Nat → Option Nat) : V → List BL → Option V
  | v, [] => some v
  | v, p :: ps => (stepP place v p).bind fun x => findP place x ps
theorem findP_snoc (place : BL → Nat → Option Nat) : ∀ (ps : List BL) (v : V) (p : BL), findP place v (ps ++ [p]) = (findP place v ps).bind fun x => stepP place x p
  | [], v, p => by
    rw [List.nil_append, findP, findP]
    cases h : stepP place v p with
    | none => simp [h]
    | some x => simp [h, findP]
  | q :: ps, v, p => by
    rw [List.cons_append, findP, findP]
    cases h : stepP place v q with
    | none => simp
    | some x => simp [findP_snoc place ps x p]
theorem fieldP_mem : ∀ {l : List (BL × V)} {p : BL} {x : V}, fieldP l p = some x → ∃ f ∈ l, f.2 = x
  | f :: l, p, x, h => by
    unfold fieldP at h
    split at h
    · exact ⟨f, List.mem_cons_self .., Option.some.inj h⟩
    · obtain ⟨g, hg, e⟩ := fieldP_mem h
      exact ⟨g, List.mem_cons_of_mem _ hg, e⟩
end Go.Proofs.YtecnjifincahaaaGreatDoor
