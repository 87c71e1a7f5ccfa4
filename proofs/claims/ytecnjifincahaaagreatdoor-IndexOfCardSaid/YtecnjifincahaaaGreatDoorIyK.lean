/- A map's keys that are numbers. -/
import Derived.Test.YtecnjifincahaaaGreatDoorIMap
namespace Go.Proofs.YtecnjifincahaaaGreatDoor
open Go.RowKit

def i64V (x : Int) : Value := .int .i64 x
theorem eqInt {P : Program} {t : TypeId} {k : IntKind} (h : P.underlying t = some (.int k)) (d : Nat) (a b : Int) (w : World) : (Op.equalIn (d + 1) t (.int k a) (.int k b)).run P w = .ok (a == b) w := by
  simp [Op.equalIn, run_underlying h]
theorem chkInt {P : Program} {t : TypeId} {k : IntKind} (h : P.underlying t = some (.int k)) (e : Bool) (d : Nat) (a : Int) (w : World) : (Instr.checkKey e (d + 1) t (.int k a)).run P w = .ok () w := by
  simp [Instr.checkKey, run_underlying h]
theorem keyInt {P : Program} {t : TypeId} {k : IntKind} (h : P.underlying t = some (.int k)) : KeyEnc P t (fun x : Int => Value.int k x) := by
  refine ⟨⟨_, h, .inl fun a b => ?_⟩, fun a b w => ?_, fun b a w => ?_, fun a => ?_, fun a b h => ?_⟩
  · simp only [Instr.sameNow, if_true]
    congr 1
  · exact eqInt h 9999 a b w
  · exact chkInt h b 9999 a w
  · simp [Instr.sameBits]
  · simpa using h
theorem keyI64 : KeyEnc Tryz.prog 2 i64V := keyInt Tryz.underlying2
theorem i64V_inj : ∀ a b, i64V a = i64V b → a = b := fun a b h => by simpa [i64V] using h
end Go.Proofs.YtecnjifincahaaaGreatDoor
