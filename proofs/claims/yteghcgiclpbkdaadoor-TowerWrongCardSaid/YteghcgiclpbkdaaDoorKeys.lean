/- The two kinds of keys of a tower's maps: numbers, and things. -/
import Derived.Test.YteghcgiclpbkdaaDoorMap
import Derived.Test.YteghcgiclpbkdaaDoorPureQ
namespace Go.Proofs.YteghcgiclpbkdaaDoor
open Go.RowKit

def i64V (x : Int) : Value := .int .i64 x
theorem eqInt {P : Program} {t : TypeId} {k : IntKind} (h : P.underlying t = some (.int k)) (d : Nat) (a b : Int) (w : World) : (Op.equalIn (d + 1) t (.int k a) (.int k b)).run P w = .ok (a == b) w := by
  simp [Op.equalIn, run_underlying h]
theorem eqStr {P : Program} {t : TypeId} (h : P.underlying t = some .string) (d : Nat) (a b : ByteArray) (w : World) : (Op.equalIn (d + 1) t (.string a) (.string b)).run P w = .ok (a == b) w := by
  simp [Op.equalIn, run_underlying h]
theorem chkInt {P : Program} {t : TypeId} {k : IntKind} (h : P.underlying t = some (.int k)) (e : Bool) (d : Nat) (a : Int) (w : World) : (Instr.checkKey e (d + 1) t (.int k a)).run P w = .ok () w := by
  simp [Instr.checkKey, run_underlying h]
theorem chkStr {P : Program} {t : TypeId} (h : P.underlying t = some .string) (e : Bool) (d : Nat) (a : ByteArray) (w : World) : (Instr.checkKey e (d + 1) t (.string a)).run P w = .ok () w := by
  simp [Instr.checkKey, run_underlying h]
theorem keyInt {P : Program} {t : TypeId} {k : IntKind} (h : P.underlying t = some (.int k)) : KeyEnc P t (fun x : Int => Value.int k x) := by
  refine ⟨⟨_, h, .inl fun a b => ?_⟩, fun a b w => ?_, fun b a w => ?_, fun a => ?_, fun a b h => ?_⟩
  · simp only [Instr.sameNow, if_true]
    congr 1
  · exact eqInt h 9999 a b w
  · exact chkInt h b 9999 a w
  · simp [Instr.sameBits]
  · simpa using h
theorem keyI64 : KeyEnc Tryd.prog 2 i64V := keyInt Tryd.underlying2

def thingV (x : Thing) : Value := .agg #[.int .i64 x.n, .string x.a, .string x.b]

theorem thingStood : Tryd.prog.stoodInHeld 110 = false := by kernel_rfl
theorem thingCheck (e : Bool) (d : Nat) (x : Thing) (w : World) : (Instr.checkKey e (d + 2) 110 (thingV x)).run Tryd.prog w = .ok () w := by
  simp [Instr.checkKey, thingV, run_underlying Tryd.underlying110, part, isAgg, run_underlying Tryd.underlying3, run_underlying Tryd.underlying9]
theorem beqS (a b : ByteArray) : (a == b) = decide (a = b) := by
  rw [Bool.eq_iff_iff, MapKept.bytes_beq]; simp
theorem thing_if (x y : Thing) (w : World) : (if x.n = y.n then (if (x.a == y.a) = false then Result.ok false w else if (x.b == y.b) = false then Result.ok false w else Result.ok true w) else Result.ok false w) = .ok (decide (x = y)) w := by
  obtain ⟨n, a, b⟩ := x
  obtain ⟨n2, a2, b2⟩ := y
  simp only [beqS, Thing.mk.injEq]
  by_cases h1 : n = n2 <;> by_cases h2 : a = a2 <;> by_cases h3 : b = b2 <;> simp [h1, h2, h3]
theorem thingEq (d : Nat) (x y : Thing) (w : World) : (Op.equalIn (d + 2) 110 (thingV x) (thingV y)).run Tryd.prog w = .ok (decide (x = y)) w := by
  rw [← thing_if]
  have hs := thingStood
  simp [Op.equalIn, thingV, run_underlying Tryd.underlying110, part, isAgg, run_underlying Tryd.underlying3, run_underlying Tryd.underlying9, hs]
theorem thingV_inj (a b : Thing) (h : thingV a = thingV b) : a = b := by
  obtain ⟨n, x, y⟩ := a
  obtain ⟨n2, x2, y2⟩ := b
  simpa [thingV] using h
theorem sameBits_refl3 (n : Nat) (x : Int) (a b : ByteArray) : Instr.sameBits (n + 2) (.agg #[.int .i64 x, .string a, .string b]) (.agg #[.int .i64 x, .string a, .string b]) = true := by
  simp [Instr.sameBits, beqS]
theorem keyThing : KeyEnc Tryd.prog 110 thingV :=
  ⟨⟨_, Tryd.underlying110, .inr fun _ _ => rfl⟩, fun a b w => thingEq 9998 a b w, fun e a w => thingCheck e 9998 a w, fun a => sameBits_refl3 9998 a.n a.a a.b, thingV_inj⟩
end Go.Proofs.YteghcgiclpbkdaaDoor
