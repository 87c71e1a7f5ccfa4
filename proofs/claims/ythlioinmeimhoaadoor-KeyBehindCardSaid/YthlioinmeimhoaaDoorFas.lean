/- errors.As at a target *api.Errno, of errors in errors: closed facts, errors.as, errors.As. -/
import Derived.Test.YthlioinmeimhoaaDoorErr
import Derived.Test.YthlioinmeimhoaaDoorRow
import Derived.OwnWalk
namespace Go.Proofs.YthlioinmeimhoaaDoor
open Go.RowKit Go.Extern.Stop Go.Stop Go.Extern

/-- v is an error of fault.New's make, of code c. -/
def IsFault (w : World) (v : Value) (c : Int) : Prop :=
  ∃ b s, v = .iface 104 (.pointer (some ⟨b, 0, none⟩)) ∧ Blk w b 106 [.string s, .iface 52 (.int .i64 c)]

/-! ### closed facts -/
theorem asValueOf (t : Addr) (w : World) : (ReflectliteValue.unpack (.iface 87 (.pointer (some t)))).run Tryd.prog w
    = .ok (.agg #[.pointer (some ⟨6, 87, none⟩), .pointer (some ⟨w.heap.size, 0, none⟩), .int .u64 150]) (w.alloc (.cells #[.pointer (some t)] 87)) := by kernel_rfl
theorem asValueOfC (c : Int) (w : World) : (ReflectliteValue.unpack (.iface 52 (.int .i64 c))).run Tryd.prog w
    = .ok (.agg #[.pointer (some ⟨6, 52, none⟩), .pointer (some ⟨w.heap.size, 0, none⟩), .int .u64 130]) (w.alloc (.cells #[.int .i64 c] 52)) := by kernel_rfl
theorem asType (a : Addr) (w : World) : (ReflectliteValue.methodAny (ReflectliteValue.valueError "reflectlite.Value.Type" 0) (fun t _ _ _ => ReflectliteType.toType t) #[.agg #[.pointer (some ⟨6, 87, none⟩), .pointer (some a), .int .u64 150]]).run Tryd.prog w
    = .ok (.iface 137 (.agg #[.pointer (some ⟨6, 87, none⟩)])) w := by kernel_rfl
theorem asMethodKind (h : Value) (w : World) : (Go.method 285 137 (.agg #[h]) "Kind").run Tryd.prog w = .ok (131, h) w := by kernel_rfl
theorem asMethodElem (h : Value) (w : World) : (Go.method 285 137 (.agg #[h]) "Elem").run Tryd.prog w = .ok (144, .agg #[h]) w := by kernel_rfl
theorem asMethodImplements (h : Value) (w : World) : (Go.method 285 137 (.agg #[h]) "Implements").run Tryd.prog w = .ok (145, .agg #[h]) w := by kernel_rfl
theorem asMethodAssignableTo (h : Value) (w : World) : (Go.method 285 137 (.agg #[h]) "AssignableTo").run Tryd.prog w = .ok (142, .agg #[h]) w := by kernel_rfl
theorem asMethodUnwrap (v : Value) (w : World) : (Go.method 285 104 v "Unwrap").run Tryd.prog w = .ok (137, v) w := by kernel_rfl
theorem asKindP (w : World) : ((ReflectliteType.abiMethod fun t => (fun a : Nat => Value.int IntKind.u8 (a : Int)) <$> Rtype.kind t) #[.pointer (some ⟨6, 87, none⟩)]).run Tryd.prog w = .ok (.int .u8 22) w := by kernel_rfl
theorem asKindE (w : World) : ((ReflectliteType.abiMethod fun t => (fun a : Nat => Value.int IntKind.u8 (a : Int)) <$> Rtype.kind t) #[.pointer (some ⟨6, 52, none⟩)]).run Tryd.prog w = .ok (.int .u8 2) w := by kernel_rfl
theorem asRlm (z : Sem Value) (f : TypeId → Addr → Nat → Nat → Sem Value) (v : Value) :
    ReflectliteValue.method z f #[v] = (do match ← ReflectliteValue.parts v with | none => z | some (t, a, fl) => f t a fl (fl % 32)) := rfl
theorem asParts (a : Addr) (w : World) : (ReflectliteValue.parts (.agg #[.pointer (some ⟨6, 87, none⟩), .pointer (some a), .int .u64 150])).run Tryd.prog w = .ok (some (87, a, 150)) w := by kernel_rfl
theorem asIsNil (a p : Addr) (W : World) (ha : W.cell? a = some (.pointer (some p))) :
    (ReflectliteValue.method (ReflectliteValue.valueError "reflectlite.Value.IsNil" 0) ReflectliteValue.isNil #[.agg #[.pointer (some ⟨6, 87, none⟩), .pointer (some a), .int .u64 150]]).run Tryd.prog W = .ok (.bool false) W := by
  rw [asRlm]
  simp only [Sem.run_bind, asParts, Result.andThen]
  simp [ReflectliteValue.isNil, loadVar, isAgg, underlying, Tryd.underlying87, ha, Result.andThen]
theorem asElemT (w : World) : (ReflectliteType.method ReflectliteType.elem #[.agg #[.pointer (some ⟨6, 87, none⟩)]]).run Tryd.prog w = .ok (.iface 137 (.agg #[.pointer (some ⟨6, 52, none⟩)])) w := by kernel_rfl
theorem asImplements (w : World) : (ReflectliteType.relation "Implements" ReflectliteType.implements_ #[.agg #[.pointer (some ⟨6, 52, none⟩)], .iface 137 (.agg #[.pointer (some ⟨6, 47, none⟩)])]).run Tryd.prog w = .ok (.bool true) w := by kernel_rfl
theorem asTypeOfF (v : Value) (w : World) : (ReflectliteType.typeOf #[.iface 104 v]).run Tryd.prog w = .ok (.iface 137 (.agg #[.pointer (some ⟨6, 104, none⟩)])) w := by kernel_rfl
theorem asTypeOfC (v : Value) (w : World) : (ReflectliteType.typeOf #[.iface 52 v]).run Tryd.prog w = .ok (.iface 137 (.agg #[.pointer (some ⟨6, 52, none⟩)])) w := by kernel_rfl
theorem asAssignF (w : World) : (ReflectliteType.relation "AssignableTo" ReflectliteType.assignableTo #[.agg #[.pointer (some ⟨6, 104, none⟩)], .iface 137 (.agg #[.pointer (some ⟨6, 52, none⟩)])]).run Tryd.prog w = .ok (.bool false) w := by kernel_rfl
theorem asAssignC (w : World) : (ReflectliteType.relation "AssignableTo" ReflectliteType.assignableTo #[.agg #[.pointer (some ⟨6, 52, none⟩)], .iface 137 (.agg #[.pointer (some ⟨6, 52, none⟩)])]).run Tryd.prog w = .ok (.bool true) w := by kernel_rfl
theorem asElemOf (w : World) : (Rtype.elem? 87).run Tryd.prog w = .ok (some 52) w := by kernel_rfl
theorem asMk (p : Addr) (w : World) : (ReflectliteValue.mk 52 p ReflectliteValue.flagAddr).run Tryd.prog w = .ok (.agg #[.pointer (some ⟨6, 52, none⟩), .pointer (some p), .int .u64 386]) w := by kernel_rfl
theorem asElemV (a p : Addr) (W : World) (ha : W.cell? a = some (.pointer (some p))) :
    (ReflectliteValue.method (ReflectliteValue.valueError "reflectlite.Value.Elem" 0) ReflectliteValue.elem #[.agg #[.pointer (some ⟨6, 87, none⟩), .pointer (some a), .int .u64 150]]).run Tryd.prog W
      = .ok (.agg #[.pointer (some ⟨6, 52, none⟩), .pointer (some p), .int .u64 386]) W := by
  rw [asRlm]
  simp only [Sem.run_bind, asParts, Result.andThen]
  simp [ReflectliteValue.elem, loadVar, isAgg, underlying, Tryd.underlying87, ha, Result.andThen, asElemOf, asMk]
theorem asRls (v x : Value) : ReflectliteValue.set #[v, x] = (do
    let (some (dst, a, fl), some (src, b, _)) := (← ReflectliteValue.parts v, ← ReflectliteValue.parts x)
      | unsupported (.noEntry "extern/(internal/reflectlite.Value).Set.zeroValue")
    if fl / ReflectliteValue.flagAddr % 2 == 0 then unsupported (.noEntry "extern/(internal/reflectlite.Value).Set.unaddressable")
    let val ← loadVar src b
    if ← Rtype.directlyAssignable dst src then storeVar dst a val
    else if ← Rtype.implements dst src then
      if (← Rtype.kind src) == 20 then
        match val with
        | .nilIface => unsupported (.noEntry "extern/reflectlite: a nil value of one interface type handed on as a value of another")
        | _ => storeVar dst a val
      else storeVar dst a (.iface src val)
    else panicString ("reflectlite.Set: value of type " ++ (← Rtype.spelt src) ++ " is not assignable to type " ++ (← Rtype.spelt dst))
    pure (.tuple #[])) := rfl
theorem asPartsA (a : Addr) (w : World) : (ReflectliteValue.parts (.agg #[.pointer (some ⟨6, 52, none⟩), .pointer (some a), .int .u64 386])).run Tryd.prog w = .ok (some (52, a, 386)) w := by kernel_rfl
theorem asPartsC (a : Addr) (w : World) : (ReflectliteValue.parts (.agg #[.pointer (some ⟨6, 52, none⟩), .pointer (some a), .int .u64 130])).run Tryd.prog w = .ok (some (52, a, 130)) w := by kernel_rfl
theorem asDirect (w : World) : (Rtype.directlyAssignable 52 52).run Tryd.prog w = .ok true w := by kernel_rfl
theorem asSet (ta b : Addr) (c : Int) (old : Value) (W : World) (hb : W.cell? b = some (.int .i64 c)) (ht : W.cell? ta = some old) (hf : W.frozen? ta = false) :
    (ReflectliteValue.set #[.agg #[.pointer (some ⟨6, 52, none⟩), .pointer (some ta), .int .u64 386], .agg #[.pointer (some ⟨6, 52, none⟩), .pointer (some b), .int .u64 130]]).run Tryd.prog W
      = .ok (.tuple #[]) (W.setCell ta (.int .i64 c)) := by
  rw [asRls]
  simp only [Sem.run_bind, asPartsA, asPartsC, Result.andThen]
  simp [ReflectliteValue.flagAddr, loadVar, isAgg, underlying, Tryd.underlying52, hb, Result.andThen, asDirect, storeVar, Value.cells, storeCells, Addr.add]
  rw [run_store Tryd.prog W ta _ _ (by rfl)]
  simp [ht, hf]
theorem asNoAsF (v : Value) (xT : TypeId) (w : World) : (Instr.typeAssert (.iface 104 v) xT 141 true).run Tryd.prog w = .ok (.tuple #[.nilIface, .bool false]) w := run_typeAssert_lacksB Tryd.underlying141 (by kernel_rfl) (by kernel_rfl) v xT w
theorem asUnwrapF (v : Value) (xT : TypeId) (w : World) : (Instr.typeAssert (.iface 104 v) xT 144 true).run Tryd.prog w = .ok (.tuple #[.iface 104 v, .bool true]) w := run_typeAssert_hasB Tryd.underlying144 (by kernel_rfl) v xT w

/-- v is an error of code c, in n errors that tell where. -/
def Chain (w : World) : Nat → Value → Int → Prop
  | 0, v, c => v = .iface 52 (.int .i64 c)
  | n + 1, v, c => ∃ b s u, v = .iface 104 (.pointer (some ⟨b, 0, none⟩)) ∧ Blk w b 106 [.string s, u] ∧ Chain w n u c
theorem Chain.below {w w2 : World} (hb : Below w.heap.size w w2) : ∀ {n : Nat} {v : Value} {c : Int}, Chain w n v c → Chain w2 n v c := by
  intro n
  induction n with
  | zero => intro v c h; exact h
  | succ n ih =>
    intro v c h
    obtain ⟨b, s, u, rfl, h1, h2⟩ := h
    exact ⟨b, s, u, rfl, h1.below hb, ih h2⟩
theorem IsFault.chain {w : World} {v : Value} {c : Int} (h : IsFault w v c) : Chain w 1 v c := by
  obtain ⟨b, s, rfl, h⟩ := h
  exact ⟨b, s, _, rfl, h, rfl⟩
theorem Chain.ne_nil {w : World} {n : Nat} {v : Value} {c : Int} (h : Chain w n v c) : ∃ t u, v = .iface t u := by
  cases n with
  | zero => exact ⟨_, _, h⟩
  | succ n => obtain ⟨b, s, u, rfl, _⟩ := h; exact ⟨_, _, rfl⟩

set_option maxHeartbeats 400000 in
theorem unwrap_any (b : Nat) (s : ByteArray) (u : Value) (w : World) (h : Blk w b 106 [.string s, u]) :
    Calls Tryd.prog 137 #[.pointer (some ⟨b, 0, none⟩)] w fun e w' => e = .returned u ∧ w' = w := by
  have c1 : w.cell? ⟨b, 1, none⟩ = some u := h.cell 1
  clear h
  go_enter Tryd.func137, Tryd.ntmps137
  go_wp2
  go_ret
  exact ⟨rfl, rfl⟩
end Go.Proofs.YthlioinmeimhoaaDoor
