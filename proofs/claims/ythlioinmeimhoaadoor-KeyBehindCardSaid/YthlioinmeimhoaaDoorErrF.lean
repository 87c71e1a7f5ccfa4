/- Closed facts for errors.Is and errors.As at codes. -/
import Derived.Test.YthlioinmeimhoaaDoorBase
import Derived.LaidEql
import Derived.Stop.Asserts
import Derived.RowKitTokens
namespace Go.Proofs.YthlioinmeimhoaaDoor
open Go.RowKit Go.Extern.Stop Go.Stop Go.Extern

section
variable {P : Program} (w : World)
theorem run_equalIn_iface_int (d : Nat) {ti tn : TypeId} {ms : Array (String × TypeId)} {i : TypeInfo} {k : IntKind} (a b : Int)
    (hi : P.underlying ti = some (.interface ms)) (hn : P.underlying tn = some (.int k)) (hinfo : P.info? tn = some i) (hcomp : i.comparable = true) :
    (Op.equalIn (d + 2) ti (.iface tn (.int k a)) (.iface tn (.int k b))).run P w = .ok (a == b) w := by
  simp [Op.equalIn, run_underlying hi, run_underlying hn, typeInfo, hinfo, hcomp]
theorem run_eql_iface_int {ti tn : TypeId} {ms : Array (String × TypeId)} {i : TypeInfo} {k : IntKind} (a b : Int)
    (hi : P.underlying ti = some (.interface ms)) (hn : P.underlying tn = some (.int k)) (hinfo : P.info? tn = some i) (hcomp : i.comparable = true) :
    (binOp .eql ti (.iface tn (.int k a)) (.iface tn (.int k b))).run P w = .ok (.bool (a == b)) w := by
  simp only [binOp]
  simp [Op.equal, Op.maxDepth, run_equalIn_iface_int w 9998 a b hi hn hinfo hcomp]
end

def cmpEntry : Array Value → Sem Value := Extern.ReflectliteType.method fun t => do Extern.Rtype.noPackHeld "Comparable" t; pure (.bool (← typeInfo t).comparable)
theorem isTypeOf (v : Value) (w : World) : (ReflectliteType.typeOf #[.iface 52 v]).run Tryd.prog w = .ok (.iface 137 (.agg #[.pointer (some ⟨6, 52, none⟩)])) w := by kernel_rfl
theorem isComparable (w : World) : (cmpEntry #[.agg #[.pointer (some ⟨6, 52, none⟩)]]).run Tryd.prog w = .ok (.bool true) w := by kernel_rfl
theorem run49 (args : Array Value) (w : World) : (callFunc 96 args).run Tryd.prog w = ((Extern.ReflectliteType.typeOf args).run Tryd.prog w).andThen fun v w2 => .ok (.value v) w2 := @run_callFunc_extern Tryd.prog 96 _ Extern.ReflectliteType.typeOf Tryd.func96 (by kernel_rfl) (by kernel_rfl) (by kernel_rfl) (by kernel_rfl) args w
theorem run74 (args : Array Value) (w : World) : (callFunc 143 args).run Tryd.prog w = ((cmpEntry args).run Tryd.prog w).andThen fun v w2 => .ok (.value v) w2 := @run_callFunc_extern Tryd.prog 143 _ cmpEntry Tryd.func143 (by kernel_rfl) (by kernel_rfl) (by kernel_rfl) (by kernel_rfl) args w
theorem errnoComp : (Tryd.prog.info? 52).map (·.comparable) = some true := by kernel_rfl

theorem isMethodComparable (v : Value) (w : World) : (Go.method 285 137 v "Comparable").run Tryd.prog w = .ok (143, v) w := by kernel_rfl
theorem noIsE (v : Value) (xT : TypeId) (w : World) : (Instr.typeAssert (.iface 52 v) xT 151 true).run Tryd.prog w = .ok (.tuple #[.nilIface, .bool false]) w := run_typeAssert_lacksB Tryd.underlying151 (by kernel_rfl) (by kernel_rfl) v xT w
theorem noUnwrapE (v : Value) (xT : TypeId) (w : World) : (Instr.typeAssert (.iface 52 v) xT 144 true).run Tryd.prog w = .ok (.tuple #[.nilIface, .bool false]) w := run_typeAssert_lacksB Tryd.underlying144 (by kernel_rfl) (by kernel_rfl) v xT w
theorem noUnwrapsE (v : Value) (xT : TypeId) (w : World) : (Instr.typeAssert (.iface 52 v) xT 146 true).run Tryd.prog w = .ok (.tuple #[.nilIface, .bool false]) w := run_typeAssert_lacksB Tryd.underlying146 (by kernel_rfl) (by kernel_rfl) v xT w
end Go.Proofs.YthlioinmeimhoaaDoor
