/- errors.As at a target **Fault: closed facts, errors.as, errors.As. -/
import Derived.Test.YtekmfdcmnmehoaaDoorFaN
namespace Go.Proofs.YtekmfdcmnmehoaaDoor
open Go.RowKit Go.Extern.Stop Go.Stop Go.Extern

theorem atValueOf (t : Addr) (w : World) : (ReflectliteValue.unpack (.iface 48 (.pointer (some t)))).run Tryd.prog w
    = .ok (.agg #[.pointer (some ⟨4, 48, none⟩), .pointer (some ⟨w.heap.size, 0, none⟩), .int .u64 150]) (w.alloc (.cells #[.pointer (some t)] 48)) := by kernel_rfl
theorem atValueOfE (e : Addr) (w : World) : (ReflectliteValue.unpack (.iface 34 (.pointer (some e)))).run Tryd.prog w
    = .ok (.agg #[.pointer (some ⟨4, 34, none⟩), .pointer (some ⟨w.heap.size, 0, none⟩), .int .u64 150]) (w.alloc (.cells #[.pointer (some e)] 34)) := by kernel_rfl
theorem atType (a : Addr) (w : World) : (ReflectliteValue.methodAny (ReflectliteValue.valueError "reflectlite.Value.Type" 0) (fun t _ _ _ => ReflectliteType.toType t) #[.agg #[.pointer (some ⟨4, 48, none⟩), .pointer (some a), .int .u64 150]]).run Tryd.prog w
    = .ok (.iface 64 (.agg #[.pointer (some ⟨4, 48, none⟩)])) w := by kernel_rfl
theorem atKindP (w : World) : ((ReflectliteType.abiMethod fun t => (fun a : Nat => Value.int IntKind.u8 (a : Int)) <$> Rtype.kind t) #[.pointer (some ⟨4, 48, none⟩)]).run Tryd.prog w = .ok (.int .u8 22) w := by kernel_rfl
theorem atKindE (w : World) : ((ReflectliteType.abiMethod fun t => (fun a : Nat => Value.int IntKind.u8 (a : Int)) <$> Rtype.kind t) #[.pointer (some ⟨4, 34, none⟩)]).run Tryd.prog w = .ok (.int .u8 22) w := by kernel_rfl
theorem atParts (a : Addr) (w : World) : (ReflectliteValue.parts (.agg #[.pointer (some ⟨4, 48, none⟩), .pointer (some a), .int .u64 150])).run Tryd.prog w = .ok (some (48, a, 150)) w := by kernel_rfl
theorem atIsNil (a p : Addr) (W : World) (ha : W.cell? a = some (.pointer (some p))) :
    (ReflectliteValue.method (ReflectliteValue.valueError "reflectlite.Value.IsNil" 0) ReflectliteValue.isNil #[.agg #[.pointer (some ⟨4, 48, none⟩), .pointer (some a), .int .u64 150]]).run Tryd.prog W = .ok (.bool false) W := by
  rw [asRlm]
  simp only [Sem.run_bind, atParts, Result.andThen]
  simp [ReflectliteValue.isNil, loadVar, isAgg, underlying, Tryd.underlying48, ha, Result.andThen]
theorem atElemT (w : World) : (ReflectliteType.method ReflectliteType.elem #[.agg #[.pointer (some ⟨4, 48, none⟩)]]).run Tryd.prog w = .ok (.iface 64 (.agg #[.pointer (some ⟨4, 34, none⟩)])) w := by kernel_rfl
theorem atImplements (w : World) : (ReflectliteType.relation "Implements" ReflectliteType.implements_ #[.agg #[.pointer (some ⟨4, 34, none⟩)], .iface 64 (.agg #[.pointer (some ⟨4, 25, none⟩)])]).run Tryd.prog w = .ok (.bool true) w := by kernel_rfl
theorem atAssignE (w : World) : (ReflectliteType.relation "AssignableTo" ReflectliteType.assignableTo #[.agg #[.pointer (some ⟨4, 34, none⟩)], .iface 64 (.agg #[.pointer (some ⟨4, 34, none⟩)])]).run Tryd.prog w = .ok (.bool true) w := by kernel_rfl
theorem atAssignC (w : World) : (ReflectliteType.relation "AssignableTo" ReflectliteType.assignableTo #[.agg #[.pointer (some ⟨4, 27, none⟩)], .iface 64 (.agg #[.pointer (some ⟨4, 34, none⟩)])]).run Tryd.prog w = .ok (.bool false) w := by kernel_rfl
theorem atElemOf (w : World) : (Rtype.elem? 48).run Tryd.prog w = .ok (some 34) w := by kernel_rfl
theorem atMk (p : Addr) (w : World) : (ReflectliteValue.mk 34 p ReflectliteValue.flagAddr).run Tryd.prog w = .ok (.agg #[.pointer (some ⟨4, 34, none⟩), .pointer (some p), .int .u64 406]) w := by kernel_rfl
theorem atElemV (a p : Addr) (W : World) (ha : W.cell? a = some (.pointer (some p))) :
    (ReflectliteValue.method (ReflectliteValue.valueError "reflectlite.Value.Elem" 0) ReflectliteValue.elem #[.agg #[.pointer (some ⟨4, 48, none⟩), .pointer (some a), .int .u64 150]]).run Tryd.prog W
      = .ok (.agg #[.pointer (some ⟨4, 34, none⟩), .pointer (some p), .int .u64 406]) W := by
  rw [asRlm]
  simp only [Sem.run_bind, atParts, Result.andThen]
  simp [ReflectliteValue.elem, loadVar, isAgg, underlying, Tryd.underlying48, ha, Result.andThen, atElemOf, atMk]
theorem atPartsA (a : Addr) (w : World) : (ReflectliteValue.parts (.agg #[.pointer (some ⟨4, 34, none⟩), .pointer (some a), .int .u64 406])).run Tryd.prog w = .ok (some (34, a, 406)) w := by kernel_rfl
theorem atPartsE (a : Addr) (w : World) : (ReflectliteValue.parts (.agg #[.pointer (some ⟨4, 34, none⟩), .pointer (some a), .int .u64 150])).run Tryd.prog w = .ok (some (34, a, 150)) w := by kernel_rfl
theorem atDirect (w : World) : (Rtype.directlyAssignable 34 34).run Tryd.prog w = .ok true w := by kernel_rfl
theorem atSet (ta b e : Addr) (old : Value) (W : World) (hb : W.cell? b = some (.pointer (some e))) (ht : W.cell? ta = some old) (hf : W.frozen? ta = false) :
    (ReflectliteValue.set #[.agg #[.pointer (some ⟨4, 34, none⟩), .pointer (some ta), .int .u64 406], .agg #[.pointer (some ⟨4, 34, none⟩), .pointer (some b), .int .u64 150]]).run Tryd.prog W
      = .ok (.tuple #[]) (W.setCell ta (.pointer (some e))) := by
  rw [asRls]
  simp only [Sem.run_bind, atPartsA, atPartsE, Result.andThen]
  simp [ReflectliteValue.flagAddr, loadVar, isAgg, underlying, Tryd.underlying34, hb, Result.andThen, atDirect, storeVar, Value.cells, storeCells, Addr.add]
  rw [run_store Tryd.prog W ta _ _ (by rfl)]
  simp [ht, hf]
theorem atNoAsC (v : Value) (xT : TypeId) (w : World) : (Instr.typeAssert (.iface 27 v) xT 68 true).run Tryd.prog w = .ok (.tuple #[.nilIface, .bool false]) w := run_typeAssert_lacksB Tryd.underlying68 (by kernel_rfl) (by kernel_rfl) v xT w

set_option maxHeartbeats 1000000 in
theorem at_hit (b t a : Nat) (old : Value) (w : World) (ht : Blk w t 34 [old]) (ha : w.cell? ⟨a, 0, none⟩ = some (.pointer (some ⟨t, 0, none⟩))) :
    Calls Tryd.prog 24 #[.iface 34 (.pointer (some ⟨b, 0, none⟩)), .iface 48 (.pointer (some ⟨t, 0, none⟩)), .agg #[.pointer (some ⟨4, 48, none⟩), .pointer (some ⟨a, 0, none⟩), .int .u64 150], .iface 64 (.agg #[.pointer (some ⟨4, 34, none⟩)])] w fun e w' =>
      e = .returned (.bool true) ∧ Blk w' t 34 [.pointer (some ⟨b, 0, none⟩)] ∧ Only (· = t) w w' := by
  obtain ⟨W, hW⟩ : ∃ W, W = w.alloc (.cells #[.pointer (some ⟨4, 48, none⟩), .pointer (some ⟨a, 0, none⟩), .int .u64 150] 52) := ⟨_, rfl⟩
  have hbW : Below w.heap.size w W := by rw [hW]; exact (Below.refl _ _).alloc (Nat.le_refl _) _
  have hx : Blk W w.heap.size 52 [.pointer (some ⟨4, 48, none⟩), .pointer (some ⟨a, 0, none⟩), .int .u64 150] := by rw [hW]; exact heap_alloc_new w _
  have rTO := asRunTypeOf
  have rAT := asRunAssign
  have mA := asMethodAssignableTo
  have rEV := asRunElemV
  have rVO := asRunValueOf
  have rST := asRunSet
  have fT := asTypeOfF
  have fA := atAssignE
  have fV := atValueOfE
  have c0 := hx.cell 0
  have c1 := hx.cell 1
  have c2 := hx.cell 2
  have fE := atElemV ⟨a, 0, none⟩ ⟨t, 0, none⟩ W (bcell hbW ha)
  have hsz := hbW.size
  have htl := ht.lt
  have hT2 : Blk (W.alloc (.cells #[.pointer (some ⟨b, 0, none⟩)] 34)) t 34 [old] := (ht.below hbW).alloc _
  have fS := atSet ⟨t, 0, none⟩ ⟨W.heap.size, 0, none⟩ ⟨b, 0, none⟩ old (W.alloc (.cells #[.pointer (some ⟨b, 0, none⟩)] 34)) (by simp) (hT2.cell 0) (hT2.frozen 0)
  have HB := Lib.hid (And.intro hbW hT2)
  have HW := Lib.hid hW
  clear hbW hx hT2 ht ha hW
  go_enter Tryd.func24, Tryd.ntmps24
  go_wp2
  rw [← HW.out]
  refine wp_loop_rounds 1 ?_
  rw [rounds_succ]
  go_wp2
  go_ret
  exact ⟨rfl, HB.out.2.set 0 _, ((Only.ofBelow HB.out.1 _).trans' (Only.alloc _ _ _) (fun i hi h => h)).trans (Only.set1 _ t 0 _)⟩
end Go.Proofs.YtekmfdcmnmehoaaDoor
