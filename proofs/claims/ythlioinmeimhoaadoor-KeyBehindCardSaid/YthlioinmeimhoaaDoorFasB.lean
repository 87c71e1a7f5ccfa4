/- errors.as, errors.As at *api.Errno; fault.Code: an error's code, however often it is wrapped. -/
import Derived.Test.YthlioinmeimhoaaDoorFas
namespace Go.Proofs.YthlioinmeimhoaaDoor
open Go.RowKit Go.Extern.Stop Go.Stop Go.Extern

theorem asRunValueOf (args : Array Value) (w : World) : (callFunc 83 args).run Tryd.prog w = (((fun args => ReflectliteValue.unpack (args.getD 0 (.tuple #[]))) args).run Tryd.prog w).andThen fun v w2 => .ok (.value v) w2 := @run_callFunc_extern Tryd.prog 83 _ (fun args => ReflectliteValue.unpack (args.getD 0 (.tuple #[]))) Tryd.func83 (by kernel_rfl) (by kernel_rfl) (by kernel_rfl) (by kernel_rfl) args w
theorem asRunType (args : Array Value) (w : World) : (callFunc 84 args).run Tryd.prog w = (((ReflectliteValue.methodAny (ReflectliteValue.valueError "reflectlite.Value.Type" 0) (fun t _ _ _ => ReflectliteType.toType t)) args).run Tryd.prog w).andThen fun v w2 => .ok (.value v) w2 := @run_callFunc_extern Tryd.prog 84 _ (ReflectliteValue.methodAny (ReflectliteValue.valueError "reflectlite.Value.Type" 0) (fun t _ _ _ => ReflectliteType.toType t)) Tryd.func84 (by kernel_rfl) (by kernel_rfl) (by kernel_rfl) (by kernel_rfl) args w
theorem asRunIsNil (args : Array Value) (w : World) : (callFunc 85 args).run Tryd.prog w = (((ReflectliteValue.method (ReflectliteValue.valueError "reflectlite.Value.IsNil" 0) ReflectliteValue.isNil) args).run Tryd.prog w).andThen fun v w2 => .ok (.value v) w2 := @run_callFunc_extern Tryd.prog 85 _ (ReflectliteValue.method (ReflectliteValue.valueError "reflectlite.Value.IsNil" 0) ReflectliteValue.isNil) Tryd.func85 (by kernel_rfl) (by kernel_rfl) (by kernel_rfl) (by kernel_rfl) args w
theorem asRunKind (args : Array Value) (w : World) : (callFunc 131 args).run Tryd.prog w = (((ReflectliteType.abiMethod fun t => do pure (.int .u8 (← Rtype.kind t))) args).run Tryd.prog w).andThen fun v w2 => .ok (.value v) w2 := @run_callFunc_extern Tryd.prog 131 _ (ReflectliteType.abiMethod fun t => do pure (.int .u8 (← Rtype.kind t))) Tryd.func131 (by kernel_rfl) (by kernel_rfl) (by kernel_rfl) (by kernel_rfl) args w
theorem asRunElemT (args : Array Value) (w : World) : (callFunc 144 args).run Tryd.prog w = (((ReflectliteType.method ReflectliteType.elem) args).run Tryd.prog w).andThen fun v w2 => .ok (.value v) w2 := @run_callFunc_extern Tryd.prog 144 _ (ReflectliteType.method ReflectliteType.elem) Tryd.func144 (by kernel_rfl) (by kernel_rfl) (by kernel_rfl) (by kernel_rfl) args w
theorem asRunImpl (args : Array Value) (w : World) : (callFunc 145 args).run Tryd.prog w = (((ReflectliteType.relation "Implements" ReflectliteType.implements_) args).run Tryd.prog w).andThen fun v w2 => .ok (.value v) w2 := @run_callFunc_extern Tryd.prog 145 _ (ReflectliteType.relation "Implements" ReflectliteType.implements_) Tryd.func145 (by kernel_rfl) (by kernel_rfl) (by kernel_rfl) (by kernel_rfl) args w
theorem asRunTypeOf (args : Array Value) (w : World) : (callFunc 96 args).run Tryd.prog w = (((ReflectliteType.typeOf) args).run Tryd.prog w).andThen fun v w2 => .ok (.value v) w2 := @run_callFunc_extern Tryd.prog 96 _ ReflectliteType.typeOf Tryd.func96 (by kernel_rfl) (by kernel_rfl) (by kernel_rfl) (by kernel_rfl) args w
theorem asRunAssign (args : Array Value) (w : World) : (callFunc 142 args).run Tryd.prog w = (((ReflectliteType.relation "AssignableTo" ReflectliteType.assignableTo) args).run Tryd.prog w).andThen fun v w2 => .ok (.value v) w2 := @run_callFunc_extern Tryd.prog 142 _ (ReflectliteType.relation "AssignableTo" ReflectliteType.assignableTo) Tryd.func142 (by kernel_rfl) (by kernel_rfl) (by kernel_rfl) (by kernel_rfl) args w
theorem asRunElemV (args : Array Value) (w : World) : (callFunc 101 args).run Tryd.prog w = (((ReflectliteValue.method (ReflectliteValue.valueError "reflectlite.Value.Elem" 0) ReflectliteValue.elem) args).run Tryd.prog w).andThen fun v w2 => .ok (.value v) w2 := @run_callFunc_extern Tryd.prog 101 _ (ReflectliteValue.method (ReflectliteValue.valueError "reflectlite.Value.Elem" 0) ReflectliteValue.elem) Tryd.func101 (by kernel_rfl) (by kernel_rfl) (by kernel_rfl) (by kernel_rfl) args w
theorem asRunSet (args : Array Value) (w : World) : (callFunc 102 args).run Tryd.prog w = (((ReflectliteValue.set) args).run Tryd.prog w).andThen fun v w2 => .ok (.value v) w2 := @run_callFunc_extern Tryd.prog 102 _ ReflectliteValue.set Tryd.func102 (by kernel_rfl) (by kernel_rfl) (by kernel_rfl) (by kernel_rfl) args w

set_option maxHeartbeats 1000000 in
theorem as_chain (n : Nat) (v : Value) (c x : Int) (t a : Nat) (w : World) (hv : Chain w n v c) (ht : Blk w t 52 [.int .i64 x]) (ha : w.cell? ⟨a, 0, none⟩ = some (.pointer (some ⟨t, 0, none⟩))) :
    Calls Tryd.prog 86 #[v, .iface 87 (.pointer (some ⟨t, 0, none⟩)), .agg #[.pointer (some ⟨6, 87, none⟩), .pointer (some ⟨a, 0, none⟩), .int .u64 150], .iface 137 (.agg #[.pointer (some ⟨6, 52, none⟩)])] w fun e w' =>
      e = .returned (.bool true) ∧ Blk w' t 52 [.int .i64 c] ∧ Only (· = t) w w' := by
  have HC := Lib.hid hv
  have HT := Lib.hid ht
  have HA := Lib.hid ha
  clear hv ht ha
  go_enter Tryd.func86, Tryd.ntmps86
  go_wp2
  go_loopg [0] n (fun m u wr => Chain wr m u c ∧ Below w.heap.size w wr ∧ Blk wr w.heap.size 113 [.pointer (some ⟨6, 87, none⟩), .pointer (some ⟨a, 0, none⟩), .int .u64 150])
  case atStart => exact ⟨HC.out.below ((Below.refl _ _).alloc (Nat.le_refl _) _), (Below.refl _ _).alloc (Nat.le_refl _) _, heap_alloc_new w _⟩
  case round =>
    obtain ⟨hc, hb, hx⟩ := hrel
    have rTO := asRunTypeOf
    have rAT := asRunAssign
    have mA := asMethodAssignableTo
    cases gk with
    | zero =>
      obtain rfl := hc
      have rEV := asRunElemV
      have rVO := asRunValueOf
      have rST := asRunSet
      have fT := asTypeOfC
      have fA := asAssignC
      have fV := asValueOfC
      have c0 := hx.cell 0
      have c1 := hx.cell 1
      have c2 := hx.cell 2
      have fE := asElemV ⟨a, 0, none⟩ ⟨t, 0, none⟩ wr (bcell hb HA.out)
      have hsz := hb.size
      have htl := HT.out.lt
      have hT2 : Blk (wr.alloc (.cells #[.int .i64 c] 52)) t 52 [.int .i64 x] := (HT.out.below hb).alloc _
      have fS := asSet ⟨t, 0, none⟩ ⟨wr.heap.size, 0, none⟩ c (.int .i64 x) (wr.alloc (.cells #[.int .i64 c] 52)) (by simp) (hT2.cell 0) (hT2.frozen 0)
      have HB := Lib.hid (And.intro hb hT2)
      clear hb hx hT2
      go_wp2
      go_ret
      refine ⟨rfl, HB.out.2.set 0 _, ?_⟩
      exact ((Only.ofBelow HB.out.1 _).trans' (Only.alloc _ _ _) (fun i hi h => h)).trans (Only.set1 _ t 0 _)
    | succ m =>
      obtain ⟨b, s, u, rfl, hB, hc2⟩ := hc
      have fT := asTypeOfF
      have fA := asAssignF
      have fN := asNoAsF
      have fU := asUnwrapF
      have mU := asMethodUnwrap
      obtain ⟨ty, uu, rfl⟩ := hc2.ne_nil
      have H := Lib.hid (And.intro hB (And.intro hc2 (And.intro hb hx)))
      clear hB hc2 hb hx
      go_wp2_with fail
      refine (unwrap_any b s _ wr H.out.1).mono ?_
      rintro e w2 ⟨rfl, rfl⟩
      go_wp2
      go_roundg m
      case measure => omega
      case rel => exact H.out.2

/-- What lays errors.errorType. -/
def ErrT (w : World) : Prop := w.cell? ⟨2, 0, none⟩ = some (.iface 137 (.agg #[.pointer (some ⟨6, 47, none⟩)]))
theorem ErrT.below {w w2 : World} (h : ErrT w) (hb : Below w.heap.size w w2) : ErrT w2 := bcell hb h
theorem ErrT.only {S : Nat → Prop} {w w2 : World} (h : ErrT w) (ho : Only S w w2) (hs : ¬ S 2) : ErrT w2 := ho.cell hs h

set_option maxHeartbeats 1000000 in
theorem As_chain (n : Nat) (v : Value) (c x : Int) (t : Nat) (w : World) (hv : Chain w n v c) (ht : Blk w t 52 [.int .i64 x]) (hg : ErrT w) :
    Calls Tryd.prog 55 #[v, .iface 87 (.pointer (some ⟨t, 0, none⟩))] w fun e w' =>
      e = .returned (.bool true) ∧ Blk w' t 52 [.int .i64 c] ∧ Only (· = t) w w' := by
  have rVO := asRunValueOf
  have rTy := asRunType
  have rIN := asRunIsNil
  have rK := asRunKind
  have rE := asRunElemT
  have rI := asRunImpl
  have fV := asValueOf
  have fT := asType
  have fKP := asKindP
  have fKE := asKindE
  have fE := asElemT
  have fI := asImplements
  have mK := asMethodKind
  have mE := asMethodElem
  have mI := asMethodImplements
  obtain ⟨ty, uu, rfl⟩ := hv.ne_nil
  have hgl := World.block_lt_of_cell? w _ hg
  obtain ⟨W, hW⟩ : ∃ W, W = ((w.alloc (.cells #[.pointer (some ⟨t, 0, none⟩)] 87)).alloc (.cells #[.pointer (some ⟨6, 87, none⟩), .pointer (some ⟨w.heap.size, 0, none⟩), .int .u64 150] 113)) := ⟨_, rfl⟩
  have hbW : Below w.heap.size w W := by rw [hW]; exact ((Below.refl _ _).alloc (Nat.le_refl _) _).alloc (by simp) _
  have hcW : W.cell? ⟨w.heap.size, 0, none⟩ = some (.pointer (some ⟨t, 0, none⟩)) := by
    rw [hW, World.cell?_alloc_lt _ _ ⟨w.heap.size, 0, none⟩ (by simp)]; simp
  have hg2 := bcell hbW hg
  have n8 := asIsNil ⟨w.heap.size, 0, none⟩ ⟨t, 0, none⟩ W hcW
  have HV := Lib.hid (And.intro hv (And.intro ht (And.intro hbW hcW)))
  rw [hW] at hg2 n8
  have HW := Lib.hid hW
  clear hv ht hbW hcW hW
  go_enter Tryd.func55, Tryd.ntmps55
  go_wp2_with fail
  rw [← HW.out]
  refine (as_chain n _ c x t w.heap.size W (HV.out.1.below HV.out.2.2.1) (HV.out.2.1.below HV.out.2.2.1) HV.out.2.2.2).mono ?_
  rintro e w2 ⟨rfl, hB, hO⟩
  have H := Lib.hid (And.intro hB ((Only.ofBelow HV.out.2.2.1 _).trans' hO (fun _ _ h => h)))
  clear hB hO
  go_wp2
  go_ret
  exact ⟨rfl, H.out⟩

set_option maxHeartbeats 1000000 in
theorem code_chain (n : Nat) (v : Value) (c : Int) (w : World) (hv : Chain w n v c) (hg : ErrT w) :
    Calls Tryd.prog 31 #[v] w fun e w' => e = .returned (.int .i64 c) ∧ Below w.heap.size w w' := by
  obtain ⟨ty, uu, rfl⟩ := hv.ne_nil
  obtain ⟨W, hW⟩ : ∃ W, W = w.alloc (.cells #[.int .i64 0] 52) := ⟨_, rfl⟩
  have hbW : Below w.heap.size w W := by rw [hW]; exact (Below.refl _ _).alloc (Nat.le_refl _) _
  have hB : Blk W w.heap.size 52 [.int .i64 0] := by rw [hW]; exact heap_alloc_new w _
  have HV := Lib.hid (And.intro (hv.below hbW) (And.intro hB (And.intro (hg.below hbW) hbW)))
  have HW := Lib.hid hW
  clear hv hg hbW hB hW
  go_enter Tryd.func31, Tryd.ntmps31
  go_wp2_with fail
  rw [← HW.out]
  refine (As_chain n _ c 0 w.heap.size W HV.out.1 HV.out.2.1 HV.out.2.2.1).mono ?_
  rintro e w2 ⟨rfl, hB, hO⟩
  have c0 := hB.cell 0
  have H := Lib.hid (HV.out.2.2.2.trans (hO.below HV.out.2.2.2.size (fun k hk h => by omega)))
  clear hB hO
  go_wp2
  go_ret
  exact ⟨rfl, H.out⟩

set_option maxHeartbeats 400000 in
theorem code_nil (w : World) : Calls Tryd.prog 31 #[.nilIface] w fun e w' => e = .returned (.int .i64 0) ∧ w' = w := by
  go_enter Tryd.func31, Tryd.ntmps31
  go_wp2
  go_ret
  exact ⟨rfl, rfl⟩
end Go.Proofs.YthlioinmeimhoaaDoor
