/- Merged: Base, Row, ErrF, Err, Fas, FasB. -/
import Derived.Test.YtccnfnoonpfdfaaGreatDoorProg
import Derived.WalkKit
import Derived.WalkSpells
import Derived.WalkLawsBesides
import Derived.BigQuiet
import Derived.Lib.Hide
import Derived.Deep.LoopGhost
import Derived.Deep.DeepCutAuto
import Derived.Deep.RegionHeld3
import Derived.Deep.QuietTactic
import Derived.Laws.CopyRow
import Derived.Maps.AppendAt
import Derived.Deep.AppendLies
import Derived.Deep.RegionLaw
import Derived.LaidEql
import Derived.Stop.Asserts
import Derived.RowKitTokens
import Derived.OwnWalk
/- Words used by all walks of this seat: 'Only S w w2' (from w to w2 only blocks of S, and new ones, have changed), slices of grants. -/
namespace Go.Proofs.YtccnfnoonpfdfaaGreatDoor
open Go.RowKit

theorem ret_int {k : IntKind} {a b : Int} (h : a = b) : Ending.returned (.int k a) = .returned (.int k b) := by rw [h]
theorem ret_bool {a b : Bool} (h : a = b) : Ending.returned (.bool a) = .returned (.bool b) := by rw [h]

/-- From w to w2 nothing but blocks of S, and new ones, has changed. -/
structure Only (S : Nat → Prop) (w w2 : World) : Prop where
  os : w2.os = w.os
  tape : w2.tape = w.tape
  output : w2.output = w.output
  size : w.heap.size ≤ w2.heap.size
  block : ∀ k, k < w.heap.size → ¬ S k → w2.heap[k]? = w.heap[k]?

def NoneS : Nat → Prop := fun _ => False
theorem Only.refl (S : Nat → Prop) (w : World) : Only S w w := ⟨rfl, rfl, rfl, Nat.le_refl _, fun _ _ _ => rfl⟩
theorem Only.trans {S : Nat → Prop} {a b c : World} (h : Only S a b) (k : Only S b c) : Only S a c :=
  ⟨k.os.trans h.os, k.tape.trans h.tape, k.output.trans h.output, Nat.le_trans h.size k.size, fun i hi hs => (k.block i (Nat.lt_of_lt_of_le hi h.size) hs).trans (h.block i hi hs)⟩
/-- The second step may also change what is new since the first began. -/
theorem Only.trans' {S T : Nat → Prop} {a b c : World} (h : Only S a b) (k : Only T b c) (hT : ∀ i, i < a.heap.size → T i → S i) : Only S a c :=
  ⟨k.os.trans h.os, k.tape.trans h.tape, k.output.trans h.output, Nat.le_trans h.size k.size, fun i hi hs => (k.block i (Nat.lt_of_lt_of_le hi h.size) (fun t => hs (hT i hi t))).trans (h.block i hi hs)⟩
theorem Only.mono {S T : Nat → Prop} {a b : World} (h : Only S a b) (hT : ∀ i, i < a.heap.size → S i → T i) : Only T a b :=
  ⟨h.os, h.tape, h.output, h.size, fun i hi ht => h.block i hi (fun s => ht (hT i hi s))⟩
theorem Only.below {S : Nat → Prop} {w w2 : World} {B : Nat} (h : Only S w w2) (hB : B ≤ w.heap.size) (hS : ∀ k, k < B → ¬ S k) : Below B w w2 :=
  ⟨h.os, h.tape, h.output, h.size, fun k hk => h.block k (by omega) (hS k hk)⟩
theorem Only.ofBelow {w w2 : World} (h : Below w.heap.size w w2) (S : Nat → Prop) : Only S w w2 :=
  ⟨h.os, h.tape, h.output, h.size, fun k hk _ => h.block k hk⟩
theorem Only.alloc (S : Nat → Prop) (w : World) (o : Obj) : Only S w (w.alloc o) := Only.ofBelow ((Below.refl _ _).alloc (Nat.le_refl _) o) S
theorem Only.setCell {S : Nat → Prop} (w : World) {p : Addr} (hp : S p.block) (u : Value) : Only S w (w.setCell p u) :=
  ⟨rfl, rfl, rfl, by simp [World.setCell], fun _ _ hk => Below.heap_setCell _ _ _ _ (fun e => hk (e ▸ hp))⟩
theorem Only.set1 (w : World) (b o : Nat) (u : Value) : Only (fun x => x = b) w (w.setCell ⟨b, o, none⟩ u) := Only.setCell (S := fun x => x = b) (p := ⟨b, o, none⟩) w rfl u
theorem Only.drew (S : Nat → Prop) (w : World) : Only S w w.drew := ⟨rfl, rfl, rfl, Nat.le_refl _, fun _ _ _ => rfl⟩
theorem Only.drewN (S : Nat → Prop) (w : World) (n : Nat) : Only S w (w.drewN n) := ⟨rfl, rfl, rfl, Nat.le_refl _, fun _ _ _ => rfl⟩
theorem Only.ofGrown {S : Nat → Prop} {w w2 : World} {row : Option Nat} (h : w.grownBy w2 row) (hr : ∀ k, row = some k → S k) : Only S w w2 :=
  ⟨h.os, h.tape, h.output, h.size, fun k hk hs => h.block k hk (fun e => hs (hr k e.symm))⟩
theorem Only.cell {S : Nat → Prop} {w w2 : World} (h : Only S w w2) {p : Addr} {v : Value} (hp : ¬ S p.block) (hc : w.cell? p = some v) : w2.cell? p = some v := by
  rw [World.cell?_of_block (h.block p.block (World.block_lt_of_cell? w p hc) hp)]; exact hc
theorem bcell {w w2 : World} (h : Below w.heap.size w w2) {p : Addr} {v : Value} (hc : w.cell? p = some v) : w2.cell? p = some v := by
  rw [World.cell?_of_block (h.block p.block (World.block_lt_of_cell? w p hc))]; exact hc

/-- The cells of grants, one behind the other. -/
def gcells (l : List (Int × Int)) : List Value := l.flatMap fun g => [.int .i64 g.1, .int .i64 g.2]
@[simp] theorem gcells_length (l : List (Int × Int)) : (gcells l).length = 2 * l.length := by
  induction l with
  | nil => rfl
  | cons g l ih => simp [gcells] at ih ⊢; omega
theorem gcells_append (l m : List (Int × Int)) : gcells (l ++ m) = gcells l ++ gcells m := by simp [gcells]
theorem gcells_at (l : List (Int × Int)) : ∀ i (h : i < l.length), (gcells l)[i * 2]? = some (.int .i64 l[i].1) ∧ (gcells l)[i * 2 + 1]? = some (.int .i64 l[i].2) := by
  induction l with
  | nil => intro i h; simp at h
  | cons g l ih =>
    intro i h
    cases i with
    | zero => exact ⟨rfl, rfl⟩
    | succ i =>
      have := ih i (by simpa using h)
      rw [show (i + 1) * 2 = i * 2 + 2 by omega]
      exact this

/-- v is a slice that reads as the grants l (nothing is said of its spare cells). -/
def GRead (w : World) (v : Value) (l : List (Int × Int)) : Prop :=
  l.length ≤ 9223372036854775807 ∧ ∃ a cap, v = .slice a l.length cap ∧ (0 < l.length → ∃ b off, a = some ⟨b, off, none⟩ ∧ ∀ i (h : i < l.length), w.cell? ⟨b, off + i * 2, none⟩ = some (.int .i64 l[i].1) ∧ w.cell? ⟨b, off + i * 2 + 1, none⟩ = some (.int .i64 l[i].2))
theorem GRead.below {w w2 : World} {v : Value} {l : List (Int × Int)} (h : GRead w v l) (hb : Below w.heap.size w w2) : GRead w2 v l := by
  obtain ⟨hm, a, cap, rfl, h⟩ := h
  refine ⟨hm, a, cap, rfl, fun hl => ?_⟩
  obtain ⟨b, off, rfl, hc⟩ := h hl
  exact ⟨b, off, rfl, fun i hi => ⟨bcell hb (hc i hi).1, bcell hb (hc i hi).2⟩⟩
end Go.Proofs.YtccnfnoonpfdfaaGreatDoor

/- Rows of grants that are owned and written: the block as a list. -/
namespace Go.Proofs.YtccnfnoonpfdfaaGreatDoor
open Go.RowKit

/-- Block g is a row of type e that holds just the values xs. -/
def Blk (w : World) (g : Nat) (e : TypeId) (xs : List Value) : Prop := w.heap[g]? = some (.cells xs.toArray e (0, 0))

theorem Blk.lt {w : World} {g : Nat} {e : TypeId} {xs : List Value} (h : Blk w g e xs) : g < w.heap.size := (Array.getElem?_eq_some_iff.1 h).1
theorem Blk.cell {w : World} {g : Nat} {e : TypeId} {xs : List Value} (h : Blk w g e xs) (j : Nat) : w.cell? ⟨g, j, none⟩ = xs[j]? := by
  rw [cell_of_row w g j _ e (0, 0) h]; simp
theorem Blk.frozen {w : World} {g : Nat} {e : TypeId} {xs : List Value} (h : Blk w g e xs) (j : Nat) : w.frozen? ⟨g, j, none⟩ = false := frozen_of_row w g j _ e h
theorem Blk.only {S : Nat → Prop} {w w2 : World} {g : Nat} {e : TypeId} {xs : List Value} (h : Blk w g e xs) (ho : Only S w w2) (hs : ¬ S g) : Blk w2 g e xs := (ho.block g h.lt hs).trans h
theorem Blk.below {w w2 : World} {g : Nat} {e : TypeId} {xs : List Value} (h : Blk w g e xs) (hb : Below w.heap.size w w2) : Blk w2 g e xs := (hb.block g h.lt).trans h
theorem Blk.alloc {w : World} {g : Nat} {e : TypeId} {xs : List Value} (h : Blk w g e xs) (o : Obj) : Blk (w.alloc o) g e xs := (Below.heap_alloc _ _ _ h.lt).trans h
theorem Blk.set {w : World} {g : Nat} {e : TypeId} {xs : List Value} (h : Blk w g e xs) (j : Nat) (u : Value) : Blk (w.setCell ⟨g, j, none⟩ u) g e (xs.set j u) := by
  unfold Blk
  rw [heap_setCell_same w g j _ e u h]; simp
theorem Blk.inj {w : World} {g : Nat} {e e2 : TypeId} {xs ys : List Value} (h : Blk w g e xs) (h2 : Blk w g e2 ys) : e = e2 ∧ xs = ys := by
  unfold Blk at h h2
  rw [h] at h2
  injection h2 with h2
  injection h2 with a b
  exact ⟨b, by simpa using a⟩
theorem Blk.drew {w : World} {g : Nat} {e : TypeId} {xs : List Value} (h : Blk w g e xs) : Blk w.drew g e xs := h

theorem ownsRow_of_blk {w : World} {g : Nat} {e : TypeId} {size n cap : Nat} {xs rest : List Value} (h : Blk w g e (xs ++ rest)) (hx : xs.length = n * size) (hl : (xs ++ rest).length = cap * size) (hn : n ≤ cap) (hc : cap ≤ maxLen) :
    w.ownsRow 0 e size (.slice (some ⟨g, 0, none⟩) n cap) n xs :=
  ⟨hx, .inr ⟨g, cap, _, rfl, Nat.zero_le _, h, hn, hc, by simpa using hl, by rw [← hx]; simp⟩⟩
theorem blk_of_ownsRow {w : World} {b g : Nat} {e : TypeId} {size n cap : Nat} {xs : List Value} (h : w.ownsRow b e size (.slice (some ⟨g, 0, none⟩) n cap) n xs) :
    ∃ rest, Blk w g e (xs ++ rest) ∧ xs.length = n * size ∧ (xs ++ rest).length = cap * size ∧ n ≤ cap ∧ cap ≤ maxLen := by
  obtain ⟨hx, h⟩ := h
  rcases h with ⟨h, _⟩ | ⟨g2, cap2, cur, h, _, hg, hn, hc, hs, ht⟩
  · simp at h
  · simp only [Value.slice.injEq, Option.some.injEq, Addr.mk.injEq, and_true, true_and] at h
    obtain ⟨rfl, rfl⟩ := h
    refine ⟨cur.toList.drop (n * size), ?_, hx, ?_, hn, hc⟩
    · unfold Blk; rw [hg, ← ht]; simp
    · rw [← ht]; simpa using hs

/-- What a slice of an owned row looks like. -/
theorem ownsRow_cases {w : World} {b : Nat} {e : TypeId} {size n : Nat} {v : Value} {xs : List Value} (h : w.ownsRow b e size v n xs) :
    (v = .slice none 0 0 ∧ n = 0 ∧ xs = []) ∨ ∃ g cap, v = .slice (some ⟨g, 0, none⟩) n cap := by
  obtain ⟨hx, h⟩ := h
  rcases h with ⟨rfl, rfl⟩ | ⟨g, cap, cur, rfl, _⟩
  · exact .inl ⟨rfl, rfl, by simpa using hx⟩
  · exact .inr ⟨g, cap, rfl⟩

theorem ownsRow_slice {w : World} {b : Nat} {e : TypeId} {size n : Nat} {v : Value} {xs : List Value} (h : w.ownsRow b e size v n xs) : ∃ a m c, v = .slice a m c := by
  rcases ownsRow_cases h with ⟨rfl, _⟩ | ⟨g, cap, rfl⟩
  · exact ⟨_, _, _, rfl⟩
  · exact ⟨_, _, _, rfl⟩
theorem gread_of_ownsRow {w : World} {b : Nat} {e : TypeId} {v : Value} {l : List (Int × Int)} (h : w.ownsRow b e 2 v l.length (gcells l)) : GRead w v l := by
  rcases ownsRow_cases h with ⟨rfl, h0, hx⟩ | ⟨g, cap, rfl⟩
  · have : l = [] := by cases l <;> simp_all
    subst this
    exact ⟨by simp, none, 0, rfl, fun h => by simp at h⟩
  · obtain ⟨rest, hb, _, _, hn, hc⟩ := blk_of_ownsRow h
    refine ⟨by unfold maxLen at hc; omega, _, cap, rfl, fun _ => ⟨g, 0, rfl, fun i hi => ?_⟩⟩
    obtain ⟨h0, h1⟩ := gcells_at l i hi
    rw [hb.cell, hb.cell, Nat.zero_add, List.getElem?_append_left (by simp; omega), List.getElem?_append_left (by simp; omega)]
    exact ⟨h0, h1⟩

theorem gcells_set (m : List (Int × Int)) : ∀ (i : Nat) (g : Int × Int), i < m.length → ((gcells m).set (i * 2) (.int .i64 g.1)).set (i * 2 + 1) (.int .i64 g.2) = gcells (m.set i g) := by
  induction m with
  | nil => intro i g h; simp at h
  | cons x m ih =>
    intro i g h
    cases i with
    | zero => rfl
    | succ i =>
      have := ih i g (by simpa using h)
      rw [show (i + 1) * 2 = i * 2 + 2 by omega, show i * 2 + 2 + 1 = (i * 2 + 1) + 2 by omega]
      show _ :: _ :: ((gcells m).set (i * 2) _).set (i * 2 + 1) _ = _ :: _ :: gcells (m.set i g)
      rw [this]
theorem gcells_take (m : List (Int × Int)) : ∀ (i : Nat), (gcells m).take (i * 2) = gcells (m.take i) := by
  induction m with
  | nil => intro i; simp [gcells]
  | cons x m ih =>
    intro i
    cases i with
    | zero => rfl
    | succ i =>
      rw [show (i + 1) * 2 = i * 2 + 1 + 1 by omega]
      show _ :: _ :: (gcells m).take (i * 2) = _ :: _ :: gcells (m.take i)
      rw [ih i]

/-- An append whose run is known, at a step of a region that draws. -/
theorem step_append_run {P : Program} {ops : Array Oper} {o : Oper} {a : Act} {w : World} {K : Act → World → Prop} {Q : Exit → Act → World → Prop} {E : Prop}
    (hg : o.guard = none) (s x : Operand) (t : TypeId) (hop : o.op = Op.call { callee := Callee.builtin Builtin.append, args := #[s, x], argTypes := #[t, t] })
    (v u : Value) (hs : a.eval s = v) (hx : a.eval x = u) (v2 : Value) (w2 : World) (hrun : ∀ ty, (Builtin.append_ #[t, t] ty #[v, u]).run P w = .ok v2 w2)
    (hK : K (a.put o.dst v2) w2) : if Region.wanted o (yielded ops a.tmps) = true then Oper.wp P o a w K Q else E := by
  have hw : Region.wanted o (yielded ops a.tmps) = true := by simp [Region.wanted, hg]
  rw [if_pos hw]
  unfold Oper.wp
  simp [execOp, hop, resolve, invoke, builtin, hs, hx, hrun, Result.andThen]
  exact hK

/-- The built-in clear over the end of a row. -/
theorem run_clear_row {P : Program} {t e ty : TypeId} {z : Value} (ht : P.underlying t = some (.slice e)) (hz : ∀ w, (zeroValue e).run P w = .ok z w) (h1 : ∀ u ∈ z.cells, u.oneCell' = true) (hz0 : 0 < z.cells.size)
    {w : World} {g o n c : Nat} {et : TypeId} {xs : List Value} (hb : Blk w g et xs) (hn : o + n * z.cells.size ≤ xs.length) :
    ∃ w2 ys, (Builtin.clear_ #[t] ty #[.slice (some ⟨g, o, none⟩) n c]).run P w = .ok (.tuple #[]) w2 ∧ Blk w2 g et (xs.take o ++ ys) ∧ (xs.take o ++ ys).length = xs.length ∧ Only (· = g) w w2 := by
  rcases Nat.eq_zero_or_pos n with rfl | hn0
  · refine ⟨w, xs.drop o, ?_, by simpa using hb, by simp, Only.refl _ _⟩
    simp [Builtin.clear_, run_underlying ht]
  · have hl : (Builtin.zeroCells z.cells n).toList.length = n * z.cells.size := by simp [Builtin.zeroCells]
    have hall : ∀ v ∈ (Builtin.zeroCells z.cells n).toList, v.oneCell' = true := by
      intro v hv
      simp only [Builtin.zeroCells, Array.toList_map, List.mem_map] at hv
      obtain ⟨i, _, rfl⟩ := hv
      have : i % z.cells.size < z.cells.size := Nat.mod_lt _ hz0
      rw [getElem!_pos z.cells _ this]
      exact h1 _ (Array.getElem_mem this)
    have hst := run_storeCells_at (P := P) g o et (Builtin.zeroCells z.cells n).toList 0 xs.toArray w hb (by simp [hl]; omega) hall
    refine ⟨w.setRow g (xs.take o ++ (Builtin.zeroCells z.cells n).toList ++ xs.drop (o + n * z.cells.size)).toArray, (Builtin.zeroCells z.cells n).toList ++ xs.drop (o + n * z.cells.size), ?_, ?_, ?_, ?_⟩
    · obtain ⟨n', rfl⟩ : ∃ k, n = k + 1 := ⟨n - 1, by omega⟩
      simp [Builtin.clear_, run_underlying ht, hz]
      rw [hst, hl]; simp [Result.andThen]
    · unfold Blk
      rw [setRow_heap w g _ _ et (0, 0) hb]
      simp
    · simp [hl]; omega
    · refine ⟨rfl, rfl, rfl, by simp [World.setRow], fun k hk hne => ?_⟩
      simp only [World.setRow, Array.getElem?_modify]
      rw [if_neg (fun e => hne e.symm)]
end Go.Proofs.YtccnfnoonpfdfaaGreatDoor

/- Closed facts for errors.Is and errors.As at codes. -/
namespace Go.Proofs.YtccnfnoonpfdfaaGreatDoor
open Go.RowKit Go.Extern.Stop Go.Stop Go.Extern

section
variable {P : Program} (w : World)
theorem run_equalIn_iface_int (d : Nat) {ti tn : TypeId} {ms : Array (String × TypeId)} {i : TypeInfo} {k : IntKind} (a b : Int)
    (hi : P.underlying ti = some (.interface ms)) (hn : P.underlying tn = some (.int k)) (hinfo : P.info? tn = some i) (hcomp : i.comparable = true) :
    (Op.equalIn (d + 2) ti (.iface tn (.int k a)) (.iface tn (.int k b))).run P w = .ok (a == b) w := by
  simp [Op.equalIn, run_underlying hi, run_underlying hn, typeInfo, hinfo, hcomp]
theorem run_eql_iface_int {ti tn : TypeId} {ms : Array (String × TypeId)} {i : TypeInfo} {k : IntKind} (a b : Int)
    (hi : P.underlying ti = some (.interface ms)) (hn : P.underlying tn = some (.int k)) (hinfo : P.info? tn = some i) (hcomp : i.comparable = true) :
    (binOp .eql ti (.iface tn (.int k a)) (.iface tn (.int k b))).run P w = .ok (.bool (a == b)) w := by
  simp only [binOp]
  simp [Op.equal, Op.maxDepth, run_equalIn_iface_int w 9998 a b hi hn hinfo hcomp]
end

def cmpEntry : Array Value → Sem Value := Extern.ReflectliteType.method fun t => do Extern.Rtype.noPackHeld "Comparable" t; pure (.bool (← typeInfo t).comparable)
theorem isTypeOf (v : Value) (w : World) : (ReflectliteType.typeOf #[.iface 37 v]).run Tryz.prog w = .ok (.iface 146 (.agg #[.pointer (some ⟨11, 37, none⟩)])) w := by kernel_rfl
theorem isComparable (w : World) : (cmpEntry #[.agg #[.pointer (some ⟨11, 37, none⟩)]]).run Tryz.prog w = .ok (.bool true) w := by kernel_rfl
theorem run49 (args : Array Value) (w : World) : (callFunc 88 args).run Tryz.prog w = ((Extern.ReflectliteType.typeOf args).run Tryz.prog w).andThen fun v w2 => .ok (.value v) w2 := @run_callFunc_extern Tryz.prog 88 _ Extern.ReflectliteType.typeOf Tryz.func88 (by kernel_rfl) (by kernel_rfl) (by kernel_rfl) (by kernel_rfl) args w
theorem run74 (args : Array Value) (w : World) : (callFunc 179 args).run Tryz.prog w = ((cmpEntry args).run Tryz.prog w).andThen fun v w2 => .ok (.value v) w2 := @run_callFunc_extern Tryz.prog 179 _ cmpEntry Tryz.func179 (by kernel_rfl) (by kernel_rfl) (by kernel_rfl) (by kernel_rfl) args w
theorem errnoComp : (Tryz.prog.info? 37).map (·.comparable) = some true := by kernel_rfl

theorem isMethodComparable (v : Value) (w : World) : (Go.method 339 146 v "Comparable").run Tryz.prog w = .ok (179, v) w := by kernel_rfl
theorem noIsE (v : Value) (xT : TypeId) (w : World) : (Instr.typeAssert (.iface 37 v) xT 179 true).run Tryz.prog w = .ok (.tuple #[.nilIface, .bool false]) w := run_typeAssert_lacksB Tryz.underlying179 (by kernel_rfl) (by kernel_rfl) v xT w
theorem noUnwrapE (v : Value) (xT : TypeId) (w : World) : (Instr.typeAssert (.iface 37 v) xT 153 true).run Tryz.prog w = .ok (.tuple #[.nilIface, .bool false]) w := run_typeAssert_lacksB Tryz.underlying153 (by kernel_rfl) (by kernel_rfl) v xT w
theorem noUnwrapsE (v : Value) (xT : TypeId) (w : World) : (Instr.typeAssert (.iface 37 v) xT 155 true).run Tryz.prog w = .ok (.tuple #[.nilIface, .bool false]) w := run_typeAssert_lacksB Tryz.underlying155 (by kernel_rfl) (by kernel_rfl) v xT w
end Go.Proofs.YtccnfnoonpfdfaaGreatDoor

/- errors.Is between two codes, and fault.New. -/
namespace Go.Proofs.YtccnfnoonpfdfaaGreatDoor
open Go.RowKit Go.Extern.Stop Go.Stop Go.Extern

set_option maxHeartbeats 400000 in
theorem errIs1_any (a b : Int) (w : World) :
    Calls Tryz.prog 89 #[.iface 37 (.int .i64 a), .iface 37 (.int .i64 b), .bool true] w fun e w' => e = .returned (.bool (a == b)) ∧ w = w' := by
  obtain ⟨i, hi, hcmp⟩ := Option.map_eq_some_iff.1 errnoComp
  have nE := noIsE
  have uE := noUnwrapE
  have vE := noUnwrapsE
  have heq := run_eql_iface_int (P := Tryz.prog) w a b Tryz.underlying33 Tryz.underlying37 hi hcmp
  clear hi hcmp
  cases hab : a == b with
  | true =>
    rw [hab] at heq
    clear hab
    go_enter Tryz.func89, Tryz.ntmps89
    go_wp2
    refine wp_loop_rounds 1 ?_
    rw [rounds_succ]
    go_wp2
    go_ret
    exact ⟨rfl, rfl⟩
  | false =>
    rw [hab] at heq
    clear hab
    go_enter Tryz.func89, Tryz.ntmps89
    go_wp2
    refine wp_loop_rounds 1 ?_
    rw [rounds_succ]
    go_wp2
    go_ret
    exact ⟨rfl, rfl⟩

set_option maxHeartbeats 400000 in
theorem errIs_any (a b : Int) (w : World) :
    Calls Tryz.prog 54 #[.iface 37 (.int .i64 a), .iface 37 (.int .i64 b)] w fun e w' => e = .returned (.bool (a == b)) ∧ w = w' := by
  have h49 := run49
  have h74 := run74
  have tT := isTypeOf
  have cT := isComparable
  have mR := isMethodComparable
  go_enter Tryz.func54, Tryz.ntmps54
  go_wp2_with fail
  refine (errIs1_any a b _).mono ?_
  rintro e w2 ⟨rfl, rfl⟩
  go_wp2
  go_ret
  exact ⟨rfl, rfl⟩

set_option maxHeartbeats 400000 in
theorem faultNew_some (c : Int) (s : ByteArray) (w : World) (hc : (c == 0) = false) :
    Calls Tryz.prog 30 #[.int .i64 c, .string s] w fun e w' => e = .returned (.iface 93 (.pointer (some ⟨w.heap.size, 0, none⟩))) ∧ w' = w.alloc (.cells #[.string s, .iface 37 (.int .i64 c)] 95) := by
  go_enter Tryz.func30, Tryz.ntmps30
  go_wp2_with fail
  refine (errIs_any c 0 _).mono ?_
  rintro e w2 ⟨rfl, rfl⟩
  go_wp2
  go_ret
  exact ⟨rfl, rfl⟩

set_option maxHeartbeats 400000 in
theorem faultNew_nil (s : ByteArray) (w : World) :
    Calls Tryz.prog 30 #[.int .i64 0, .string s] w fun e w' => e = .returned .nilIface ∧ w' = w := by
  go_enter Tryz.func30, Tryz.ntmps30
  go_wp2_with fail
  refine (errIs_any 0 0 _).mono ?_
  rintro e w2 ⟨rfl, rfl⟩
  go_wp2
  go_ret
  exact ⟨rfl, rfl⟩
end Go.Proofs.YtccnfnoonpfdfaaGreatDoor

/- errors.As at a target *api.Errno, of errors in errors: closed facts, errors.as, errors.As. -/
namespace Go.Proofs.YtccnfnoonpfdfaaGreatDoor
open Go.RowKit Go.Extern.Stop Go.Stop Go.Extern

/-- v is an error of fault.New's make, of code c. -/
def IsFault (w : World) (v : Value) (c : Int) : Prop :=
  ∃ b s, v = .iface 93 (.pointer (some ⟨b, 0, none⟩)) ∧ Blk w b 95 [.string s, .iface 37 (.int .i64 c)]

/-! ### closed facts -/
theorem asValueOf (t : Addr) (w : World) : (ReflectliteValue.unpack (.iface 68 (.pointer (some t)))).run Tryz.prog w
    = .ok (.agg #[.pointer (some ⟨11, 68, none⟩), .pointer (some ⟨w.heap.size, 0, none⟩), .int .u64 150]) (w.alloc (.cells #[.pointer (some t)] 68)) := by kernel_rfl
theorem asValueOfC (c : Int) (w : World) : (ReflectliteValue.unpack (.iface 37 (.int .i64 c))).run Tryz.prog w
    = .ok (.agg #[.pointer (some ⟨11, 37, none⟩), .pointer (some ⟨w.heap.size, 0, none⟩), .int .u64 130]) (w.alloc (.cells #[.int .i64 c] 37)) := by kernel_rfl
theorem asType (a : Addr) (w : World) : (ReflectliteValue.methodAny (ReflectliteValue.valueError "reflectlite.Value.Type" 0) (fun t _ _ _ => ReflectliteType.toType t) #[.agg #[.pointer (some ⟨11, 68, none⟩), .pointer (some a), .int .u64 150]]).run Tryz.prog w
    = .ok (.iface 146 (.agg #[.pointer (some ⟨11, 68, none⟩)])) w := by kernel_rfl
theorem asMethodKind (h : Value) (w : World) : (Go.method 339 146 (.agg #[h]) "Kind").run Tryz.prog w = .ok (167, h) w := by kernel_rfl
theorem asMethodElem (h : Value) (w : World) : (Go.method 339 146 (.agg #[h]) "Elem").run Tryz.prog w = .ok (180, .agg #[h]) w := by kernel_rfl
theorem asMethodImplements (h : Value) (w : World) : (Go.method 339 146 (.agg #[h]) "Implements").run Tryz.prog w = .ok (181, .agg #[h]) w := by kernel_rfl
theorem asMethodAssignableTo (h : Value) (w : World) : (Go.method 339 146 (.agg #[h]) "AssignableTo").run Tryz.prog w = .ok (178, .agg #[h]) w := by kernel_rfl
theorem asMethodUnwrap (v : Value) (w : World) : (Go.method 339 93 v "Unwrap").run Tryz.prog w = .ok (173, v) w := by kernel_rfl
theorem asKindP (w : World) : ((ReflectliteType.abiMethod fun t => (fun a : Nat => Value.int IntKind.u8 (a : Int)) <$> Rtype.kind t) #[.pointer (some ⟨11, 68, none⟩)]).run Tryz.prog w = .ok (.int .u8 22) w := by kernel_rfl
theorem asKindE (w : World) : ((ReflectliteType.abiMethod fun t => (fun a : Nat => Value.int IntKind.u8 (a : Int)) <$> Rtype.kind t) #[.pointer (some ⟨11, 37, none⟩)]).run Tryz.prog w = .ok (.int .u8 2) w := by kernel_rfl
theorem asRlm (z : Sem Value) (f : TypeId → Addr → Nat → Nat → Sem Value) (v : Value) :
    ReflectliteValue.method z f #[v] = (do match ← ReflectliteValue.parts v with | none => z | some (t, a, fl) => f t a fl (fl % 32)) := rfl
theorem asParts (a : Addr) (w : World) : (ReflectliteValue.parts (.agg #[.pointer (some ⟨11, 68, none⟩), .pointer (some a), .int .u64 150])).run Tryz.prog w = .ok (some (68, a, 150)) w := by kernel_rfl
theorem asIsNil (a p : Addr) (W : World) (ha : W.cell? a = some (.pointer (some p))) :
    (ReflectliteValue.method (ReflectliteValue.valueError "reflectlite.Value.IsNil" 0) ReflectliteValue.isNil #[.agg #[.pointer (some ⟨11, 68, none⟩), .pointer (some a), .int .u64 150]]).run Tryz.prog W = .ok (.bool false) W := by
  rw [asRlm]
  simp only [Sem.run_bind, asParts, Result.andThen]
  simp [ReflectliteValue.isNil, loadVar, isAgg, underlying, Tryz.underlying68, ha, Result.andThen]
theorem asElemT (w : World) : (ReflectliteType.method ReflectliteType.elem #[.agg #[.pointer (some ⟨11, 68, none⟩)]]).run Tryz.prog w = .ok (.iface 146 (.agg #[.pointer (some ⟨11, 37, none⟩)])) w := by kernel_rfl
theorem asImplements (w : World) : (ReflectliteType.relation "Implements" ReflectliteType.implements_ #[.agg #[.pointer (some ⟨11, 37, none⟩)], .iface 146 (.agg #[.pointer (some ⟨11, 33, none⟩)])]).run Tryz.prog w = .ok (.bool true) w := by kernel_rfl
theorem asTypeOfF (v : Value) (w : World) : (ReflectliteType.typeOf #[.iface 93 v]).run Tryz.prog w = .ok (.iface 146 (.agg #[.pointer (some ⟨11, 93, none⟩)])) w := by kernel_rfl
theorem asTypeOfC (v : Value) (w : World) : (ReflectliteType.typeOf #[.iface 37 v]).run Tryz.prog w = .ok (.iface 146 (.agg #[.pointer (some ⟨11, 37, none⟩)])) w := by kernel_rfl
theorem asAssignF (w : World) : (ReflectliteType.relation "AssignableTo" ReflectliteType.assignableTo #[.agg #[.pointer (some ⟨11, 93, none⟩)], .iface 146 (.agg #[.pointer (some ⟨11, 37, none⟩)])]).run Tryz.prog w = .ok (.bool false) w := by kernel_rfl
theorem asAssignC (w : World) : (ReflectliteType.relation "AssignableTo" ReflectliteType.assignableTo #[.agg #[.pointer (some ⟨11, 37, none⟩)], .iface 146 (.agg #[.pointer (some ⟨11, 37, none⟩)])]).run Tryz.prog w = .ok (.bool true) w := by kernel_rfl
theorem asElemOf (w : World) : (Rtype.elem? 68).run Tryz.prog w = .ok (some 37) w := by kernel_rfl
theorem asMk (p : Addr) (w : World) : (ReflectliteValue.mk 37 p ReflectliteValue.flagAddr).run Tryz.prog w = .ok (.agg #[.pointer (some ⟨11, 37, none⟩), .pointer (some p), .int .u64 386]) w := by kernel_rfl
theorem asElemV (a p : Addr) (W : World) (ha : W.cell? a = some (.pointer (some p))) :
    (ReflectliteValue.method (ReflectliteValue.valueError "reflectlite.Value.Elem" 0) ReflectliteValue.elem #[.agg #[.pointer (some ⟨11, 68, none⟩), .pointer (some a), .int .u64 150]]).run Tryz.prog W
      = .ok (.agg #[.pointer (some ⟨11, 37, none⟩), .pointer (some p), .int .u64 386]) W := by
  rw [asRlm]
  simp only [Sem.run_bind, asParts, Result.andThen]
  simp [ReflectliteValue.elem, loadVar, isAgg, underlying, Tryz.underlying68, ha, Result.andThen, asElemOf, asMk]
theorem asRls (v x : Value) : ReflectliteValue.set #[v, x] = (do
    let (some (dst, a, fl), some (src, b, _)) := (← ReflectliteValue.parts v, ← ReflectliteValue.parts x)
      | unsupported (.noEntry "extern/(internal/reflectlite.Value).Set.zeroValue")
    if fl / ReflectliteValue.flagAddr % 2 == 0 then unsupported (.noEntry "extern/(internal/reflectlite.Value).Set.unaddressable")
    let val ← loadVar src b
    if ← Rtype.directlyAssignable dst src then storeVar dst a val
    else if ← Rtype.implements dst src then
      if (← Rtype.kind src) == 20 then
        match val with
        | .nilIface => unsupported (.noEntry "extern/reflectlite: a nil value of one interface type handed on as a value of another")
        | _ => storeVar dst a val
      else storeVar dst a (.iface src val)
    else panicString ("reflectlite.Set: value of type " ++ (← Rtype.spelt src) ++ " is not assignable to type " ++ (← Rtype.spelt dst))
    pure (.tuple #[])) := rfl
theorem asPartsA (a : Addr) (w : World) : (ReflectliteValue.parts (.agg #[.pointer (some ⟨11, 37, none⟩), .pointer (some a), .int .u64 386])).run Tryz.prog w = .ok (some (37, a, 386)) w := by kernel_rfl
theorem asPartsC (a : Addr) (w : World) : (ReflectliteValue.parts (.agg #[.pointer (some ⟨11, 37, none⟩), .pointer (some a), .int .u64 130])).run Tryz.prog w = .ok (some (37, a, 130)) w := by kernel_rfl
theorem asDirect (w : World) : (Rtype.directlyAssignable 37 37).run Tryz.prog w = .ok true w := by kernel_rfl
theorem asSet (ta b : Addr) (c : Int) (old : Value) (W : World) (hb : W.cell? b = some (.int .i64 c)) (ht : W.cell? ta = some old) (hf : W.frozen? ta = false) :
    (ReflectliteValue.set #[.agg #[.pointer (some ⟨11, 37, none⟩), .pointer (some ta), .int .u64 386], .agg #[.pointer (some ⟨11, 37, none⟩), .pointer (some b), .int .u64 130]]).run Tryz.prog W
      = .ok (.tuple #[]) (W.setCell ta (.int .i64 c)) := by
  rw [asRls]
  simp only [Sem.run_bind, asPartsA, asPartsC, Result.andThen]
  simp [ReflectliteValue.flagAddr, loadVar, isAgg, underlying, Tryz.underlying37, hb, Result.andThen, asDirect, storeVar, Value.cells, storeCells, Addr.add]
  rw [run_store Tryz.prog W ta _ _ (by rfl)]
  simp [ht, hf]
theorem asNoAsF (v : Value) (xT : TypeId) (w : World) : (Instr.typeAssert (.iface 93 v) xT 150 true).run Tryz.prog w = .ok (.tuple #[.nilIface, .bool false]) w := run_typeAssert_lacksB Tryz.underlying150 (by kernel_rfl) (by kernel_rfl) v xT w
theorem asUnwrapF (v : Value) (xT : TypeId) (w : World) : (Instr.typeAssert (.iface 93 v) xT 153 true).run Tryz.prog w = .ok (.tuple #[.iface 93 v, .bool true]) w := run_typeAssert_hasB Tryz.underlying153 (by kernel_rfl) v xT w

/-- v is an error of code c, in n errors that tell where. -/
def Chain (w : World) : Nat → Value → Int → Prop
  | 0, v, c => v = .iface 37 (.int .i64 c)
  | n + 1, v, c => ∃ b s u, v = .iface 93 (.pointer (some ⟨b, 0, none⟩)) ∧ Blk w b 95 [.string s, u] ∧ Chain w n u c
theorem Chain.below {w w2 : World} (hb : Below w.heap.size w w2) : ∀ {n : Nat} {v : Value} {c : Int}, Chain w n v c → Chain w2 n v c := by
  intro n
  induction n with
  | zero => intro v c h; exact h
  | succ n ih =>
    intro v c h
    obtain ⟨b, s, u, rfl, h1, h2⟩ := h
    exact ⟨b, s, u, rfl, h1.below hb, ih h2⟩
theorem IsFault.chain {w : World} {v : Value} {c : Int} (h : IsFault w v c) : Chain w 1 v c := by
  obtain ⟨b, s, rfl, h⟩ := h
  exact ⟨b, s, _, rfl, h, rfl⟩
theorem Chain.ne_nil {w : World} {n : Nat} {v : Value} {c : Int} (h : Chain w n v c) : ∃ t u, v = .iface t u := by
  cases n with
  | zero => exact ⟨_, _, h⟩
  | succ n => obtain ⟨b, s, u, rfl, _⟩ := h; exact ⟨_, _, rfl⟩

set_option maxHeartbeats 400000 in
theorem unwrap_any (b : Nat) (s : ByteArray) (u : Value) (w : World) (h : Blk w b 95 [.string s, u]) :
    Calls Tryz.prog 173 #[.pointer (some ⟨b, 0, none⟩)] w fun e w' => e = .returned u ∧ w' = w := by
  have c1 : w.cell? ⟨b, 1, none⟩ = some u := h.cell 1
  clear h
  go_enter Tryz.func173, Tryz.ntmps173
  go_wp2
  go_ret
  exact ⟨rfl, rfl⟩
end Go.Proofs.YtccnfnoonpfdfaaGreatDoor

/- errors.as, errors.As at *api.Errno; fault.Code: an error's code, however often it is wrapped. -/
namespace Go.Proofs.YtccnfnoonpfdfaaGreatDoor
open Go.RowKit Go.Extern.Stop Go.Stop Go.Extern

theorem asRunValueOf (args : Array Value) (w : World) : (callFunc 63 args).run Tryz.prog w = (((fun args => ReflectliteValue.unpack (args.getD 0 (.tuple #[]))) args).run Tryz.prog w).andThen fun v w2 => .ok (.value v) w2 := @run_callFunc_extern Tryz.prog 63 _ (fun args => ReflectliteValue.unpack (args.getD 0 (.tuple #[]))) Tryz.func63 (by kernel_rfl) (by kernel_rfl) (by kernel_rfl) (by kernel_rfl) args w
theorem asRunType (args : Array Value) (w : World) : (callFunc 64 args).run Tryz.prog w = (((ReflectliteValue.methodAny (ReflectliteValue.valueError "reflectlite.Value.Type" 0) (fun t _ _ _ => ReflectliteType.toType t)) args).run Tryz.prog w).andThen fun v w2 => .ok (.value v) w2 := @run_callFunc_extern Tryz.prog 64 _ (ReflectliteValue.methodAny (ReflectliteValue.valueError "reflectlite.Value.Type" 0) (fun t _ _ _ => ReflectliteType.toType t)) Tryz.func64 (by kernel_rfl) (by kernel_rfl) (by kernel_rfl) (by kernel_rfl) args w
theorem asRunIsNil (args : Array Value) (w : World) : (callFunc 65 args).run Tryz.prog w = (((ReflectliteValue.method (ReflectliteValue.valueError "reflectlite.Value.IsNil" 0) ReflectliteValue.isNil) args).run Tryz.prog w).andThen fun v w2 => .ok (.value v) w2 := @run_callFunc_extern Tryz.prog 65 _ (ReflectliteValue.method (ReflectliteValue.valueError "reflectlite.Value.IsNil" 0) ReflectliteValue.isNil) Tryz.func65 (by kernel_rfl) (by kernel_rfl) (by kernel_rfl) (by kernel_rfl) args w
theorem asRunKind (args : Array Value) (w : World) : (callFunc 167 args).run Tryz.prog w = (((ReflectliteType.abiMethod fun t => do pure (.int .u8 (← Rtype.kind t))) args).run Tryz.prog w).andThen fun v w2 => .ok (.value v) w2 := @run_callFunc_extern Tryz.prog 167 _ (ReflectliteType.abiMethod fun t => do pure (.int .u8 (← Rtype.kind t))) Tryz.func167 (by kernel_rfl) (by kernel_rfl) (by kernel_rfl) (by kernel_rfl) args w
theorem asRunElemT (args : Array Value) (w : World) : (callFunc 180 args).run Tryz.prog w = (((ReflectliteType.method ReflectliteType.elem) args).run Tryz.prog w).andThen fun v w2 => .ok (.value v) w2 := @run_callFunc_extern Tryz.prog 180 _ (ReflectliteType.method ReflectliteType.elem) Tryz.func180 (by kernel_rfl) (by kernel_rfl) (by kernel_rfl) (by kernel_rfl) args w
theorem asRunImpl (args : Array Value) (w : World) : (callFunc 181 args).run Tryz.prog w = (((ReflectliteType.relation "Implements" ReflectliteType.implements_) args).run Tryz.prog w).andThen fun v w2 => .ok (.value v) w2 := @run_callFunc_extern Tryz.prog 181 _ (ReflectliteType.relation "Implements" ReflectliteType.implements_) Tryz.func181 (by kernel_rfl) (by kernel_rfl) (by kernel_rfl) (by kernel_rfl) args w
theorem asRunTypeOf (args : Array Value) (w : World) : (callFunc 88 args).run Tryz.prog w = (((ReflectliteType.typeOf) args).run Tryz.prog w).andThen fun v w2 => .ok (.value v) w2 := @run_callFunc_extern Tryz.prog 88 _ ReflectliteType.typeOf Tryz.func88 (by kernel_rfl) (by kernel_rfl) (by kernel_rfl) (by kernel_rfl) args w
theorem asRunAssign (args : Array Value) (w : World) : (callFunc 178 args).run Tryz.prog w = (((ReflectliteType.relation "AssignableTo" ReflectliteType.assignableTo) args).run Tryz.prog w).andThen fun v w2 => .ok (.value v) w2 := @run_callFunc_extern Tryz.prog 178 _ (ReflectliteType.relation "AssignableTo" ReflectliteType.assignableTo) Tryz.func178 (by kernel_rfl) (by kernel_rfl) (by kernel_rfl) (by kernel_rfl) args w
theorem asRunElemV (args : Array Value) (w : World) : (callFunc 99 args).run Tryz.prog w = (((ReflectliteValue.method (ReflectliteValue.valueError "reflectlite.Value.Elem" 0) ReflectliteValue.elem) args).run Tryz.prog w).andThen fun v w2 => .ok (.value v) w2 := @run_callFunc_extern Tryz.prog 99 _ (ReflectliteValue.method (ReflectliteValue.valueError "reflectlite.Value.Elem" 0) ReflectliteValue.elem) Tryz.func99 (by kernel_rfl) (by kernel_rfl) (by kernel_rfl) (by kernel_rfl) args w
theorem asRunSet (args : Array Value) (w : World) : (callFunc 100 args).run Tryz.prog w = (((ReflectliteValue.set) args).run Tryz.prog w).andThen fun v w2 => .ok (.value v) w2 := @run_callFunc_extern Tryz.prog 100 _ ReflectliteValue.set Tryz.func100 (by kernel_rfl) (by kernel_rfl) (by kernel_rfl) (by kernel_rfl) args w

set_option maxHeartbeats 1000000 in
theorem as_chain (n : Nat) (v : Value) (c x : Int) (t a : Nat) (w : World) (hv : Chain w n v c) (ht : Blk w t 37 [.int .i64 x]) (ha : w.cell? ⟨a, 0, none⟩ = some (.pointer (some ⟨t, 0, none⟩))) :
    Calls Tryz.prog 66 #[v, .iface 68 (.pointer (some ⟨t, 0, none⟩)), .agg #[.pointer (some ⟨11, 68, none⟩), .pointer (some ⟨a, 0, none⟩), .int .u64 150], .iface 146 (.agg #[.pointer (some ⟨11, 37, none⟩)])] w fun e w' =>
      e = .returned (.bool true) ∧ Blk w' t 37 [.int .i64 c] ∧ Only (· = t) w w' := by
  have HC := Lib.hid hv
  have HT := Lib.hid ht
  have HA := Lib.hid ha
  clear hv ht ha
  go_enter Tryz.func66, Tryz.ntmps66
  go_wp2
  go_loopg [0] n (fun m u wr => Chain wr m u c ∧ Below w.heap.size w wr ∧ Blk wr w.heap.size 104 [.pointer (some ⟨11, 68, none⟩), .pointer (some ⟨a, 0, none⟩), .int .u64 150])
  case atStart => exact ⟨HC.out.below ((Below.refl _ _).alloc (Nat.le_refl _) _), (Below.refl _ _).alloc (Nat.le_refl _) _, heap_alloc_new w _⟩
  case round =>
    obtain ⟨hc, hb, hx⟩ := hrel
    have rTO := asRunTypeOf
    have rAT := asRunAssign
    have mA := asMethodAssignableTo
    cases gk with
    | zero =>
      obtain rfl := hc
      have rEV := asRunElemV
      have rVO := asRunValueOf
      have rST := asRunSet
      have fT := asTypeOfC
      have fA := asAssignC
      have fV := asValueOfC
      have c0 := hx.cell 0
      have c1 := hx.cell 1
      have c2 := hx.cell 2
      have fE := asElemV ⟨a, 0, none⟩ ⟨t, 0, none⟩ wr (bcell hb HA.out)
      have hsz := hb.size
      have htl := HT.out.lt
      have hT2 : Blk (wr.alloc (.cells #[.int .i64 c] 37)) t 37 [.int .i64 x] := (HT.out.below hb).alloc _
      have fS := asSet ⟨t, 0, none⟩ ⟨wr.heap.size, 0, none⟩ c (.int .i64 x) (wr.alloc (.cells #[.int .i64 c] 37)) (by simp) (hT2.cell 0) (hT2.frozen 0)
      have HB := Lib.hid (And.intro hb hT2)
      clear hb hx hT2
      go_wp2
      go_ret
      refine ⟨rfl, HB.out.2.set 0 _, ?_⟩
      exact ((Only.ofBelow HB.out.1 _).trans' (Only.alloc _ _ _) (fun i hi h => h)).trans (Only.set1 _ t 0 _)
    | succ m =>
      obtain ⟨b, s, u, rfl, hB, hc2⟩ := hc
      have fT := asTypeOfF
      have fA := asAssignF
      have fN := asNoAsF
      have fU := asUnwrapF
      have mU := asMethodUnwrap
      obtain ⟨ty, uu, rfl⟩ := hc2.ne_nil
      have H := Lib.hid (And.intro hB (And.intro hc2 (And.intro hb hx)))
      clear hB hc2 hb hx
      go_wp2_with fail
      refine (unwrap_any b s _ wr H.out.1).mono ?_
      rintro e w2 ⟨rfl, rfl⟩
      go_wp2
      go_roundg m
      case measure => omega
      case rel => exact H.out.2

/-- What lays errors.errorType. -/
def ErrT (w : World) : Prop := w.cell? ⟨2, 0, none⟩ = some (.iface 146 (.agg #[.pointer (some ⟨11, 33, none⟩)]))
theorem ErrT.below {w w2 : World} (h : ErrT w) (hb : Below w.heap.size w w2) : ErrT w2 := bcell hb h
theorem ErrT.only {S : Nat → Prop} {w w2 : World} (h : ErrT w) (ho : Only S w w2) (hs : ¬ S 2) : ErrT w2 := ho.cell hs h

set_option maxHeartbeats 1000000 in
theorem As_chain (n : Nat) (v : Value) (c x : Int) (t : Nat) (w : World) (hv : Chain w n v c) (ht : Blk w t 37 [.int .i64 x]) (hg : ErrT w) :
    Calls Tryz.prog 34 #[v, .iface 68 (.pointer (some ⟨t, 0, none⟩))] w fun e w' =>
      e = .returned (.bool true) ∧ Blk w' t 37 [.int .i64 c] ∧ Only (· = t) w w' := by
  have rVO := asRunValueOf
  have rTy := asRunType
  have rIN := asRunIsNil
  have rK := asRunKind
  have rE := asRunElemT
  have rI := asRunImpl
  have fV := asValueOf
  have fT := asType
  have fKP := asKindP
  have fKE := asKindE
  have fE := asElemT
  have fI := asImplements
  have mK := asMethodKind
  have mE := asMethodElem
  have mI := asMethodImplements
  obtain ⟨ty, uu, rfl⟩ := hv.ne_nil
  have hgl := World.block_lt_of_cell? w _ hg
  obtain ⟨W, hW⟩ : ∃ W, W = ((w.alloc (.cells #[.pointer (some ⟨t, 0, none⟩)] 68)).alloc (.cells #[.pointer (some ⟨11, 68, none⟩), .pointer (some ⟨w.heap.size, 0, none⟩), .int .u64 150] 104)) := ⟨_, rfl⟩
  have hbW : Below w.heap.size w W := by rw [hW]; exact ((Below.refl _ _).alloc (Nat.le_refl _) _).alloc (by simp) _
  have hcW : W.cell? ⟨w.heap.size, 0, none⟩ = some (.pointer (some ⟨t, 0, none⟩)) := by
    rw [hW, World.cell?_alloc_lt _ _ ⟨w.heap.size, 0, none⟩ (by simp)]; simp
  have hg2 := bcell hbW hg
  have n8 := asIsNil ⟨w.heap.size, 0, none⟩ ⟨t, 0, none⟩ W hcW
  have HV := Lib.hid (And.intro hv (And.intro ht (And.intro hbW hcW)))
  rw [hW] at hg2 n8
  have HW := Lib.hid hW
  clear hv ht hbW hcW hW
  go_enter Tryz.func34, Tryz.ntmps34
  go_wp2_with fail
  rw [← HW.out]
  refine (as_chain n _ c x t w.heap.size W (HV.out.1.below HV.out.2.2.1) (HV.out.2.1.below HV.out.2.2.1) HV.out.2.2.2).mono ?_
  rintro e w2 ⟨rfl, hB, hO⟩
  have H := Lib.hid (And.intro hB ((Only.ofBelow HV.out.2.2.1 _).trans' hO (fun _ _ h => h)))
  clear hB hO
  go_wp2
  go_ret
  exact ⟨rfl, H.out⟩

set_option maxHeartbeats 1000000 in
theorem code_chain (n : Nat) (v : Value) (c : Int) (w : World) (hv : Chain w n v c) (hg : ErrT w) :
    Calls Tryz.prog 15 #[v] w fun e w' => e = .returned (.int .i64 c) ∧ Below w.heap.size w w' := by
  obtain ⟨ty, uu, rfl⟩ := hv.ne_nil
  obtain ⟨W, hW⟩ : ∃ W, W = w.alloc (.cells #[.int .i64 0] 37) := ⟨_, rfl⟩
  have hbW : Below w.heap.size w W := by rw [hW]; exact (Below.refl _ _).alloc (Nat.le_refl _) _
  have hB : Blk W w.heap.size 37 [.int .i64 0] := by rw [hW]; exact heap_alloc_new w _
  have HV := Lib.hid (And.intro (hv.below hbW) (And.intro hB (And.intro (hg.below hbW) hbW)))
  have HW := Lib.hid hW
  clear hv hg hbW hB hW
  go_enter Tryz.func15, Tryz.ntmps15
  go_wp2_with fail
  rw [← HW.out]
  refine (As_chain n _ c 0 w.heap.size W HV.out.1 HV.out.2.1 HV.out.2.2.1).mono ?_
  rintro e w2 ⟨rfl, hB, hO⟩
  have c0 := hB.cell 0
  have H := Lib.hid (HV.out.2.2.2.trans (hO.below HV.out.2.2.2.size (fun k hk h => by omega)))
  clear hB hO
  go_wp2
  go_ret
  exact ⟨rfl, H.out⟩

set_option maxHeartbeats 400000 in
theorem code_nil (w : World) : Calls Tryz.prog 15 #[.nilIface] w fun e w' => e = .returned (.int .i64 0) ∧ w' = w := by
  go_enter Tryz.func15, Tryz.ntmps15
  go_wp2
  go_ret
  exact ⟨rfl, rfl⟩
end Go.Proofs.YtccnfnoonpfdfaaGreatDoor
