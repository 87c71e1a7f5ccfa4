/- Words used by all walks of this seat: 'Only S w w2' (from w to w2 only blocks of S, and new ones, have changed), slices of grants. -/
import Derived.Test.YtlhlbedbfjanhaaProg
import Derived.WalkKit
import Derived.WalkSpells
import Derived.WalkLawsBesides
import Derived.BigQuiet
import Derived.Lib.Hide
import Derived.Deep.LoopGhost
import Derived.Deep.DeepCutAuto
import Derived.Deep.RegionHeld3
import Derived.Deep.QuietTactic
namespace Go.Proofs.Ytlhlbedbfjanhaa
open Go.RowKit

theorem ret_int {k : IntKind} {a b : Int} (h : a = b) : Ending.returned (.int k a) = .returned (.int k b) := by rw [h]
theorem ret_bool {a b : Bool} (h : a = b) : Ending.returned (.bool a) = .returned (.bool b) := by rw [h]

/-- From w to w2 nothing but blocks of S, and new ones, has changed. -/
structure Only (S : Nat → Prop) (w w2 : World) : Prop where
  os : w2.os = w.os
  tape : w2.tape = w.tape
  output : w2.output = w.output
  size : w.heap.size ≤ w2.heap.size
  block : ∀ k, k < w.heap.size → ¬ S k → w2.heap[k]? = w.heap[k]?

def NoneS : Nat → Prop := fun _ => False
theorem Only.refl (S : Nat → Prop) (w : World) : Only S w w := ⟨rfl, rfl, rfl, Nat.le_refl _, fun _ _ _ => rfl⟩
theorem Only.trans {S : Nat → Prop} {a b c : World} (h : Only S a b) (k : Only S b c) : Only S a c :=
  ⟨k.os.trans h.os, k.tape.trans h.tape, k.output.trans h.output, Nat.le_trans h.size k.size, fun i hi hs => (k.block i (Nat.lt_of_lt_of_le hi h.size) hs).trans (h.block i hi hs)⟩
/-- The second step may also change what is new since the first began. -/
theorem Only.trans' {S T : Nat → Prop} {a b c : World} (h : Only S a b) (k : Only T b c) (hT : ∀ i, i < a.heap.size → T i → S i) : Only S a c :=
  ⟨k.os.trans h.os, k.tape.trans h.tape, k.output.trans h.output, Nat.le_trans h.size k.size, fun i hi hs => (k.block i (Nat.lt_of_lt_of_le hi h.size) (fun t => hs (hT i hi t))).trans (h.block i hi hs)⟩
theorem Only.mono {S T : Nat → Prop} {a b : World} (h : Only S a b) (hT : ∀ i, i < a.heap.size → S i → T i) : Only T a b :=
  ⟨h.os, h.tape, h.output, h.size, fun i hi ht => h.block i hi (fun s => ht (hT i hi s))⟩
theorem Only.below {S : Nat → Prop} {w w2 : World} {B : Nat} (h : Only S w w2) (hB : B ≤ w.heap.size) (hS : ∀ k, k < B → ¬ S k) : Below B w w2 :=
  ⟨h.os, h.tape, h.output, h.size, fun k hk => h.block k (by omega) (hS k hk)⟩
theorem Only.ofBelow {w w2 : World} (h : Below w.heap.size w w2) (S : Nat → Prop) : Only S w w2 :=
  ⟨h.os, h.tape, h.output, h.size, fun k hk _ => h.block k hk⟩
theorem Only.alloc (S : Nat → Prop) (w : World) (o : Obj) : Only S w (w.alloc o) := Only.ofBelow ((Below.refl _ _).alloc (Nat.le_refl _) o) S
theorem Only.setCell {S : Nat → Prop} (w : World) {p : Addr} (hp : S p.block) (u : Value) : Only S w (w.setCell p u) :=
  ⟨rfl, rfl, rfl, by simp [World.setCell], fun _ _ hk => Below.heap_setCell _ _ _ _ (fun e => hk (e ▸ hp))⟩
theorem Only.set1 (w : World) (b o : Nat) (u : Value) : Only (fun x => x = b) w (w.setCell ⟨b, o, none⟩ u) := Only.setCell (S := fun x => x = b) (p := ⟨b, o, none⟩) w rfl u
theorem Only.drew (S : Nat → Prop) (w : World) : Only S w w.drew := ⟨rfl, rfl, rfl, Nat.le_refl _, fun _ _ _ => rfl⟩
theorem Only.drewN (S : Nat → Prop) (w : World) (n : Nat) : Only S w (w.drewN n) := ⟨rfl, rfl, rfl, Nat.le_refl _, fun _ _ _ => rfl⟩
theorem Only.ofGrown {S : Nat → Prop} {w w2 : World} {row : Option Nat} (h : w.grownBy w2 row) (hr : ∀ k, row = some k → S k) : Only S w w2 :=
  ⟨h.os, h.tape, h.output, h.size, fun k hk hs => h.block k hk (fun e => hs (hr k e.symm))⟩
theorem Only.cell {S : Nat → Prop} {w w2 : World} (h : Only S w w2) {p : Addr} {v : Value} (hp : ¬ S p.block) (hc : w.cell? p = some v) : w2.cell? p = some v := by
  rw [World.cell?_of_block (h.block p.block (World.block_lt_of_cell? w p hc) hp)]; exact hc
theorem bcell {w w2 : World} (h : Below w.heap.size w w2) {p : Addr} {v : Value} (hc : w.cell? p = some v) : w2.cell? p = some v := by
  rw [World.cell?_of_block (h.block p.block (World.block_lt_of_cell? w p hc))]; exact hc

/-- The cells of grants, one behind the other. -/
def gcells (l : List (Int × Int)) : List Value := l.flatMap fun g => [.int .i64 g.1, .int .i64 g.2]
@[simp] theorem gcells_length (l : List (Int × Int)) : (gcells l).length = 2 * l.length := by
  induction l with
  | nil => rfl
  | cons g l ih => simp [gcells] at ih ⊢; omega
theorem gcells_append (l m : List (Int × Int)) : gcells (l ++ m) = gcells l ++ gcells m := by simp [gcells]
theorem gcells_at (l : List (Int × Int)) : ∀ i (h : i < l.length), (gcells l)[i * 2]? = some (.int .i64 l[i].1) ∧ (gcells l)[i * 2 + 1]? = some (.int .i64 l[i].2) := by
  induction l with
  | nil => intro i h; simp at h
  | cons g l ih =>
    intro i h
    cases i with
    | zero => exact ⟨rfl, rfl⟩
    | succ i =>
      have := ih i (by simpa using h)
      rw [show (i + 1) * 2 = i * 2 + 2 by omega]
      exact this

/-- v is a slice that reads as the grants l (nothing is said of its spare cells). -/
def GRead (w : World) (v : Value) (l : List (Int × Int)) : Prop :=
  l.length ≤ 9223372036854775807 ∧ ∃ a cap, v = .slice a l.length cap ∧ (0 < l.length → ∃ b off, a = some ⟨b, off, none⟩ ∧ ∀ i (h : i < l.length), w.cell? ⟨b, off + i * 2, none⟩ = some (.int .i64 l[i].1) ∧ w.cell? ⟨b, off + i * 2 + 1, none⟩ = some (.int .i64 l[i].2))
theorem GRead.below {w w2 : World} {v : Value} {l : List (Int × Int)} (h : GRead w v l) (hb : Below w.heap.size w w2) : GRead w2 v l := by
  obtain ⟨hm, a, cap, rfl, h⟩ := h
  refine ⟨hm, a, cap, rfl, fun hl => ?_⟩
  obtain ⟨b, off, rfl, hc⟩ := h hl
  exact ⟨b, off, rfl, fun i hi => ⟨bcell hb (hc i hi).1, bcell hb (hc i hi).2⟩⟩
end Go.Proofs.Ytlhlbedbfjanhaa
