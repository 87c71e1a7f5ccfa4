/- The key reader's value: what it keeps; one more value in its row. -/
import Derived.Test.YthlioinmeimhoaaDoorKgC
namespace Go.Proofs.YthlioinmeimhoaaDoor
open Go.Shelf Go.RowKit Go.Lib

/-- five cells of a value's kinds. -/
def Shape (c : List Value) : Prop := ∃ k n s p1 l1 c1 p2 l2 c2, c = [.int .i64 k, .int .i64 n, .string s, .slice p1 l1 c1, .slice p2 l2 c2]
/-- a value that was read, and a reader behind it; or one that has gone bad. -/
def MRes (S : Nat → Prop) (w : World) (rb : Nat) (res : Option (V × BL)) (c : List Value) : Prop := match res with
  | some p => VAt S w p.1 c ∧ RS w rb (some p.2)
  | none => RS w rb none
theorem MRes.mono {S T : Nat → Prop} {w : World} {rb : Nat} {res : Option (V × BL)} {c : List Value} (h : MRes S w rb res c) (hST : ∀ b, S b → T b) : MRes T w rb res c := by
  cases res with
  | some p => exact ⟨h.1.keep hST (fun _ _ _ _ x => x), h.2⟩
  | none => exact h
/-- what the reader's value comes to: a value and what is left, or a reader that has gone bad. -/
def ValPost (w : World) (rb : Nat) (res : Option (V × BL)) (e : Ending) (w' : World) : Prop :=
  ∃ c, e = .returned (.agg c.toArray) ∧ Shape c ∧ MRes (fun b => w.heap.size ≤ b ∧ b < w'.heap.size) w' rb res c ∧ Only (fun k => k = rb) w w'
def recL : Nat → BL → Option (V × BL)
  | 0 => fun _ => none
  | n + 1 => rvalueL n
theorem rvalueL_rec (n : Nat) : rvalueL n = rbodyL (recL n) := by cases n <;> rfl
/-- the reader's value, where values may stand n deeper still. -/
def RV (n : Nat) : Prop := ∀ (w : World) (rb : Nat) (o : Option BL), (∀ s, o = some s → s.length ≤ 1000000) → RS w rb o → Calls Tryd.prog 44 #[.pointer (some ⟨rb, 0, none⟩), .int .i64 (16 - (n : Int))] w (ValPost w rb (o.bind (rvalueL n)))

/-- what stands while a value is read: the places of what it keeps. -/
structure VBase (w0 : World) (rb P N : Nat) (d : Int) (wr : World) : Prop where
  size : w0.heap.size = P
  rlt : rb < P
  nge : P + 3 ≤ N
  nlt : N < wr.heap.size
  ptr : Blk wr P 76 [.pointer (some ⟨rb, 0, none⟩)]
  deep : Blk wr (P + 1) 3 [.int .i64 d]
  res : Blk wr (P + 2) 28 [.int .i64 0, .int .i64 0, .string ⟨#[]⟩, .slice none 0 0, .slice none 0 0]
  only : Only (fun k => k = rb) w0 wr
theorem VBase.next {S : Nat → Prop} {w0 wr w2 : World} {rb P N : Nat} {d : Int} (h : VBase w0 rb P N d wr) (ho : Only S wr w2) (hS : ∀ k, k < N → S k → k = rb) : VBase w0 rb P N d w2 :=
  ⟨h.size, h.rlt, h.nge, Nat.lt_of_lt_of_le h.nlt ho.size, h.ptr.only ho (fun e => by have := hS P (by have := h.nge; omega) e; have := h.rlt; omega), h.deep.only ho (fun e => by have := hS (P + 1) (by have := h.nge; omega) e; have := h.rlt; omega),
    h.res.only ho (fun e => by have := hS (P + 2) (by have := h.nge; omega) e; have := h.rlt; omega), h.only.trans' ho (fun i hi e => hS i (by have := h.size; have := h.nge; omega) e)⟩

def ListGood (w0 : World) (rb P N : Nat) (d : Int) (l : List V) (wr : World) : Prop := VBase w0 rb P N d wr ∧ ∃ ov cs, Blk wr N 28 [.int .i64 4, .int .i64 0, .string ⟨#[]⟩, ov, .slice none 0 0] ∧ wr.ownsRow (N + 1) 28 5 ov l.length cs ∧ VsAt (fun b => some b ≠ ov.ownBlock ∧ N + 1 ≤ b ∧ b < wr.heap.size) wr l cs
def ListBad (w0 : World) (rb P N : Nat) (d : Int) (wr : World) : Prop := VBase w0 rb P N d wr ∧ ∃ p n c, Blk wr N 28 [.int .i64 4, .int .i64 0, .string ⟨#[]⟩, .slice p n c, .slice none 0 0]

theorem set_five (cs : List Value) (z0 z1 z2 z3 z4 c0 c1 c2 c3 c4 : Value) (n : Nat) (hn : cs.length = n) :
    (((((cs ++ [z0, z1, z2, z3, z4]).set n c0).set (n + 1) c1).set (n + 2) c2).set (n + 3) c3).set (n + 4) c4 = cs ++ [c0, c1, c2, c3, c4] := by
  subst hn
  rw [List.set_append_right _ _ (Nat.le_refl _), List.set_append_right _ _ (by omega), List.set_append_right _ _ (by omega), List.set_append_right _ _ (by omega), List.set_append_right _ _ (by omega)]
  simp only [Nat.sub_self, Nat.add_sub_cancel_left]
  rfl

/-- a value laid into a new place of the row, and the row into its field, in either order. -/
theorem list_laid {w5 W : World} {N g n cap : Nat} {cs : List Value} {c0 c1 c2 c3 c4 z0 z1 z2 z3 z4 ov : Value}
    (hown : w5.ownsRow (N + 1) 28 5 (.slice (some ⟨g, 0, none⟩) (n + 1) cap) (n + 1) (cs ++ [z0, z1, z2, z3, z4])) (hcs : cs.length = n * 5)
    (hN : Blk w5 N 28 [.int .i64 4, .int .i64 0, .string ⟨#[]⟩, ov, .slice none 0 0])
    (hW : W = (((((w5.setCell ⟨g, n * 5, none⟩ c0).setCell ⟨g, n * 5 + 1, none⟩ c1).setCell ⟨g, n * 5 + 2, none⟩ c2).setCell ⟨g, n * 5 + 3, none⟩ c3).setCell ⟨g, n * 5 + 4, none⟩ c4).setCell ⟨N, 3, none⟩ (.slice (some ⟨g, 0, none⟩) (n + 1) cap) ∨
      W = (((((w5.setCell ⟨N, 3, none⟩ (.slice (some ⟨g, 0, none⟩) (n + 1) cap)).setCell ⟨g, n * 5, none⟩ c0).setCell ⟨g, n * 5 + 1, none⟩ c1).setCell ⟨g, n * 5 + 2, none⟩ c2).setCell ⟨g, n * 5 + 3, none⟩ c3).setCell ⟨g, n * 5 + 4, none⟩ c4) :
    W.ownsRow (N + 1) 28 5 (.slice (some ⟨g, 0, none⟩) (n + 1) cap) (n + 1) (cs ++ [c0, c1, c2, c3, c4]) ∧ Blk W N 28 [.int .i64 4, .int .i64 0, .string ⟨#[]⟩, .slice (some ⟨g, 0, none⟩) (n + 1) cap, .slice none 0 0] ∧ Only (fun k => k = N ∨ k = g) w5 W := by
  have hg : N + 1 ≤ g := (hown.lt g rfl).1
  have row : ∀ (w : World), w.ownsRow (N + 1) 28 5 (.slice (some ⟨g, 0, none⟩) (n + 1) cap) (n + 1) (cs ++ [z0, z1, z2, z3, z4]) →
      (((((w.setCell ⟨g, n * 5, none⟩ c0).setCell ⟨g, n * 5 + 1, none⟩ c1).setCell ⟨g, n * 5 + 2, none⟩ c2).setCell ⟨g, n * 5 + 3, none⟩ c3).setCell ⟨g, n * 5 + 4, none⟩ c4).ownsRow (N + 1) 28 5 (.slice (some ⟨g, 0, none⟩) (n + 1) cap) (n + 1) (cs ++ [c0, c1, c2, c3, c4]) ∧
      Only (fun k => k = g) w (((((w.setCell ⟨g, n * 5, none⟩ c0).setCell ⟨g, n * 5 + 1, none⟩ c1).setCell ⟨g, n * 5 + 2, none⟩ c2).setCell ⟨g, n * 5 + 3, none⟩ c3).setCell ⟨g, n * 5 + 4, none⟩ c4) := by
    intro w h
    have h1 := (h.stored (n * 5) c0).1
    have h2 := (h1.stored (n * 5 + 1) c1).1
    have h3 := (h2.stored (n * 5 + 2) c2).1
    have h4 := (h3.stored (n * 5 + 3) c3).1
    have h5 := (h4.stored (n * 5 + 4) c4).1
    rw [set_five cs _ _ _ _ _ _ _ _ _ _ _ hcs] at h5
    exact ⟨h5, ((((Only.set1 w g _ _).trans (Only.set1 _ g _ _)).trans (Only.set1 _ g _ _)).trans (Only.set1 _ g _ _)).trans (Only.set1 _ g _ _)⟩
  rcases hW with rfl | rfl
  · obtain ⟨h5, ho⟩ := row w5 hown
    refine ⟨ownsRow_setCell_below h5 (a := ⟨N, 3, none⟩) (by show N < N + 1; omega) _, (hN.only ho (by omega)).set 3 _, (ho.mono (fun i _ e => .inr e)).trans ((Only.set1 _ N 3 _).mono (fun i _ e => .inl e))⟩
  · have h1 := ownsRow_setCell_below hown (a := ⟨N, 3, none⟩) (by show N < N + 1; omega) (.slice (some ⟨g, 0, none⟩) (n + 1) cap)
    obtain ⟨h5, ho⟩ := row _ h1
    exact ⟨h5, Blk.only (hN.set 3 _) ho (by omega), ((Only.set1 _ N 3 _).mono (fun i _ e => .inl e)).trans (ho.mono (fun i _ e => .inr e))⟩

/-- the row has one more value. -/
theorem list_more {w0 wr w4 w5 W : World} {rb P N g cap : Nat} {d : Int} {l : List V} {v : V} {cs : List Value} {c0 c1 c2 c3 c4 z0 z1 z2 z3 z4 ov : Value}
    (hb : VBase w0 rb P N d wr) (hN : Blk wr N 28 [.int .i64 4, .int .i64 0, .string ⟨#[]⟩, ov, .slice none 0 0]) (hr : wr.ownsRow (N + 1) 28 5 ov l.length cs)
    (ho4 : Only (fun k => k = rb) wr w4) (h5 : Only (fun k => some k = ov.ownBlock) w4 w5)
    (hown : w5.ownsRow (N + 1) 28 5 (.slice (some ⟨g, 0, none⟩) (l.length + 1) cap) (l.length + 1) (cs ++ [z0, z1, z2, z3, z4])) (hat : some g = ov.ownBlock ∨ w4.heap.size ≤ g)
    (hW : W = (((((w5.setCell ⟨g, l.length * 5, none⟩ c0).setCell ⟨g, l.length * 5 + 1, none⟩ c1).setCell ⟨g, l.length * 5 + 2, none⟩ c2).setCell ⟨g, l.length * 5 + 3, none⟩ c3).setCell ⟨g, l.length * 5 + 4, none⟩ c4).setCell ⟨N, 3, none⟩ (.slice (some ⟨g, 0, none⟩) (l.length + 1) cap) ∨
      W = (((((w5.setCell ⟨N, 3, none⟩ (.slice (some ⟨g, 0, none⟩) (l.length + 1) cap)).setCell ⟨g, l.length * 5, none⟩ c0).setCell ⟨g, l.length * 5 + 1, none⟩ c1).setCell ⟨g, l.length * 5 + 2, none⟩ c2).setCell ⟨g, l.length * 5 + 3, none⟩ c3).setCell ⟨g, l.length * 5 + 4, none⟩ c4) :
    ListBad w0 rb P N d W ∧ (VsAt (fun b => some b ≠ ov.ownBlock ∧ N + 1 ≤ b ∧ b < wr.heap.size) wr l cs → VAt (fun b => wr.heap.size ≤ b ∧ b < w4.heap.size) w4 v [c0, c1, c2, c3, c4] → ListGood w0 rb P N d (l ++ [v]) W) ∧ Only (fun k => k = N ∨ k = g ∨ some k = ov.ownBlock) w4 W ∧ N < g := by
  have hovlt : ∀ k, ov.ownBlock = some k → N + 1 ≤ k ∧ k < wr.heap.size := fun k hk => hr.lt k hk
  have hN5 : Blk w5 N 28 [.int .i64 4, .int .i64 0, .string ⟨#[]⟩, ov, .slice none 0 0] :=
    (hN.only ho4 (fun e => by have := hb.rlt; have := hb.nge; omega)).only h5 (fun e => by have := (hovlt N e.symm).1; omega)
  obtain ⟨hR, hB, hO⟩ := list_laid hown hr.1 hN5 hW
  have hg : N + 1 ≤ g := (hown.lt g rfl).1
  have hO4 : Only (fun k => k = N ∨ k = g ∨ some k = ov.ownBlock) w4 W := (h5.mono (fun i _ e => .inr (.inr e))).trans (hO.mono (fun i _ e => e.imp id .inl))
  have hb4 : VBase w0 rb P N d w4 := hb.next ho4 (fun k _ e => e)
  have hbW : VBase w0 rb P N d W := by
    refine hb4.next hO4 (fun k hk e => ?_)
    rcases e with e | e | e
    · omega
    · omega
    · have := (hovlt k e.symm).1; omega
  refine ⟨⟨hbW, _, _, _, hB⟩, fun hVs hV => ⟨hbW, _, cs ++ [c0, c1, c2, c3, c4], hB, ?_, ?_⟩, hO4, hg⟩
  · rw [List.length_append]; exact hR
  · have hsW : w4.heap.size ≤ W.heap.size := hO4.size
    have hs4 : wr.heap.size ≤ w4.heap.size := ho4.size
    have hNlt := hN.lt
    have hnlt4 := hb4.nlt
    have hrl := hb4.rlt
    have hnge := hb4.nge
    have k1 : ∀ b, (wr.heap.size ≤ b ∧ b < w4.heap.size) → (some b ≠ (Value.slice (some ⟨g, 0, none⟩) (l.length + 1) cap).ownBlock ∧ N + 1 ≤ b ∧ b < W.heap.size) := fun b hb => by
      refine ⟨fun e => ?_, by omega, by omega⟩
      injection e with e
      have e2 : b = g := e
      rcases hat with hat | hat
      · have := (hovlt g hat.symm).2; omega
      · omega
    have k2 : ∀ b, (wr.heap.size ≤ b ∧ b < w4.heap.size) → ¬ (b = N ∨ b = g ∨ some b = ov.ownBlock) := fun b hb e => by
      rcases e with e | e | e
      · omega
      · rcases hat with hat | hat
        · have := (hovlt g hat.symm).2; omega
        · omega
      · have := (hovlt b e.symm).2; omega
    have k3 : ∀ b, (some b ≠ ov.ownBlock ∧ N + 1 ≤ b ∧ b < wr.heap.size) → (some b ≠ (Value.slice (some ⟨g, 0, none⟩) (l.length + 1) cap).ownBlock ∧ N + 1 ≤ b ∧ b < W.heap.size) := fun b hb => by
      refine ⟨fun e => ?_, hb.2.1, by omega⟩
      injection e with e
      have e2 : b = g := e
      rcases hat with hat | hat
      · exact hb.1 (by rw [e2]; exact hat)
      · omega
    have k4 : ∀ b, (some b ≠ ov.ownBlock ∧ N + 1 ≤ b ∧ b < wr.heap.size) → ¬ (b = N ∨ b = g ∨ some b = ov.ownBlock) := fun b hb e => by
      rcases e with e | e | e
      · omega
      · rcases hat with hat | hat
        · exact hb.1 (by rw [e]; exact hat)
        · omega
      · exact hb.1 e
    have k5 : ∀ b, (some b ≠ ov.ownBlock ∧ N + 1 ≤ b ∧ b < wr.heap.size) → ¬ b = rb := fun b hb e => by omega
    exact VsAt.snoc (hV.keep k1 (fun b hb k u hu => hO4.cell (k2 b hb) hu)) (hVs.keep k3 (fun b hb k u hu => hO4.cell (k4 b hb) (ho4.cell (k5 b hb) hu)))
end Go.Proofs.YthlioinmeimhoaaDoor
