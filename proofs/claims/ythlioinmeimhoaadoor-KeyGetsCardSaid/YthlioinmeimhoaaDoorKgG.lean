/- The key reader's value: one more field in its row (printed by wip/gen_kgobj.py). -/
import Derived.Test.YthlioinmeimhoaaDoorKgF
namespace Go.Proofs.YthlioinmeimhoaaDoor
open Go.Shelf Go.RowKit Go.Lib

def ObjGood (w0 : World) (rb P N : Nat) (d : Int) (l : List (BL × V)) (wr : World) : Prop := VBase w0 rb P N d wr ∧ ∃ ov cs, Blk wr N 28 [.int .i64 5, .int .i64 0, .string ⟨#[]⟩, .slice none 0 0, ov] ∧ wr.ownsRow (N + 1) 72 6 ov l.length cs ∧ FsAt (fun b => some b ≠ ov.ownBlock ∧ N + 1 ≤ b ∧ b < wr.heap.size) wr l cs
def ObjBad (w0 : World) (rb P N : Nat) (d : Int) (wr : World) : Prop := VBase w0 rb P N d wr ∧ ∃ p n c, Blk wr N 28 [.int .i64 5, .int .i64 0, .string ⟨#[]⟩, .slice none 0 0, .slice p n c]

theorem set_six (cs : List Value) (z0 z1 z2 z3 z4 z5 c0 c1 c2 c3 c4 c5 : Value) (n : Nat) (hn : cs.length = n) :
    ((((((cs ++ [z0, z1, z2, z3, z4, z5]).set n c0).set (n + 1) c1).set (n + 2) c2).set (n + 3) c3).set (n + 4) c4).set (n + 5) c5 = cs ++ [c0, c1, c2, c3, c4, c5] := by
  subst hn
  rw [List.set_append_right _ _ (Nat.le_refl _), List.set_append_right _ _ (by omega), List.set_append_right _ _ (by omega), List.set_append_right _ _ (by omega), List.set_append_right _ _ (by omega), List.set_append_right _ _ (by omega)]
  simp only [Nat.sub_self, Nat.add_sub_cancel_left]
  rfl

/-- a value laid into a new place of the row, and the row into its field, in either order. -/
theorem obj_laid {w5 W : World} {N g n cap : Nat} {cs : List Value} {c0 c1 c2 c3 c4 c5 z0 z1 z2 z3 z4 z5 ov : Value}
    (hown : w5.ownsRow (N + 1) 72 6 (.slice (some ⟨g, 0, none⟩) (n + 1) cap) (n + 1) (cs ++ [z0, z1, z2, z3, z4, z5])) (hcs : cs.length = n * 6)
    (hN : Blk w5 N 28 [.int .i64 5, .int .i64 0, .string ⟨#[]⟩, .slice none 0 0, ov])
    (hW : W = ((((((w5.setCell ⟨g, n * 6, none⟩ c0).setCell ⟨g, n * 6 + 1, none⟩ c1).setCell ⟨g, n * 6 + 2, none⟩ c2).setCell ⟨g, n * 6 + 3, none⟩ c3).setCell ⟨g, n * 6 + 4, none⟩ c4).setCell ⟨g, n * 6 + 5, none⟩ c5).setCell ⟨N, 4, none⟩ (.slice (some ⟨g, 0, none⟩) (n + 1) cap) ∨
      W = ((((((w5.setCell ⟨N, 4, none⟩ (.slice (some ⟨g, 0, none⟩) (n + 1) cap)).setCell ⟨g, n * 6, none⟩ c0).setCell ⟨g, n * 6 + 1, none⟩ c1).setCell ⟨g, n * 6 + 2, none⟩ c2).setCell ⟨g, n * 6 + 3, none⟩ c3).setCell ⟨g, n * 6 + 4, none⟩ c4).setCell ⟨g, n * 6 + 5, none⟩ c5) :
    W.ownsRow (N + 1) 72 6 (.slice (some ⟨g, 0, none⟩) (n + 1) cap) (n + 1) (cs ++ [c0, c1, c2, c3, c4, c5]) ∧ Blk W N 28 [.int .i64 5, .int .i64 0, .string ⟨#[]⟩, .slice none 0 0, .slice (some ⟨g, 0, none⟩) (n + 1) cap] ∧ Only (fun k => k = N ∨ k = g) w5 W := by
  have hg : N + 1 ≤ g := (hown.lt g rfl).1
  have row : ∀ (w : World), w.ownsRow (N + 1) 72 6 (.slice (some ⟨g, 0, none⟩) (n + 1) cap) (n + 1) (cs ++ [z0, z1, z2, z3, z4, z5]) →
      ((((((w.setCell ⟨g, n * 6, none⟩ c0).setCell ⟨g, n * 6 + 1, none⟩ c1).setCell ⟨g, n * 6 + 2, none⟩ c2).setCell ⟨g, n * 6 + 3, none⟩ c3).setCell ⟨g, n * 6 + 4, none⟩ c4).setCell ⟨g, n * 6 + 5, none⟩ c5).ownsRow (N + 1) 72 6 (.slice (some ⟨g, 0, none⟩) (n + 1) cap) (n + 1) (cs ++ [c0, c1, c2, c3, c4, c5]) ∧
      Only (fun k => k = g) w ((((((w.setCell ⟨g, n * 6, none⟩ c0).setCell ⟨g, n * 6 + 1, none⟩ c1).setCell ⟨g, n * 6 + 2, none⟩ c2).setCell ⟨g, n * 6 + 3, none⟩ c3).setCell ⟨g, n * 6 + 4, none⟩ c4).setCell ⟨g, n * 6 + 5, none⟩ c5) := by
    intro w h
    have h1 := (h.stored (n * 6) c0).1
    have h2 := (h1.stored (n * 6 + 1) c1).1
    have h3 := (h2.stored (n * 6 + 2) c2).1
    have h4 := (h3.stored (n * 6 + 3) c3).1
    have h5 := (h4.stored (n * 6 + 4) c4).1
    have h6 := (h5.stored (n * 6 + 5) c5).1
    rw [set_six cs _ _ _ _ _ _ _ _ _ _ _ _ _ hcs] at h6
    exact ⟨h6, (((((Only.set1 w g _ _).trans (Only.set1 _ g _ _)).trans (Only.set1 _ g _ _)).trans (Only.set1 _ g _ _)).trans (Only.set1 _ g _ _)).trans (Only.set1 _ g _ _)⟩
  rcases hW with rfl | rfl
  · obtain ⟨h5, ho⟩ := row w5 hown
    refine ⟨ownsRow_setCell_below h5 (a := ⟨N, 4, none⟩) (by show N < N + 1; omega) _, (hN.only ho (by omega)).set 4 _, (ho.mono (fun i _ e => .inr e)).trans ((Only.set1 _ N 4 _).mono (fun i _ e => .inl e))⟩
  · have h1 := ownsRow_setCell_below hown (a := ⟨N, 4, none⟩) (by show N < N + 1; omega) (.slice (some ⟨g, 0, none⟩) (n + 1) cap)
    obtain ⟨h5, ho⟩ := row _ h1
    exact ⟨h5, Blk.only (hN.set 4 _) ho (by omega), ((Only.set1 _ N 4 _).mono (fun i _ e => .inl e)).trans (ho.mono (fun i _ e => .inr e))⟩

/-- the row has one more value. -/
theorem obj_more {w0 wr w4 w5 W : World} {rb P N g cap : Nat} {d : Int} {l : List (BL × V)} {nm : BL} {v : V} {cs : List Value} {c0 c1 c2 c3 c4 c5 z0 z1 z2 z3 z4 z5 ov : Value}
    (hb : VBase w0 rb P N d wr) (hN : Blk wr N 28 [.int .i64 5, .int .i64 0, .string ⟨#[]⟩, .slice none 0 0, ov]) (hr : wr.ownsRow (N + 1) 72 6 ov l.length cs)
    (ho4 : Only (fun k => k = rb) wr w4) (h5 : Only (fun k => some k = ov.ownBlock) w4 w5)
    (hown : w5.ownsRow (N + 1) 72 6 (.slice (some ⟨g, 0, none⟩) (l.length + 1) cap) (l.length + 1) (cs ++ [z0, z1, z2, z3, z4, z5])) (hat : some g = ov.ownBlock ∨ w4.heap.size ≤ g)
    (hW : W = ((((((w5.setCell ⟨g, l.length * 6, none⟩ c0).setCell ⟨g, l.length * 6 + 1, none⟩ c1).setCell ⟨g, l.length * 6 + 2, none⟩ c2).setCell ⟨g, l.length * 6 + 3, none⟩ c3).setCell ⟨g, l.length * 6 + 4, none⟩ c4).setCell ⟨g, l.length * 6 + 5, none⟩ c5).setCell ⟨N, 4, none⟩ (.slice (some ⟨g, 0, none⟩) (l.length + 1) cap) ∨
      W = ((((((w5.setCell ⟨N, 4, none⟩ (.slice (some ⟨g, 0, none⟩) (l.length + 1) cap)).setCell ⟨g, l.length * 6, none⟩ c0).setCell ⟨g, l.length * 6 + 1, none⟩ c1).setCell ⟨g, l.length * 6 + 2, none⟩ c2).setCell ⟨g, l.length * 6 + 3, none⟩ c3).setCell ⟨g, l.length * 6 + 4, none⟩ c4).setCell ⟨g, l.length * 6 + 5, none⟩ c5) :
    ObjBad w0 rb P N d W ∧ (FsAt (fun b => some b ≠ ov.ownBlock ∧ N + 1 ≤ b ∧ b < wr.heap.size) wr l cs → c0 = .string (BA nm) → VAt (fun b => wr.heap.size ≤ b ∧ b < w4.heap.size) w4 v [c1, c2, c3, c4, c5] → ObjGood w0 rb P N d (l ++ [(nm, v)]) W) ∧ Only (fun k => k = N ∨ k = g ∨ some k = ov.ownBlock) w4 W ∧ N < g := by
  have hovlt : ∀ k, ov.ownBlock = some k → N + 1 ≤ k ∧ k < wr.heap.size := fun k hk => hr.lt k hk
  have hN5 : Blk w5 N 28 [.int .i64 5, .int .i64 0, .string ⟨#[]⟩, .slice none 0 0, ov] :=
    (hN.only ho4 (fun e => by have := hb.rlt; have := hb.nge; omega)).only h5 (fun e => by have := (hovlt N e.symm).1; omega)
  obtain ⟨hR, hB, hO⟩ := obj_laid hown hr.1 hN5 hW
  have hg : N + 1 ≤ g := (hown.lt g rfl).1
  have hO4 : Only (fun k => k = N ∨ k = g ∨ some k = ov.ownBlock) w4 W := (h5.mono (fun i _ e => .inr (.inr e))).trans (hO.mono (fun i _ e => e.imp id .inl))
  have hb4 : VBase w0 rb P N d w4 := hb.next ho4 (fun k _ e => e)
  have hbW : VBase w0 rb P N d W := by
    refine hb4.next hO4 (fun k hk e => ?_)
    rcases e with e | e | e
    · omega
    · omega
    · have := (hovlt k e.symm).1; omega
  refine ⟨⟨hbW, _, _, _, hB⟩, fun hVs hnm hV => ⟨hbW, _, cs ++ [c0, c1, c2, c3, c4, c5], hB, ?_, ?_⟩, hO4, hg⟩
  · rw [List.length_append]; exact hR
  · have hsW : w4.heap.size ≤ W.heap.size := hO4.size
    have hs4 : wr.heap.size ≤ w4.heap.size := ho4.size
    have hNlt := hN.lt
    have hnlt4 := hb4.nlt
    have hrl := hb4.rlt
    have hnge := hb4.nge
    have k1 : ∀ b, (wr.heap.size ≤ b ∧ b < w4.heap.size) → (some b ≠ (Value.slice (some ⟨g, 0, none⟩) (l.length + 1) cap).ownBlock ∧ N + 1 ≤ b ∧ b < W.heap.size) := fun b hb => by
      refine ⟨fun e => ?_, by omega, by omega⟩
      injection e with e
      have e2 : b = g := e
      rcases hat with hat | hat
      · have := (hovlt g hat.symm).2; omega
      · omega
    have k2 : ∀ b, (wr.heap.size ≤ b ∧ b < w4.heap.size) → ¬ (b = N ∨ b = g ∨ some b = ov.ownBlock) := fun b hb e => by
      rcases e with e | e | e
      · omega
      · rcases hat with hat | hat
        · have := (hovlt g hat.symm).2; omega
        · omega
      · have := (hovlt b e.symm).2; omega
    have k3 : ∀ b, (some b ≠ ov.ownBlock ∧ N + 1 ≤ b ∧ b < wr.heap.size) → (some b ≠ (Value.slice (some ⟨g, 0, none⟩) (l.length + 1) cap).ownBlock ∧ N + 1 ≤ b ∧ b < W.heap.size) := fun b hb => by
      refine ⟨fun e => ?_, hb.2.1, by omega⟩
      injection e with e
      have e2 : b = g := e
      rcases hat with hat | hat
      · exact hb.1 (by rw [e2]; exact hat)
      · omega
    have k4 : ∀ b, (some b ≠ ov.ownBlock ∧ N + 1 ≤ b ∧ b < wr.heap.size) → ¬ (b = N ∨ b = g ∨ some b = ov.ownBlock) := fun b hb e => by
      rcases e with e | e | e
      · omega
      · rcases hat with hat | hat
        · exact hb.1 (by rw [e]; exact hat)
        · omega
      · exact hb.1 e
    have k5 : ∀ b, (some b ≠ ov.ownBlock ∧ N + 1 ≤ b ∧ b < wr.heap.size) → ¬ b = rb := fun b hb e => by omega
    rw [hnm]
    exact FsAt.snoc (hV.keep k1 (fun b hb k u hu => hO4.cell (k2 b hb) hu)) (hVs.keep k3 (fun b hb k u hu => hO4.cell (k4 b hb) (ho4.cell (k5 b hb) hu)))
end Go.Proofs.YthlioinmeimhoaaDoor
