/- The statements' own small functions: things, Of, has, Goes, Same. -/
import Derived.Test.YteghcgiclpbkdaaDoorTowI
import Derived.Test.YteghcgiclpbkdaaDoorPureD
import Derived.Deep.RegionHeld3
namespace Go.Proofs.YteghcgiclpbkdaaDoor
open Go.RowKit

theorem sread_blk {w : World} {g : Nat} {e : TypeId} {ss : List ByteArray} (h : Blk w g e (ss.map Value.string)) (hl : ss.length ≤ 100) (hs : ∀ s ∈ ss, s.size ≤ 9223372036854775807) : SRead w (.slice (some ⟨g, 0, none⟩) ss.length ss.length) ss :=
  ⟨by omega, _, _, rfl, Nat.le_refl _, by omega, hs, fun _ => ⟨g, 0, rfl, fun i hi => by rw [h.cell]; simp [hi]⟩⟩

theorem six_blks (w : World) (O0 O1 O2 O3 O4 O5 O6 : Obj) : ∃ W, W = ((((((w.alloc O0).alloc O1).alloc O2).alloc O3).alloc O4).alloc O5).alloc O6 ∧ Below w.heap.size w W ∧
    W.heap[w.heap.size]? = some O0 ∧ W.heap[w.heap.size + 1]? = some O1 ∧ W.heap[w.heap.size + 1 + 1]? = some O2 ∧ W.heap[w.heap.size + 1 + 1 + 1]? = some O3 ∧ W.heap[w.heap.size + 1 + 1 + 1 + 1]? = some O4 ∧ W.heap[w.heap.size + 1 + 1 + 1 + 1 + 1]? = some O5 ∧ W.heap[w.heap.size + 1 + 1 + 1 + 1 + 1 + 1]? = some O6 := by
  refine ⟨_, rfl, ?_, ?_⟩
  · exact (((((((Below.refl _ w).alloc (Nat.le_refl _) O0).alloc (by simp) O1).alloc (by simp; omega) O2).alloc (by simp; omega) O3).alloc (by simp; omega) O4).alloc (by simp; omega) O5).alloc (by simp; omega) O6
  · have e : ∀ (x : World) (O : Obj), (x.alloc O).heap = x.heap.push O := fun _ _ => rfl
    simp only [e, Array.getElem?_push, Array.size_push]
    refine ⟨?_, ?_, ?_, ?_, ?_, ?_, ?_⟩ <;> (repeat (first | rw [if_pos trivial] | rw [if_neg (by omega)]))

set_option maxHeartbeats 400000 in
theorem things_any (w : World) : Calls Tryd.prog 39 #[] w fun e w' => ∃ v0 v1 v2 v3 v4 v5, e = .returned (.agg #[v0, v1, v2, v3, v4, v5]) ∧ Below w.heap.size w w' ∧
    SRead w' v0 [] ∧ SRead w' v1 [dS] ∧ SRead w' v2 [eS] ∧ SRead w' v3 [dS, cS] ∧ SRead w' v4 [dS, kS] ∧ SRead w' v5 [eS, cS] := by
  go_enter Tryd.func39, Tryd.ntmps39
  go_wp2
  obtain ⟨W, hW, hb, h0, h1, h2, h3, h4, h5, h6⟩ := six_blks w (.cells #[.slice (some ⟨w.heap.size + 1, 0, none⟩) 0 0, .slice (some ⟨w.heap.size + 1 + 1, 0, none⟩) 1 1, .slice (some ⟨w.heap.size + 1 + 1 + 1, 0, none⟩) 1 1, .slice (some ⟨w.heap.size + 1 + 1 + 1 + 1, 0, none⟩) 2 2, .slice (some ⟨w.heap.size + 1 + 1 + 1 + 1 + 1, 0, none⟩) 2 2, .slice (some ⟨w.heap.size + 1 + 1 + 1 + 1 + 1 + 1, 0, none⟩) 2 2] 77)
    (.cells #[] 9) (.cells #[.string dS] 9) (.cells #[.string eS] 9) (.cells #[.string dS, .string cS] 9) (.cells #[.string dS, .string kS] 9) (.cells #[.string eS, .string cS] 9)
  have hs : ∀ s ∈ [dS, eS, cS, kS], s.size ≤ 9223372036854775807 := by
    intro s hs; simp at hs; rcases hs with rfl | rfl | rfl | rfl <;> decide
  have hmem : ∀ ss : List ByteArray, (∀ s ∈ ss, s ∈ [dS, eS, cS, kS]) → ∀ s ∈ ss, s.size ≤ 9223372036854775807 := fun ss h s hss => hs s (h s hss)
  have c : ∀ j u, [Value.slice (some ⟨w.heap.size + 1, 0, none⟩) 0 0, .slice (some ⟨w.heap.size + 1 + 1, 0, none⟩) 1 1, .slice (some ⟨w.heap.size + 1 + 1 + 1, 0, none⟩) 1 1, .slice (some ⟨w.heap.size + 1 + 1 + 1 + 1, 0, none⟩) 2 2, .slice (some ⟨w.heap.size + 1 + 1 + 1 + 1 + 1, 0, none⟩) 2 2, .slice (some ⟨w.heap.size + 1 + 1 + 1 + 1 + 1 + 1, 0, none⟩) 2 2][j]? = some u → W.cell? ⟨w.heap.size, j, none⟩ = some u := fun j u hu => by
    rw [cell_of_row W w.heap.size j _ _ _ h0]; simpa using hu
  show bodyPost _ _ _ _ _ (((((((w.alloc _).alloc (.cells #[] 9)).alloc (.cells #[.string dS] 9)).alloc (.cells #[.string eS] 9)).alloc (.cells #[.string dS, .string cS] 9)).alloc (.cells #[.string dS, .string kS] 9)).alloc (.cells #[.string eS, .string cS] 9))
  rw [← hW]
  have c0 := c 0 _ rfl
  have c1 := c 1 _ rfl
  have c2 := c 2 _ rfl
  have c3 := c 3 _ rfl
  have c4 := c 4 _ rfl
  have c5 := c 5 _ rfl
  refine bodyPost_ret (v := .agg #[.slice (some ⟨w.heap.size + 1, 0, none⟩) 0 0, .slice (some ⟨w.heap.size + 1 + 1, 0, none⟩) 1 1, .slice (some ⟨w.heap.size + 1 + 1 + 1, 0, none⟩) 1 1, .slice (some ⟨w.heap.size + 1 + 1 + 1 + 1, 0, none⟩) 2 2, .slice (some ⟨w.heap.size + 1 + 1 + 1 + 1 + 1, 0, none⟩) 2 2, .slice (some ⟨w.heap.size + 1 + 1 + 1 + 1 + 1 + 1, 0, none⟩) 2 2]) (by simp [results, Tryd.results39, go_sem, c0, c1, c2, c3, c4, c5]) rfl ⟨_, _, _, _, _, _, rfl, hb, ?_, ?_, ?_, ?_, ?_, ?_⟩
  · exact sread_blk (ss := []) h1 (by simp) (by simp)
  · exact sread_blk (ss := [dS]) h2 (by simp) (hmem _ (by simp))
  · exact sread_blk (ss := [eS]) h3 (by simp) (hmem _ (by simp))
  · exact sread_blk (ss := [dS, cS]) h4 (by simp) (hmem _ (by simp))
  · exact sread_blk (ss := [dS, kS]) h5 (by simp) (hmem _ (by simp))
  · exact sread_blk (ss := [eS, cS]) h6 (by simp) (hmem _ (by simp))

def Deed.val (a : Deed) : Value := .agg #[.int .u8 a.k, .int .u8 a.i, .int .u8 a.n, .int .u8 a.m]

theorem index_things (v0 v1 v2 v3 v4 v5 : Value) (w : World) :
    (Instr.index 77 (.agg #[v0, v1, v2, v3, v4, v5]) (.int .u8 0)).run Tryd.prog w = .ok v0 w ∧ (Instr.index 77 (.agg #[v0, v1, v2, v3, v4, v5]) (.int .u8 1)).run Tryd.prog w = .ok v1 w ∧
    (Instr.index 77 (.agg #[v0, v1, v2, v3, v4, v5]) (.int .u8 2)).run Tryd.prog w = .ok v2 w ∧ (Instr.index 77 (.agg #[v0, v1, v2, v3, v4, v5]) (.int .u8 3)).run Tryd.prog w = .ok v3 w ∧
    (Instr.index 77 (.agg #[v0, v1, v2, v3, v4, v5]) (.int .u8 4)).run Tryd.prog w = .ok v4 w ∧ (Instr.index 77 (.agg #[v0, v1, v2, v3, v4, v5]) (.int .u8 5)).run Tryd.prog w = .ok v5 w := by
  refine ⟨?_, ?_, ?_, ?_, ?_, ?_⟩ <;> kernel_rfl
theorem index_any {v0 v1 v2 v3 v4 v5 : Value} {w : World} (n : Int) (h0 : 0 ≤ n) (h6 : n < 6) (hb : SRead w v0 [] ∧ SRead w v1 [dS] ∧ SRead w v2 [eS] ∧ SRead w v3 [dS, cS] ∧ SRead w v4 [dS, kS] ∧ SRead w v5 [eS, cS]) :
    ∃ v, (Instr.index 77 (.agg #[v0, v1, v2, v3, v4, v5]) (.int .u8 n)).run Tryd.prog w = .ok v w ∧ SRead w v (thingsL.getD n.toNat []) := by
  obtain ⟨a0, a1, a2, a3, a4, a5⟩ := index_things v0 v1 v2 v3 v4 v5 w
  obtain ⟨b0, b1, b2, b3, b4, b5⟩ := hb
  have : n = 0 ∨ n = 1 ∨ n = 2 ∨ n = 3 ∨ n = 4 ∨ n = 5 := by omega
  rcases this with rfl | rfl | rfl | rfl | rfl | rfl
  · exact ⟨v0, a0, b0⟩
  · exact ⟨v1, a1, b1⟩
  · exact ⟨v2, a2, b2⟩
  · exact ⟨v3, a3, b3⟩
  · exact ⟨v4, a4, b4⟩
  · exact ⟨v5, a5, b5⟩

set_option maxRecDepth 100000 in
set_option maxHeartbeats 1000000 in
theorem of_any (a : Deed) (ha : a.OK) (w : World) : Calls Tryd.prog 34 #[a.val] w fun e w' => ∃ v, e = .returned (.tuple #[.int .i64 a.id, v, .int .i64 a.mode]) ∧ SRead w' v a.names ∧ Below w.heap.size w w' := by
  obtain ⟨⟨k0, k1⟩, ⟨i0, i1⟩, ⟨n0, n1⟩, ⟨m0, m1⟩⟩ := ha
  obtain ⟨k, i, n, m⟩ := a
  simp only at k0 k1 i0 i1 n0 n1 m0 m1
  unfold Deed.val Deed.id Deed.mode Deed.names
  simp only
  have hn6 : 0 ≤ n % 6 := by omega
  have hn7 : n % 6 < 6 := by omega
  go_enter Tryd.func34, Tryd.ntmps34
  go_wp2
  have f1 : (w.alloc (.cells #[.int .u8 k, .int .u8 i, .int .u8 n, .int .u8 m] 69)).drew.cell? ⟨w.heap.size, 1, none⟩ = some (.int .u8 i) := by simp
  have f2 : (w.alloc (.cells #[.int .u8 k, .int .u8 i, .int .u8 n, .int .u8 m] 69)).drew.cell? ⟨w.heap.size, 2, none⟩ = some (.int .u8 n) := by simp
  have f3 : (w.alloc (.cells #[.int .u8 k, .int .u8 i, .int .u8 n, .int .u8 m] 69)).drew.cell? ⟨w.heap.size, 3, none⟩ = some (.int .u8 m) := by simp
  have t1 : i.tmod 12 = i % 12 := Int.tmod_eq_emod_of_nonneg i0
  have t2 : n.tmod 6 = n % 6 := Int.tmod_eq_emod_of_nonneg n0
  have t3 : m.tmod 4 = m % 4 := Int.tmod_eq_emod_of_nonneg m0
  have u1 : IntKind.i64.wrap (i % 12) = i % 12 := IntWalk.i64_in _ (by omega)
  have u2 : IntKind.i64.wrap (m % 4) = m % 4 := IntWalk.i64_in _ (by omega)
  have u3 : IntKind.i64.wrap (m % 4 + 1) = m % 4 + 1 := IntWalk.i64_in _ (by omega)
  go_region_held3 (fun w' => w'.cell? ⟨w.heap.size, 1, none⟩ = some (.int .u8 i) ∧ w'.cell? ⟨w.heap.size, 2, none⟩ = some (.int .u8 n) ∧ w'.cell? ⟨w.heap.size, 3, none⟩ = some (.int .u8 m))
    (first | go_keep | exact ⟨f1, f2, f3⟩ | exact ⟨g1, g2, g3⟩)
    ((go_at_call 39; refine (things_any _).mono ?_; rintro e w2 ⟨v0, v1, v2, v3, v4, v5, rfl, hb, hs⟩; have g1 := bcell hb f1; have g2 := bcell hb f2; have g3 := bcell hb f3; obtain ⟨vx, hix, hsx⟩ := index_any (n % 6) hn6 hn7 hs))
  all_goals
    have HH := Lib.hid (And.intro hsx hb)
    clear hs hix g1 g2 g3 hsx hb t1 t2 t3 u1 u2 u3 f1 f2 f3
    go_wp2
    go_ret3
    exact ⟨_, rfl, HH.out.1, ((Below.refl _ w).alloc (Nat.le_refl _) _).trans ((undrew HH.out.2).mono (by simp))⟩
end Go.Proofs.YteghcgiclpbkdaaDoor
