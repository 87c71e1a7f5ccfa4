/- Entries; law08's Below. -/
import Derived.Test.YtecnjifincahaaaGreatDoorIyA
import Derived.Test.YtecnjifincahaaaGreatDoorIxS
namespace Go.Proofs.YtecnjifincahaaaGreatDoor
open Go.Shelf Go.RowKit Go.Lib

abbrev Ent := BL × Int
def entC (e : Ent) : List Value := [.string (BA e.1), .int .i64 e.2]
def entsC : List Ent → List Value
  | [] => []
  | e :: l => entC e ++ entsC l
theorem entsC_append : ∀ (l m : List Ent), entsC (l ++ m) = entsC l ++ entsC m
  | [], _ => rfl
  | e :: l, m => by rw [List.cons_append, entsC, entsC, entsC_append l m, List.append_assoc]
theorem entsC_len : ∀ (l : List Ent), (entsC l).length = l.length * 2
  | [] => rfl
  | e :: l => by rw [entsC, List.length_append, entsC_len l, List.length_cons]; simp [entC]; omega
theorem entsC_at : ∀ (l : List Ent) (i : Nat) (h : i < l.length), (entsC l)[i * 2]? = some (.string (BA l[i].1)) ∧ (entsC l)[i * 2 + 1]? = some (.int .i64 l[i].2)
  | [], _, h => absurd h (by simp)
  | e :: l, 0, _ => by simp [entsC, entC]
  | e :: l, i + 1, h => by
    have h2 := entsC_at l i (by simpa using h)
    rw [show (i + 1) * 2 = i * 2 + 2 by omega, show i * 2 + 2 + 1 = (i * 2 + 1) + 2 by omega]
    simpa [entsC, entC] using h2
/-- v is a slice that reads as the entries l, in a block below n. -/
def ERead (n : Nat) (w : World) (v : Value) (l : List Ent) : Prop :=
  ∃ a cap, v = .slice a l.length cap ∧ l.length ≤ cap ∧ (0 < l.length → ∃ b off, a = some ⟨b, off, none⟩ ∧ b < n ∧ ∀ i (h : i < l.length), w.cell? ⟨b, off + i * 2, none⟩ = some (.string (BA l[i].1)) ∧ w.cell? ⟨b, off + i * 2 + 1, none⟩ = some (.int .i64 l[i].2))
theorem ERead.later {n : Nat} {w w2 : World} {v : Value} {l : List Ent} (h : ERead n w v l) (hb : Below n w w2) : ERead n w2 v l := by
  obtain ⟨a, cap, rfl, hc, h⟩ := h
  refine ⟨a, cap, rfl, hc, fun hl => ?_⟩
  obtain ⟨b, off, rfl, hbn, hx⟩ := h hl
  exact ⟨b, off, rfl, hbn, fun i hi => ⟨(World.cell?_of_block (hb.block b hbn)).trans (hx i hi).1, (World.cell?_of_block (hb.block b hbn)).trans (hx i hi).2⟩⟩
theorem ERead.mono {n m : Nat} {w : World} {v : Value} {l : List Ent} (h : ERead n w v l) (hm : n ≤ m) : ERead m w v l := by
  obtain ⟨a, cap, rfl, hc, h⟩ := h
  refine ⟨a, cap, rfl, hc, fun hl => ?_⟩
  obtain ⟨b, off, rfl, hbn, hx⟩ := h hl
  exact ⟨b, off, rfl, by omega, hx⟩
theorem ERead.nil (n : Nat) (w : World) : ERead n w (.slice none 0 0) [] := ⟨none, 0, rfl, by simp, fun h => absurd h (by simp)⟩
/-- a row of one's own reads as its entries. -/
theorem eread_of_own {w : World} {B : Nat} {v : Value} {l : List Ent} (h : w.ownsRow B 53 2 v l.length (entsC l)) : ERead w.heap.size w v l := by
  rcases ownsRow_cases h with ⟨rfl, h0, hx⟩ | ⟨g, cap, rfl⟩
  · have : l = [] := List.eq_nil_of_length_eq_zero h0
    subst this
    exact ERead.nil _ _
  · have hcap : l.length ≤ cap := by
      rcases h.2 with ⟨h1, _⟩ | ⟨g2, c2, cur, h1, _, _, h2, _⟩
      · cases h1
      · injection h1 with _ _ h3; rw [h3]; exact h2
    have hh : ∀ i (hi : i < l.length), w.cell? ⟨g, 0 + i * 2, none⟩ = some (.string (BA l[i].1)) ∧ w.cell? ⟨g, 0 + i * 2 + 1, none⟩ = some (.int .i64 l[i].2) := fun i hi => by
      have h2 := entsC_at l i hi
      rw [Nat.zero_add]
      exact ⟨(h.cellAt (i * 2) (by omega)).trans h2.1, (h.cellAt (i * 2 + 1) (by omega)).trans h2.2⟩
    exact ⟨some ⟨g, 0, none⟩, cap, rfl, hcap, fun hl => ⟨g, 0, rfl, World.block_lt_of_cell? w _ (hh 0 hl).1, hh⟩⟩
theorem infoEnt : (Tryz.prog.info? 53).map (fun i => (i.zero, i.size, i.bytes)) = some (some (.agg #[.string ⟨#[]⟩, .int .i64 0]), 2, 24) := by kernel_rfl
/-- one more entry behind a row of one's own. -/
theorem ent_append {base : Nat} {w : World} {v : Value} {l : List Ent} (h : w.ownsRow base 53 2 v l.length (entsC l)) (k : ByteArray) (i : Int) (e : Ent) (he : entC e = [.string k, .int .i64 i]) (hl : l.length ≤ 1000000) (hb : base ≤ w.heap.size) :
    ∃ v' w', (∀ ty, (Builtin.append_ #[46, 46] ty #[v, .slice (some ⟨w.heap.size, 0, none⟩) 1 1]).run Tryz.prog (w.alloc (.cells #[.string k, .int .i64 i] 53)) = .ok v' w') ∧ w'.ownsRow base 53 2 v' (l ++ [e]).length (entsC (l ++ [e])) ∧
      (w.alloc (.cells #[.string k, .int .i64 i] 53)).grownBy w' v.ownBlock ∧ (v'.ownBlock = v.ownBlock ∨ v'.ownBlock = some (w.heap.size + 1)) := by
  obtain ⟨inf, hi, hii⟩ := Option.map_eq_some_iff.1 infoEnt
  simp only [Prod.mk.injEq] at hii
  obtain ⟨i1, i2, i3⟩ := hii
  have hnew : Blk (w.alloc (.cells #[.string k, .int .i64 i] 53)) w.heap.size 53 [.string k, .int .i64 i] := heap_alloc_new w _
  have key := fun ty => run_append_own_at (P := Tryz.prog) (w.alloc (.cells #[.string k, .int .i64 i] 53)) base 46 ty 53 inf _ 2 24 Tryz.underlying46 hi i1 i2 i3 rfl (by decide) v l.length (entsC l) (h.alloc _)
    ⟨w.heap.size, 0, none⟩ 1 1 (entC e) (by simp [entC]) (fun j u hu => by
      rw [show ((⟨w.heap.size, 0, none⟩ : Addr).add j) = ⟨w.heap.size, j, none⟩ by rw [add_at], hnew.cell j, ← he]
      exact hu) (by
      intro u hu
      rw [he] at hu
      simp at hu
      rcases hu with rfl | rfl <;> rfl) (by unfold maxLen; omega) (by omega) (by simp; omega)
  obtain ⟨v', w', hr, ho, hg, _, hat⟩ := key 0
  refine ⟨v', w', fun ty => hr, ?_, hg, ?_⟩
  · rw [List.length_append, entsC_append]
    simpa [entsC] using ho
  · simpa using hat

def entLt (a b : Ent) : Bool := match lcmp a.1 b.1 with
  | .lt => true
  | .eq => decide (a.2 < b.2)
  | .gt => false
set_option maxHeartbeats 2000000 in
set_option maxRecDepth 100000 in
theorem below_any (a b : Ent) (w : World) : Calls Tryz.prog 50 #[.agg #[.string (BA a.1), .int .i64 a.2], .agg #[.string (BA b.1), .int .i64 b.2]] w fun e w' => e = .returned (.bool (entLt a b)) ∧ Below w.heap.size w w' := by
  obtain ⟨W0, hW0⟩ : ∃ W, (w.alloc (.cells #[.string (BA a.1), .int .i64 a.2] 53)).alloc (.cells #[.string (BA b.1), .int .i64 b.2] 53) = W := ⟨_, rfl⟩
  obtain ⟨P0, hP0⟩ : ∃ P, w.heap.size = P := ⟨_, rfl⟩
  have hb0 : Below w.heap.size w W0 := by rw [← hW0]; exact ((Below.refl _ w).alloc (Nat.le_refl _) _).alloc (by simp) _
  have hk0 : Blk W0 P0 53 [.string (BA a.1), .int .i64 a.2] := by rw [← hW0, ← hP0]; exact Blk.alloc (heap_alloc_new w _) _
  have hk1 : Blk W0 (P0 + 1) 53 [.string (BA b.1), .int .i64 b.2] := by rw [← hW0, ← hP0]; exact blk_new2 w _ _ _
  have ht := texts_any (BA a.1) (BA b.1) W0
  rw [show (BA a.1).toList = a.1 by rw [Lib.toList_data], show (BA b.1).toList = b.1 by rw [Lib.toList_data]] at ht
  obtain ⟨A, hA⟩ : ∃ A, BA a.1 = A := ⟨_, rfl⟩
  obtain ⟨B, hB⟩ : ∃ B, BA b.1 = B := ⟨_, rfl⟩
  obtain ⟨x, hx⟩ : ∃ x, a.2 = x := ⟨_, rfl⟩
  obtain ⟨y, hy⟩ : ∃ y, b.2 = y := ⟨_, rfl⟩
  have hlt : entLt a b = match lcmp a.1 b.1 with | .lt => true | .eq => decide (x < y) | .gt => false := by unfold entLt; rw [hx, hy]
  rw [hlt]
  rw [hA, hB] at ht
  rw [hA, hx] at hk0 hW0 ⊢
  rw [hB, hy] at hk1 hW0 ⊢
  obtain ⟨oc, hoc⟩ : ∃ o, lcmp a.1 b.1 = o := ⟨_, rfl⟩
  rw [hoc] at ht ⊢
  have H0 := Lib.hid (And.intro hW0 (And.intro hP0 (And.intro hb0 ht)))
  have c0 := hk0.cell 0
  have c1 := hk0.cell 1
  have d0 := hk1.cell 0
  have d1 := hk1.cell 1
  clear hW0 hP0 hb0 hk0 hk1 ht hA hB hx hy hlt hoc
  cases oc with
  | lt =>
    go_enter Tryz.func50, Tryz.ntmps50
    go_wp2_with fail
    rw [H0.out.1]
    refine (show Calls _ _ _ _ _ from H0.out.2.2.2).mono ?_
    rintro e w2 ⟨rfl, rfl⟩
    rw [H0.out.2.1]
    go_wp2
    go_ret
    exact ⟨rfl, H0.out.2.2.1⟩
  | gt =>
    go_enter Tryz.func50, Tryz.ntmps50
    go_wp2_with fail
    rw [H0.out.1]
    refine (show Calls _ _ _ _ _ from H0.out.2.2.2).mono ?_
    rintro e w2 ⟨rfl, rfl⟩
    rw [H0.out.2.1]
    go_wp2
    go_ret
    exact ⟨rfl, H0.out.2.2.1⟩
  | eq =>
    go_enter Tryz.func50, Tryz.ntmps50
    go_wp2_with fail
    rw [H0.out.1]
    refine (show Calls _ _ _ _ _ from H0.out.2.2.2).mono ?_
    rintro e w2 ⟨rfl, rfl⟩
    rw [H0.out.2.1]
    go_wp2
    go_ret
    exact ⟨by first | rfl | simp, H0.out.2.2.1⟩
end Go.Proofs.YtecnjifincahaaaGreatDoor
