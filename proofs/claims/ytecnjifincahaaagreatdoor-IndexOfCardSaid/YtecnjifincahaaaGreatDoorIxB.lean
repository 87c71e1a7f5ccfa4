/- value.Get. -/
import Derived.Test.YtecnjifincahaaaGreatDoorIxA
namespace Go.Proofs.YtecnjifincahaaaGreatDoor
open Go.Shelf Go.RowKit Go.Lib

theorem put5 {W4 W5 : World} {P : Nat} {e : TypeId} {z0 z1 z2 z3 z4 c0 c1 c2 c3 c4 : Value} (hR : Blk W4 P e [z0, z1, z2, z3, z4])
    (hW : (((((W4.setCell ⟨P, 0, none⟩ (c0)).setCell ⟨P, 1, none⟩ (c1)).setCell ⟨P, 2, none⟩ (c2)).setCell ⟨P, 3, none⟩ (c3)).setCell ⟨P, 4, none⟩ (c4)) = W5) : Blk W5 P e [c0, c1, c2, c3, c4] ∧ Only (fun x => x = P) W4 W5 := by
  refine ⟨?_, ?_⟩
  · rw [← hW]
    exact ((((hR.set 0 c0).set 1 c1).set 2 c2).set 3 c3).set 4 c4
  · rw [← hW]
    exact ((((Only.set1 W4 P 0 _).trans (Only.set1 _ P 1 _)).trans (Only.set1 _ P 2 _)).trans (Only.set1 _ P 3 _)).trans (Only.set1 _ P 4 _)
theorem blk_new2 (w : World) (o : Obj) (cs : List Value) (e : TypeId) : Blk ((w.alloc o).alloc (.cells cs.toArray e)) (w.heap.size + 1) e cs := by
  have h := heap_alloc_new (w.alloc o) (.cells cs.toArray e)
  rw [show (w.alloc o).heap.size = w.heap.size + 1 by simp] at h
  exact h
/-- a value, or none. -/
def OptV (S : Nat → Prop) (w : World) (r : Option V) (e : Ending) (w' : World) : Prop := match r with
  | some x => ∃ d, e = .returned (.tuple #[.agg d.toArray, .bool true]) ∧ VAt S w' x d ∧ Below w.heap.size w w'
  | none => e = .returned (.tuple #[.agg #[.int .i64 0, .int .i64 0, .string ⟨#[]⟩, .slice none 0 0, .slice none 0 0], .bool false]) ∧ Below w.heap.size w w'
def getP : V → BL → Option V
  | .obj l, p => fieldP l p
  | _, _ => none
theorem getP_place (v : V) (p : BL) (h : placeF v p = none) : getP v p = none := by
  cases v with
  | obj l =>
    have h1 : idxP l p 0 = none := h
    show fieldP l p = none
    rw [idxP_field l p 0, h1]; rfl
  | _ => rfl

set_option maxHeartbeats 8000000 in
set_option maxRecDepth 100000 in
theorem vget_none (v : V) (nm : BL) (S : Nat → Prop) (w : World) (c : List Value) (hv : VAt S w v c) (hn : placeF v nm = none) :
    Calls Tryz.prog 87 #[.agg c.toArray, .string (BA nm)] w fun e w' => e = .returned (.tuple #[.agg #[.int .i64 0, .int .i64 0, .string ⟨#[]⟩, .slice none 0 0, .slice none 0 0], .bool false]) ∧ Below w.heap.size w w' := by
  have hcall0 := fun (W : World) (hb : Below w.heap.size w W) => vat_any v nm S W c (hv.later hb)
  rw [hn, show idxI none = -1 from rfl] at hcall0
  obtain ⟨q0, q1, q2, q3, q4, q5, q6, q7, q8, rfl⟩ := hv.shape
  obtain ⟨W0, hW0⟩ : ∃ W0, (w.alloc (.cells #[.int .i64 q0, .int .i64 q1, .string q2, .slice q3 q4 q5, .slice q6 q7 q8] 40)).alloc (.cells #[.int .i64 0, .int .i64 0, .string ⟨#[]⟩, .slice none 0 0, .slice none 0 0] 40) = W0 := ⟨_, rfl⟩
  have hb0 : Below w.heap.size w W0 := by rw [← hW0]; exact ((Below.refl _ w).alloc (Nat.le_refl _) _).alloc (by simp) _
  have hk1 : Blk W0 (w.heap.size + 1) 40 [.int .i64 0, .int .i64 0, .string ⟨#[]⟩, .slice none 0 0, .slice none 0 0] := by rw [← hW0]; exact blk_new2 w _ _ _
  have hcall := hcall0 W0 hb0
  obtain ⟨P, hP⟩ : ∃ P, w.heap.size + 1 = P := ⟨_, rfl⟩
  rw [hP] at hk1
  have H0 := Lib.hid (And.intro hW0 (And.intro hb0 (And.intro hcall (And.intro hk1 hP))))
  clear hW0 hb0 hk1 hcall hcall0 hv hn hP
  go_enter Tryz.func87, Tryz.ntmps87
  go_wp2_with fail
  rw [H0.out.1]
  refine (show Calls _ _ _ _ _ from H0.out.2.2.1).mono ?_
  rintro e w2 ⟨rfl, hb2⟩
  have hk2 := H0.out.2.2.2.1.below hb2
  rw [H0.out.2.2.2.2]
  obtain ⟨W5, hW5⟩ : ∃ W5, (((((w2.setCell ⟨P, 0, none⟩ (.int .i64 0)).setCell ⟨P, 1, none⟩ (.int .i64 0)).setCell ⟨P, 2, none⟩ (.string ⟨#[]⟩)).setCell ⟨P, 3, none⟩ (.slice none 0 0)).setCell ⟨P, 4, none⟩ (.slice none 0 0)) = W5 := ⟨_, rfl⟩
  have hp5 := put5 hk2 hW5
  have hfin : Below w.heap.size w W5 := (H0.out.2.1.trans (hb2.mono H0.out.2.1.size)).trans (hp5.2.below (Nat.le_trans H0.out.2.1.size hb2.size) (fun k hk e => by have := H0.out.2.2.2.2; omega))
  have HF := Lib.hid (And.intro hW5 (And.intro hp5.1 hfin))
  have r0 := hk2.cell 0
  have r1 := hk2.cell 1
  have r2 := hk2.cell 2
  have r3 := hk2.cell 3
  have r4 := hk2.cell 4
  have s0 := hk2.frozen 0
  have s1 := hk2.frozen 1
  have s2 := hk2.frozen 2
  have s3 := hk2.frozen 3
  have s4 := hk2.frozen 4
  clear hW5 hp5 hfin hk2 hb2
  go_wp2
  rw [HF.out.1]
  have z0 := HF.out.2.1.cell 0
  have z1 := HF.out.2.1.cell 1
  have z2 := HF.out.2.1.cell 2
  have z3 := HF.out.2.1.cell 3
  have z4 := HF.out.2.1.cell 4
  (try simp only [Exit.inBlock, Exit.then])
  refine bodyPost_ret (v := .tuple #[.agg #[.int .i64 0, .int .i64 0, .string ⟨#[]⟩, .slice none 0 0, .slice none 0 0], .bool false]) ?_ rfl ⟨rfl, HF.out.2.2⟩
  rw [results_cell_tmp rfl]
  go_simp

set_option maxHeartbeats 8000000 in
set_option maxRecDepth 100000 in
theorem vget_some (l : List (BL × V)) (nm : BL) (k : Nat) (hk : k < l.length) (S : Nat → Prop) (w : World) (c : List Value) (hv : VAt S w (.obj l) c) (hn : placeF (.obj l) nm = some k) :
    Calls Tryz.prog 87 #[.agg c.toArray, .string (BA nm)] w fun e w' => ∃ d, e = .returned (.tuple #[.agg d.toArray, .bool true]) ∧ VAt S w' l[k].2 d ∧ Below w.heap.size w w' := by
  have hcall0 := fun (W : World) (hb : Below w.heap.size w W) => vat_any (.obj l) nm S W c (hv.later hb)
  rw [hn, show idxI (some k) = (k : Int) from rfl] at hcall0
  cases hv with
  | obj l cs sl hV hr =>
    have hln := hr.1
    obtain ⟨p, cap, rfl, hp⟩ := row_form hr
    obtain ⟨b, rfl, hrb⟩ := hp (by omega)
    obtain ⟨g0, g1, g2, g3, g4, hx, e5, e0, e1, e2, e3, e4⟩ := hV.get k hk
    obtain ⟨d0, d1, d2, d3, d4, d5, d6, d7, d8, hq⟩ := hx.shape
    simp only [List.cons.injEq, and_true] at hq
    obtain ⟨rfl, rfl, rfl, rfl, rfl⟩ := hq
    obtain ⟨W0, hW0⟩ : ∃ W0, (w.alloc (.cells #[.int .i64 5, .int .i64 0, .string ⟨#[]⟩, .slice none 0 0, .slice (some ⟨b, 0, none⟩) l.length cap] 40)).alloc (.cells #[.int .i64 0, .int .i64 0, .string ⟨#[]⟩, .slice none 0 0, .slice none 0 0] 40) = W0 := ⟨_, rfl⟩
    have hb0 : Below w.heap.size w W0 := by rw [← hW0]; exact ((Below.refl _ w).alloc (Nat.le_refl _) _).alloc (by simp) _
    have hk1 : Blk W0 (w.heap.size + 1) 40 [.int .i64 0, .int .i64 0, .string ⟨#[]⟩, .slice none 0 0, .slice none 0 0] := by rw [← hW0]; exact blk_new2 w _ _ _
    have hk0 : Blk W0 w.heap.size 40 [.int .i64 5, .int .i64 0, .string ⟨#[]⟩, .slice none 0 0, .slice (some ⟨b, 0, none⟩) l.length cap] := by rw [← hW0]; exact Blk.alloc (heap_alloc_new w _) _
    have hcall := hcall0 W0 hb0
    obtain ⟨N, hN⟩ : ∃ N, l.length = N := ⟨_, rfl⟩
    rw [hN] at hln hcall hW0 hk0
    have hkN : (k : Int) < (N : Int) := by omega
    have hk0z : (0 : Int) ≤ (k : Int) := by omega
    rw [hN]
    obtain ⟨P, hP⟩ : ∃ P, w.heap.size + 1 = P := ⟨_, rfl⟩
    rw [hP] at hk1
    have H0 := Lib.hid (And.intro hW0 (And.intro hb0 (And.intro hcall (And.intro hk1 (And.intro hP (And.intro hk0 (And.intro hx (And.intro (hrb _ _ e0) (And.intro (hrb _ _ e1) (And.intro (hrb _ _ e2) (And.intro (hrb _ _ e3) (hrb _ _ e4))))))))))))
    clear hW0 hb0 hk1 hcall hcall0 hn hP hk0 hV hr hp hrb hx e0 e1 e2 e3 e4 e5 hN
    go_enter Tryz.func87, Tryz.ntmps87
    go_wp2_with fail
    rw [H0.out.1]
    refine (show Calls _ _ _ _ _ from H0.out.2.2.1).mono ?_
    rintro e w2 ⟨rfl, hb2⟩
    have hk2 := H0.out.2.2.2.1.below hb2
    have hbx := H0.out.2.2.2.2.2.1.below hb2
    have hbw := H0.out.2.1.trans (hb2.mono H0.out.2.1.size)
    rw [H0.out.2.2.2.2.1]
    obtain ⟨W5, hW5⟩ : ∃ W5, (((((w2.setCell ⟨P, 0, none⟩ (.int .i64 d0)).setCell ⟨P, 1, none⟩ (.int .i64 d1)).setCell ⟨P, 2, none⟩ (.string d2)).setCell ⟨P, 3, none⟩ (.slice d3 d4 d5)).setCell ⟨P, 4, none⟩ (.slice d6 d7 d8)) = W5 := ⟨_, rfl⟩
    have hp5 := put5 hk2 hW5
    have hfin : Below w.heap.size w W5 := hbw.trans (hp5.2.below (Nat.le_trans H0.out.2.1.size hb2.size) (fun k hk e => by have := H0.out.2.2.2.2.1; omega))
    have HF := Lib.hid (And.intro hW5 (And.intro hp5.1 (And.intro hfin (H0.out.2.2.2.2.2.2.1.later hfin))))
    have b4 := hbx.cell 4
    have a0 := bcell hbw H0.out.2.2.2.2.2.2.2.1
    have a1 := bcell hbw H0.out.2.2.2.2.2.2.2.2.1
    have a2 := bcell hbw H0.out.2.2.2.2.2.2.2.2.2.1
    have a3 := bcell hbw H0.out.2.2.2.2.2.2.2.2.2.2.1
    have a4 := bcell hbw H0.out.2.2.2.2.2.2.2.2.2.2.2
    have r0 := hk2.cell 0
    have r1 := hk2.cell 1
    have r2 := hk2.cell 2
    have r3 := hk2.cell 3
    have r4 := hk2.cell 4
    have s0 := hk2.frozen 0
    have s1 := hk2.frozen 1
    have s2 := hk2.frozen 2
    have s3 := hk2.frozen 3
    have s4 := hk2.frozen 4
    have hkn : ¬ (k : Int) < 0 := by omega
    clear hW5 hp5 hfin hk2 hb2 hbx hbw
    go_wp2
    rw [HF.out.1]
    have z0 := HF.out.2.1.cell 0
    have z1 := HF.out.2.1.cell 1
    have z2 := HF.out.2.1.cell 2
    have z3 := HF.out.2.1.cell 3
    have z4 := HF.out.2.1.cell 4
    (try simp only [Exit.inBlock, Exit.then])
    refine bodyPost_ret (v := .tuple #[.agg #[.int .i64 d0, .int .i64 d1, .string d2, .slice d3 d4 d5, .slice d6 d7 d8], .bool true]) ?_ rfl ⟨[.int .i64 d0, .int .i64 d1, .string d2, .slice d3 d4 d5, .slice d6 d7 d8], rfl, HF.out.2.2.2, HF.out.2.2.1⟩
    rw [results_cell_tmp rfl]
    go_simp

theorem vget_any (v : V) (nm : BL) (S : Nat → Prop) (w : World) (c : List Value) (hv : VAt S w v c) : Calls Tryz.prog 87 #[.agg c.toArray, .string (BA nm)] w (OptV S w (getP v nm)) := by
  cases hp : placeF v nm with
  | none =>
    refine (vget_none v nm S w c hv hp).mono ?_
    intro e w' h
    rw [getP_place v nm hp]
    exact h
  | some k =>
    cases v with
    | obj l =>
      have hl := idxP_lt l nm 0 k hp
      have hk : k < l.length := by omega
      refine (vget_some l nm k hk S w c hv hp).mono ?_
      intro e w' h
      have e1 : getP (.obj l) nm = some l[k].2 := by
        show fieldP l nm = _
        rw [idxP_field l nm 0, show idxP l nm 0 = some k from hp]
        simp [hk]
      rw [e1]
      exact h
    | _ => cases hp
end Go.Proofs.YtecnjifincahaaaGreatDoor
