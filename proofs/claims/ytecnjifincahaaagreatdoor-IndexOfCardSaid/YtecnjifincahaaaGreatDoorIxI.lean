/- The law's Find. -/
import Derived.Test.YtecnjifincahaaaGreatDoorIxH
namespace Go.Proofs.YtecnjifincahaaaGreatDoor
open Go.Shelf Go.RowKit Go.Lib

theorem placeFrom_lt : ∀ (p : BL) (k i j : Nat), placeFrom p i k = some j → j < i + k
  | p, 0, i, j, h => by cases h
  | p, k + 1, i, j, h => by
    unfold placeFrom at h
    split at h
    · have := Option.some.inj h; omega
    · have := placeFrom_lt p k (i + 1) j h; omega
theorem small_stepL {v x : V} {p : BL} (h : smallV v) (e : stepP placeL v p = some x) : smallV x := by
  cases v with
  | list l =>
    rw [smallV] at h
    have e2 : (placeL p l.length).bind (fun k => l[k]?) = some x := e
    cases hk : placeL p l.length with
    | none => rw [hk] at e2; cases e2
    | some k => rw [hk] at e2; exact smallVs_get h.2 e2
  | obj l =>
    rw [smallV] at h
    exact smallFs_get h e
  | _ => cases e

/-- what holds at the head of Find's loop. -/
structure FindLAt (S : Nat → Prop) (w wr : World) (v : V) (ps : List BL) (i : Nat) (x : V) (c : List Value) : Prop where
  fnd : findP placeL v (ps.take i) = some x
  blk : Blk wr w.heap.size 40 c
  val : VAt S wr x c
  res : Blk wr (w.heap.size + 1) 40 [.int .i64 0, .int .i64 0, .string ⟨#[]⟩, .slice none 0 0, .slice none 0 0]
  bel : Below w.heap.size w wr
  top : w.heap.size + 2 ≤ wr.heap.size
  small : smallV x

set_option maxHeartbeats 16000000 in
set_option maxRecDepth 100000 in
theorem lfind_any (v : V) (ps : List BL) (hps : ∀ p ∈ ps, p.length ≤ 1000000) (hs : smallV v) (S : Nat → Prop) (w : World) (c : List Value) (sl : Value) (hv : VAt S w v c) (hS : ∀ b, S b → b < w.heap.size) (hP : PRead w sl ps) :
    Calls Tryz.prog 43 #[.agg c.toArray, sl] w (OptV S w (findP placeL v ps)) := by
  obtain ⟨hn, g, cap, rfl, hg⟩ := hP
  obtain ⟨q0, q1, q2, q3, q4, q5, q6, q7, q8, rfl⟩ := hv.shape
  obtain ⟨W0, hW0⟩ : ∃ W0, (w.alloc (.cells #[.int .i64 q0, .int .i64 q1, .string q2, .slice q3 q4 q5, .slice q6 q7 q8] 40)).alloc (.cells #[.int .i64 0, .int .i64 0, .string ⟨#[]⟩, .slice none 0 0, .slice none 0 0] 40) = W0 := ⟨_, rfl⟩
  have hb0 : Below w.heap.size w W0 := by rw [← hW0]; exact ((Below.refl _ w).alloc (Nat.le_refl _) _).alloc (by simp) _
  have hst : FindLAt S w W0 v ps 0 v [.int .i64 q0, .int .i64 q1, .string q2, .slice q3 q4 q5, .slice q6 q7 q8] := ⟨rfl, by rw [← hW0]; exact Blk.alloc (heap_alloc_new w _) _, hv.later hb0, by rw [← hW0]; exact blk_new2 w _ _ _, hb0, by rw [← hW0]; simp, hs⟩
  obtain ⟨n, hnn⟩ : ∃ n, ps.length = n := ⟨_, rfl⟩
  rw [hnn] at hn
  rw [hnn]
  obtain ⟨P0, hP0⟩ : ∃ P, w.heap.size = P := ⟨_, rfl⟩
  have H0 := Lib.hid (And.intro hW0 (And.intro hst (And.intro hg (And.intro hnn (And.intro hps (And.intro hS (And.intro True.intro hP0)))))))
  clear hW0 hb0 hst hg hnn hps hS hv hs hP0
  go_enter Tryz.func43, Tryz.ntmps43
  go_wp2_with fail
  rw [H0.out.1]
  rw [H0.out.2.2.2.2.2.2.2]
  go_loopg [12] n (fun gk iv wr => ∃ (i : Nat) (x : V) (c : List Value), gk + i = n ∧ iv = .int .i64 i ∧ Hid (FindLAt S w wr v ps i x c))
  case atStart => exact ⟨0, v, _, by omega, rfl, Lib.hid H0.out.2.1⟩
  case round =>
    obtain ⟨i, x, c, hgi, rfl, HF0⟩ := hrel
    obtain ⟨q0, q1, q2, q3, q4, q5, q6, q7, q8, rfl⟩ := HF0.out.val.shape
    have v0 := HF0.out.blk.cell 0
    have v1 := HF0.out.blk.cell 1
    have v2 := HF0.out.blk.cell 2
    have v3 := HF0.out.blk.cell 3
    have v4 := HF0.out.blk.cell 4
    by_cases hi : i < n
    · have hiz : (i : Int) < (n : Int) := by omega
      have hwK : IntKind.i64.wrap ((i : Int) + 1) = ((i + 1 : Nat) : Int) := by rw [IntWalk.i64_in _ (by omega)]; omega
      have hil : i < ps.length := by rw [H0.out.2.2.2.1]; exact hi
      have hpc := bcell HF0.out.bel (H0.out.2.2.1 i hil)
      have hcall := at_any x ps[i] S wr _ HF0.out.val (fun b hb => Nat.lt_of_lt_of_le (H0.out.2.2.2.2.2.1 b hb) HF0.out.bel.size) (fun l e => by have h := HF0.out.small; rw [e, smallV] at h; exact h.1)
      obtain ⟨nm, hnm⟩ : ∃ nm, BA ps[i] = nm := ⟨_, rfl⟩
      rw [hnm] at hpc hcall
      have hspl := findP_split placeL v ps i
      rw [HF0.out.fnd, List.drop_eq_getElem_cons hil, Option.bind_some, findP] at hspl
      have htk : findP placeL v (ps.take (i + 1)) = (stepP placeL x ps[i]) := by
        rw [List.take_succ_eq_append_getElem hil, findP_snoc, HF0.out.fnd]; rfl
      cases hr : stepP placeL x ps[i] with
      | none =>
        rw [hr] at hcall hspl htk
        have HR := Lib.hid (show findP placeL v ps = none from hspl)
        have HC := Lib.hid (show Calls _ _ _ _ (fun e w' => e = .returned (.tuple #[.agg #[.int .i64 0, .int .i64 0, .string ⟨#[]⟩, .slice none 0 0, .slice none 0 0], .bool false]) ∧ Below wr.heap.size wr w') from hcall)
        clear hcall hspl htk hr hnm
        rw [H0.out.2.2.2.2.2.2.2] at v0 v1 v2 v3 v4
        (try rw [H0.out.2.2.2.2.2.2.2])
        go_wp2_with fail
        refine HC.out.mono ?_
        rintro e w2 ⟨rfl, hb2⟩
        have hres := (HF0.out.res.below hb2).alloc (.cells #[.int .i64 0, .int .i64 0, .string ⟨#[]⟩, .slice none 0 0, .slice none 0 0] 40)
        have hbw := HF0.out.bel.trans (hb2.mono HF0.out.bel.size)
        obtain ⟨P, hPe⟩ : ∃ P, w.heap.size + 1 = P := ⟨_, rfl⟩
        rw [hPe] at hres
        rw [H0.out.2.2.2.2.2.2.2] at hPe
        (try rw [hPe])
        obtain ⟨w3, hw3⟩ : ∃ w3, w2.alloc (.cells #[.int .i64 0, .int .i64 0, .string ⟨#[]⟩, .slice none 0 0, .slice none 0 0] 40) = w3 := ⟨_, rfl⟩
        rw [hw3] at hres
        have hbw3 : Below w.heap.size w w3 := by rw [← hw3]; exact hbw.alloc hbw.size _
        obtain ⟨W5, hW5⟩ : ∃ W5, (((((w3.setCell ⟨P, 0, none⟩ (.int .i64 0)).setCell ⟨P, 1, none⟩ (.int .i64 0)).setCell ⟨P, 2, none⟩ (.string ⟨#[]⟩)).setCell ⟨P, 3, none⟩ (.slice none 0 0)).setCell ⟨P, 4, none⟩ (.slice none 0 0)) = W5 := ⟨_, rfl⟩
        have hp5 := put5 hres hW5
        have hfin : Below w.heap.size w W5 := hbw3.trans (hp5.2.below hbw3.size (fun k hk e => by have := H0.out.2.2.2.2.2.2.2; omega))
        rw [← hw3] at hW5
        have HF := Lib.hid (And.intro hW5 (And.intro hp5.1 hfin))
        rw [← hw3] at hres
        have r0 := hres.cell 0
        have s0 := hres.frozen 0
        have r1 := hres.cell 1
        have s1 := hres.frozen 1
        have r2 := hres.cell 2
        have s2 := hres.frozen 2
        have r3 := hres.cell 3
        have s3 := hres.frozen 3
        have r4 := hres.cell 4
        have s4 := hres.frozen 4
        clear hW5 hp5 hfin hres hb2 hbw hbw3 v0 v1 v2 v3 v4 hw3 hPe hpc
        go_wp2
        rw [HF.out.1]
        have z0 := HF.out.2.1.cell 0
        have z1 := HF.out.2.1.cell 1
        have z2 := HF.out.2.1.cell 2
        have z3 := HF.out.2.1.cell 3
        have z4 := HF.out.2.1.cell 4
        (try simp only [Exit.inBlock, Exit.then])
        refine bodyPost_ret (v := .tuple #[.agg #[.int .i64 0, .int .i64 0, .string ⟨#[]⟩, .slice none 0 0, .slice none 0 0], .bool false]) ?_ rfl (by rw [HR.out]; exact ⟨rfl, HF.out.2.2⟩)
        rw [results_cell_tmp rfl]
        go_simp
      | some y =>
        rw [hr] at hcall hspl htk
        have HR := Lib.hid htk
        have HC := Lib.hid (show Calls _ _ _ _ (fun e w' => ∃ d, e = .returned (.tuple #[.agg d.toArray, .bool true]) ∧ VAt S w' y d ∧ Below wr.heap.size wr w') from hcall)
        have HSM := Lib.hid (small_stepL HF0.out.small hr)
        clear hcall hspl htk hr hnm
        rw [H0.out.2.2.2.2.2.2.2] at v0 v1 v2 v3 v4
        (try rw [H0.out.2.2.2.2.2.2.2])
        go_wp2_with fail
        refine HC.out.mono ?_
        rintro e w2 ⟨d, rfl, hd, hb2⟩
        obtain ⟨d0, d1, d2, d3, d4, d5, d6, d7, d8, rfl⟩ := hd.shape
        have hbw := HF0.out.bel.trans (hb2.mono HF0.out.bel.size)
        obtain ⟨w3, hw3⟩ : ∃ w3, w2.alloc (.cells #[.int .i64 d0, .int .i64 d1, .string d2, .slice d3 d4 d5, .slice d6 d7 d8] 40) = w3 := ⟨_, rfl⟩
        have hb23 : Below w2.heap.size w2 w3 := by rw [← hw3]; exact (Below.refl _ w2).alloc (Nat.le_refl _) _
        have hblk := (HF0.out.blk.below hb2).below hb23
        have hres := (HF0.out.res.below hb2).below hb23
        rw [H0.out.2.2.2.2.2.2.2] at hblk
        obtain ⟨W5, hW5⟩ : ∃ W5, (((((w3.setCell ⟨P0, 0, none⟩ (.int .i64 d0)).setCell ⟨P0, 1, none⟩ (.int .i64 d1)).setCell ⟨P0, 2, none⟩ (.string d2)).setCell ⟨P0, 3, none⟩ (.slice d3 d4 d5)).setCell ⟨P0, 4, none⟩ (.slice d6 d7 d8)) = W5 := ⟨_, rfl⟩
        have hp5 := put5 hblk hW5
        have hbb : Below w.heap.size w3 W5 := hp5.2.below (by have := hbw.size; have := hb23.size; omega) (fun k hk e => by have := H0.out.2.2.2.2.2.2.2; omega)
        have hbw5 := (hbw.trans (hb23.mono hbw.size)).trans hbb
        have hnew : FindLAt S w W5 v ps (i + 1) y [.int .i64 d0, .int .i64 d1, .string d2, .slice d3 d4 d5, .slice d6 d7 d8] := by
          refine ⟨HR.out, by rw [H0.out.2.2.2.2.2.2.2]; exact hp5.1, VAt.low H0.out.2.2.2.2.2.1 hbb (hd.later hb23), hres.only hp5.2 (by rw [H0.out.2.2.2.2.2.2.2]; omega), hbw5, ?_, HSM.out⟩
          have := HF0.out.top
          have h1 := hb2.size
          have h2 := hb23.size
          have h3 := hp5.2.size
          omega
        have HNEW := Lib.hid (And.intro hnew hW5)
        have r0 := hblk.cell 0
        have s0 := hblk.frozen 0
        have r1 := hblk.cell 1
        have s1 := hblk.frozen 1
        have r2 := hblk.cell 2
        have s2 := hblk.frozen 2
        have r3 := hblk.cell 3
        have s3 := hblk.frozen 3
        have r4 := hblk.cell 4
        have s4 := hblk.frozen 4
        rw [← hw3] at r0 r1 r2 r3 r4 s0 s1 s2 s3 s4
        have hW6 := hW5
        rw [← hw3] at hW6
        have HW6 := Lib.hid hW6
        clear hW5 hW6 hp5 hbb hbw5 hnew hblk hres hb2 hb23 hbw hd hw3 v0 v1 v2 v3 v4 hpc
        go_wp2
        rw [HW6.out]
        go_roundg (gk - 1)
        case rel => exact ⟨i + 1, y, _, by omega, rfl, Lib.hid HNEW.out.1⟩
        case measure => omega
    · have hiz : ¬ (i : Int) < (n : Int) := by omega
      have hie : i = ps.length := by rw [H0.out.2.2.2.1]; omega
      have hfnd := HF0.out.fnd
      rw [hie, List.take_length] at hfnd
      have HR := Lib.hid hfnd
      have hres := HF0.out.res
      obtain ⟨P, hPe⟩ : ∃ P, w.heap.size + 1 = P := ⟨_, rfl⟩
      rw [hPe] at hres
      rw [H0.out.2.2.2.2.2.2.2] at hPe v0 v1 v2 v3 v4
      (try rw [H0.out.2.2.2.2.2.2.2])
      (try rw [hPe])
      obtain ⟨W5, hW5⟩ : ∃ W5, (((((wr.setCell ⟨P, 0, none⟩ (.int .i64 q0)).setCell ⟨P, 1, none⟩ (.int .i64 q1)).setCell ⟨P, 2, none⟩ (.string q2)).setCell ⟨P, 3, none⟩ (.slice q3 q4 q5)).setCell ⟨P, 4, none⟩ (.slice q6 q7 q8)) = W5 := ⟨_, rfl⟩
      have hp5 := put5 hres hW5
      have hbb : Below w.heap.size wr W5 := hp5.2.below HF0.out.bel.size (fun k hk e => by have := H0.out.2.2.2.2.2.2.2; omega)
      have HF := Lib.hid (And.intro hW5 (And.intro hp5.1 (And.intro (HF0.out.bel.trans hbb) (VAt.low H0.out.2.2.2.2.2.1 hbb HF0.out.val))))
      have r0 := hres.cell 0
      have s0 := hres.frozen 0
      have r1 := hres.cell 1
      have s1 := hres.frozen 1
      have r2 := hres.cell 2
      have s2 := hres.frozen 2
      have r3 := hres.cell 3
      have s3 := hres.frozen 3
      have r4 := hres.cell 4
      have s4 := hres.frozen 4
      clear hW5 hp5 hbb hres hfnd hie hPe
      go_wp2
      rw [HF.out.1]
      have z0 := HF.out.2.1.cell 0
      have z1 := HF.out.2.1.cell 1
      have z2 := HF.out.2.1.cell 2
      have z3 := HF.out.2.1.cell 3
      have z4 := HF.out.2.1.cell 4
      (try simp only [Exit.inBlock, Exit.then])
      refine bodyPost_ret (v := .tuple #[.agg #[.int .i64 q0, .int .i64 q1, .string q2, .slice q3 q4 q5, .slice q6 q7 q8], .bool true]) ?_ rfl (by rw [HR.out]; exact ⟨_, rfl, HF.out.2.2.2, HF.out.2.2.1⟩)
      rw [results_cell_tmp rfl]
      go_simp
end Go.Proofs.YtecnjifincahaaaGreatDoor
