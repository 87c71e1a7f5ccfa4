/- path.step and path.Find at any value. -/
import Derived.Test.YtecnjifincahaaaGreatDoorIxD
namespace Go.Proofs.YtecnjifincahaaaGreatDoor
open Go.Shelf Go.RowKit Go.Lib

theorem VAt.low {S : Nat → Prop} {B : Nat} {w1 w2 : World} {v : V} {c : List Value} (hS : ∀ b, S b → b < B) (hb : Below B w1 w2) (h : VAt S w1 v c) : VAt S w2 v c :=
  VAt.keep (fun _ h => h) (fun b hs k u hu => by rw [World.cell?_of_block (show w2.heap[b]? = w1.heap[b]? from hb.block b (hS b hs))]; exact hu) h
mutual
def smallV : V → Prop
  | .list l => l.length ≤ 10 ∧ smallVs l
  | .obj l => smallFs l
  | _ => True
def smallVs : List V → Prop
  | [] => True
  | v :: l => smallV v ∧ smallVs l
def smallF : BL × V → Prop
  | (_, v) => smallV v
def smallFs : List (BL × V) → Prop
  | [] => True
  | f :: l => smallF f ∧ smallFs l
end
theorem smallVs_get : ∀ {l : List V} {k : Nat} {x : V}, smallVs l → l[k]? = some x → smallV x
  | v :: l, 0, x, h, e => by
    rw [smallVs] at h
    simp at e; subst e; exact h.1
  | v :: l, k + 1, x, h, e => by
    rw [smallVs] at h
    rw [List.getElem?_cons_succ] at e
    exact smallVs_get h.2 e
theorem smallFs_get : ∀ {l : List (BL × V)} {p : BL} {x : V}, smallFs l → fieldP l p = some x → smallV x
  | (n, v) :: l, p, x, h, e => by
    rw [smallFs, smallF] at h
    unfold fieldP at e
    split at e
    · have := Option.some.inj e; simp only at this; rw [← this]; exact h.1
    · exact smallFs_get h.2 e
theorem small_step {v x : V} {p : BL} (h : smallV v) (e : stepP placeK v p = some x) : smallV x := by
  cases v with
  | list l =>
    rw [smallV] at h
    have e2 : (placeK p l.length).bind (fun k => l[k]?) = some x := e
    cases hk : placeK p l.length with
    | none => rw [hk] at e2; cases e2
    | some k => rw [hk] at e2; exact smallVs_get h.2 e2
  | obj l =>
    rw [smallV] at h
    exact smallFs_get h e
  | _ => cases e

theorem pstep_any (v : V) (p : BL) (hp : p.length ≤ 1000000) (hs : smallV v) (S : Nat → Prop) (w : World) (c : List Value) (hv : VAt S w v c) (hS : ∀ b, S b → b < w.heap.size) (hE : ErrV w) :
    Calls Tryz.prog 62 #[.agg c.toArray, .string (BA p)] w (OptV S w (stepP placeK v p)) := by
  by_cases hl : ∃ l, v = .list l
  · obtain ⟨l, rfl⟩ := hl
    rw [smallV] at hs
    cases hv with
    | list l cs sl hV hr =>
      obtain ⟨q, cap, rfl, hq⟩ := row_form hr
      have hpl := fun (W : World) (hb : Below w.heap.size w W) => place_any p q l.length cap (by have := hs.1; omega) hp W (hE.later hb)
      cases hk : placeK p l.length with
      | none =>
        rw [hk, show idxI none = -1 from rfl] at hpl
        refine (step_list0 q l.length cap (BA p) w hpl).mono ?_
        intro e w' h
        have e1 : stepP placeK (.list l) p = none := by show (placeK p l.length).bind (fun k => l[k]?) = none; rw [hk]; rfl
        rw [e1]
        exact h
      | some k =>
        rw [hk, show idxI (some k) = (k : Int) from rfl] at hpl
        have hkl := placeK_lt hk
        obtain ⟨b, rfl, hrb⟩ := hq (by omega)
        obtain ⟨g0, g1, g2, g3, g4, hx, e0, e1, e2, e3, e4⟩ := hV.get k hkl
        obtain ⟨d0, d1, d2, d3, d4, d5, d6, d7, d8, hq2⟩ := hx.shape
        simp only [List.cons.injEq, and_true] at hq2
        obtain ⟨rfl, rfl, rfl, rfl, rfl⟩ := hq2
        refine (step_list1 b l.length cap k hkl d0 d1 d2 d3 d4 d5 d6 d7 d8 (BA p) w (hrb _ _ e0) (hrb _ _ e1) (hrb _ _ e2) (hrb _ _ e3) (hrb _ _ e4) hpl).mono ?_
        rintro e w' ⟨rfl, hb⟩
        have e1 : stepP placeK (.list l) p = some l[k] := by show (placeK p l.length).bind (fun k => l[k]?) = some l[k]; rw [hk]; simp [hkl]
        rw [e1]
        exact ⟨_, rfl, hx.later hb, hb⟩
  · have hst : stepP placeK v p = getP v p := by
      cases v with
      | list l => exact absurd ⟨l, rfl⟩ hl
      | obj l => rfl
      | _ => rfl
    rw [hst]
    have hget := fun (W : World) (hb : Below w.heap.size w W) => vget_any v p S W c (hv.later hb)
    have hsh := hv.shape
    have hk4 : ∀ k n s p1 l1 c1 p2 l2 c2, c = [.int .i64 k, .int .i64 n, .string s, .slice p1 l1 c1, .slice p2 l2 c2] → ¬ k = 4 := by
      intro k n s p1 l1 c1 p2 l2 c2 e
      cases hv with
      | list l cs sl h1 h2 => exact absurd ⟨l, rfl⟩ hl
      | _ => cases e; decide
    obtain ⟨q0, q1, q2, q3, q4, q5, q6, q7, q8, rfl⟩ := hsh
    have hne := hk4 _ _ _ _ _ _ _ _ _ rfl
    cases hg : getP v p with
    | none =>
      rw [hg] at hget
      refine (step_get q0 q1 q2 q3 q4 q5 q6 q7 q8 false (BA p) (fun _ d => d = [.int .i64 0, .int .i64 0, .string ⟨#[]⟩, .slice none 0 0, .slice none 0 0]) w hne (fun _ d hd => ⟨0, 0, ⟨#[]⟩, none, 0, 0, none, 0, 0, hd⟩) (fun _ _ _ h _ => h) (fun W hb => (hget W hb).mono fun e w' h => ⟨_, h.1, rfl, h.2⟩)).mono ?_
      rintro e w' ⟨d, rfl, rfl, hb⟩
      exact ⟨rfl, hb⟩
    | some x =>
      rw [hg] at hget
      refine (step_get q0 q1 q2 q3 q4 q5 q6 q7 q8 true (BA p) (fun W d => VAt S W x d) w hne (fun _ d hd => hd.shape) (fun _ _ _ h hb => VAt.low hS hb h) (fun W hb => (hget W hb).mono fun e w' h => h)).mono ?_
      rintro e w' ⟨d, rfl, hd, hb⟩
      exact ⟨d, rfl, hd, hb⟩

/-- sl is a slice that reads as the texts ps. -/
def PRead (w : World) (sl : Value) (ps : List BL) : Prop := ps.length ≤ 1000000 ∧ ∃ g cap, sl = .slice (some ⟨g, 0, none⟩) ps.length cap ∧ ∀ i (h : i < ps.length), w.cell? ⟨g, i, none⟩ = some (.string (BA ps[i]))
theorem findP_split (place : BL → Nat → Option Nat) (v : V) (ps : List BL) (i : Nat) : findP place v ps = (findP place v (ps.take i)).bind fun x => findP place x (ps.drop i) := by
  induction ps generalizing v i with
  | nil => simp [findP]
  | cons p ps ih =>
    cases i with
    | zero => simp [findP]
    | succ i =>
      rw [List.take_succ_cons, List.drop_succ_cons, findP, findP]
      cases h : stepP place v p with
      | none => simp
      | some x => simp [ih x i]
/-- what holds at the head of Find's loop. -/
structure FindAt (S : Nat → Prop) (w wr : World) (v : V) (ps : List BL) (i : Nat) (x : V) (c : List Value) : Prop where
  fnd : findP placeK v (ps.take i) = some x
  blk : Blk wr w.heap.size 40 c
  val : VAt S wr x c
  res : Blk wr (w.heap.size + 1) 40 [.int .i64 0, .int .i64 0, .string ⟨#[]⟩, .slice none 0 0, .slice none 0 0]
  bel : Below w.heap.size w wr
  top : w.heap.size + 2 ≤ wr.heap.size
  small : smallV x

set_option maxHeartbeats 16000000 in
set_option maxRecDepth 100000 in
theorem pfind_any (v : V) (ps : List BL) (hps : ∀ p ∈ ps, p.length ≤ 1000000) (hs : smallV v) (S : Nat → Prop) (w : World) (c : List Value) (sl : Value) (hv : VAt S w v c) (hS : ∀ b, S b → b < w.heap.size) (hE : ErrV w) (hP : PRead w sl ps) :
    Calls Tryz.prog 40 #[.agg c.toArray, sl] w (OptV S w (findP placeK v ps)) := by
  obtain ⟨hn, g, cap, rfl, hg⟩ := hP
  obtain ⟨q0, q1, q2, q3, q4, q5, q6, q7, q8, rfl⟩ := hv.shape
  obtain ⟨W0, hW0⟩ : ∃ W0, (w.alloc (.cells #[.int .i64 q0, .int .i64 q1, .string q2, .slice q3 q4 q5, .slice q6 q7 q8] 40)).alloc (.cells #[.int .i64 0, .int .i64 0, .string ⟨#[]⟩, .slice none 0 0, .slice none 0 0] 40) = W0 := ⟨_, rfl⟩
  have hb0 : Below w.heap.size w W0 := by rw [← hW0]; exact ((Below.refl _ w).alloc (Nat.le_refl _) _).alloc (by simp) _
  have hst : FindAt S w W0 v ps 0 v [.int .i64 q0, .int .i64 q1, .string q2, .slice q3 q4 q5, .slice q6 q7 q8] := ⟨rfl, by rw [← hW0]; exact Blk.alloc (heap_alloc_new w _) _, hv.later hb0, by rw [← hW0]; exact blk_new2 w _ _ _, hb0, by rw [← hW0]; simp, hs⟩
  obtain ⟨n, hnn⟩ : ∃ n, ps.length = n := ⟨_, rfl⟩
  rw [hnn] at hn
  rw [hnn]
  obtain ⟨P0, hP0⟩ : ∃ P, w.heap.size = P := ⟨_, rfl⟩
  have H0 := Lib.hid (And.intro hW0 (And.intro hst (And.intro hg (And.intro hnn (And.intro hps (And.intro hS (And.intro hE hP0)))))))
  clear hW0 hb0 hst hg hnn hps hS hE hv hs hP0
  go_enter Tryz.func40, Tryz.ntmps40
  go_wp2_with fail
  rw [H0.out.1]
  rw [H0.out.2.2.2.2.2.2.2]
  go_loopg [12] n (fun gk iv wr => ∃ (i : Nat) (x : V) (c : List Value), gk + i = n ∧ iv = .int .i64 i ∧ Hid (FindAt S w wr v ps i x c))
  case atStart => exact ⟨0, v, _, by omega, rfl, Lib.hid H0.out.2.1⟩
  case round =>
    obtain ⟨i, x, c, hgi, rfl, HF0⟩ := hrel
    obtain ⟨q0, q1, q2, q3, q4, q5, q6, q7, q8, rfl⟩ := HF0.out.val.shape
    have v0 := HF0.out.blk.cell 0
    have v1 := HF0.out.blk.cell 1
    have v2 := HF0.out.blk.cell 2
    have v3 := HF0.out.blk.cell 3
    have v4 := HF0.out.blk.cell 4
    by_cases hi : i < n
    · have hiz : (i : Int) < (n : Int) := by omega
      have hwK : IntKind.i64.wrap ((i : Int) + 1) = ((i + 1 : Nat) : Int) := by rw [IntWalk.i64_in _ (by omega)]; omega
      have hil : i < ps.length := by rw [H0.out.2.2.2.1]; exact hi
      have hpc := bcell HF0.out.bel (H0.out.2.2.1 i hil)
      have hcall := pstep_any x ps[i] (H0.out.2.2.2.2.1 _ (List.getElem_mem hil)) HF0.out.small S wr _ HF0.out.val (fun b hb => Nat.lt_of_lt_of_le (H0.out.2.2.2.2.2.1 b hb) HF0.out.bel.size) (H0.out.2.2.2.2.2.2.1.later HF0.out.bel)
      obtain ⟨nm, hnm⟩ : ∃ nm, BA ps[i] = nm := ⟨_, rfl⟩
      rw [hnm] at hpc hcall
      have hspl := findP_split placeK v ps i
      rw [HF0.out.fnd, List.drop_eq_getElem_cons hil, Option.bind_some, findP] at hspl
      have htk : findP placeK v (ps.take (i + 1)) = (stepP placeK x ps[i]) := by
        rw [List.take_succ_eq_append_getElem hil, findP_snoc, HF0.out.fnd]; rfl
      cases hr : stepP placeK x ps[i] with
      | none =>
        rw [hr] at hcall hspl htk
        have HR := Lib.hid (show findP placeK v ps = none from hspl)
        have HC := Lib.hid (show Calls _ _ _ _ (fun e w' => e = .returned (.tuple #[.agg #[.int .i64 0, .int .i64 0, .string ⟨#[]⟩, .slice none 0 0, .slice none 0 0], .bool false]) ∧ Below wr.heap.size wr w') from hcall)
        clear hcall hspl htk hr hnm
        rw [H0.out.2.2.2.2.2.2.2] at v0 v1 v2 v3 v4
        (try rw [H0.out.2.2.2.2.2.2.2])
        go_wp2_with fail
        refine HC.out.mono ?_
        rintro e w2 ⟨rfl, hb2⟩
        have hres := (HF0.out.res.below hb2).alloc (.cells #[.int .i64 0, .int .i64 0, .string ⟨#[]⟩, .slice none 0 0, .slice none 0 0] 40)
        have hbw := HF0.out.bel.trans (hb2.mono HF0.out.bel.size)
        obtain ⟨P, hPe⟩ : ∃ P, w.heap.size + 1 = P := ⟨_, rfl⟩
        rw [hPe] at hres
        rw [H0.out.2.2.2.2.2.2.2] at hPe
        (try rw [hPe])
        obtain ⟨w3, hw3⟩ : ∃ w3, w2.alloc (.cells #[.int .i64 0, .int .i64 0, .string ⟨#[]⟩, .slice none 0 0, .slice none 0 0] 40) = w3 := ⟨_, rfl⟩
        rw [hw3] at hres
        have hbw3 : Below w.heap.size w w3 := by rw [← hw3]; exact hbw.alloc hbw.size _
        obtain ⟨W5, hW5⟩ : ∃ W5, (((((w3.setCell ⟨P, 0, none⟩ (.int .i64 0)).setCell ⟨P, 1, none⟩ (.int .i64 0)).setCell ⟨P, 2, none⟩ (.string ⟨#[]⟩)).setCell ⟨P, 3, none⟩ (.slice none 0 0)).setCell ⟨P, 4, none⟩ (.slice none 0 0)) = W5 := ⟨_, rfl⟩
        have hp5 := put5 hres hW5
        have hfin : Below w.heap.size w W5 := hbw3.trans (hp5.2.below hbw3.size (fun k hk e => by have := H0.out.2.2.2.2.2.2.2; omega))
        rw [← hw3] at hW5
        have HF := Lib.hid (And.intro hW5 (And.intro hp5.1 hfin))
        rw [← hw3] at hres
        have r0 := hres.cell 0
        have s0 := hres.frozen 0
        have r1 := hres.cell 1
        have s1 := hres.frozen 1
        have r2 := hres.cell 2
        have s2 := hres.frozen 2
        have r3 := hres.cell 3
        have s3 := hres.frozen 3
        have r4 := hres.cell 4
        have s4 := hres.frozen 4
        clear hW5 hp5 hfin hres hb2 hbw hbw3 v0 v1 v2 v3 v4 hw3 hPe hpc
        go_wp2
        rw [HF.out.1]
        have z0 := HF.out.2.1.cell 0
        have z1 := HF.out.2.1.cell 1
        have z2 := HF.out.2.1.cell 2
        have z3 := HF.out.2.1.cell 3
        have z4 := HF.out.2.1.cell 4
        (try simp only [Exit.inBlock, Exit.then])
        refine bodyPost_ret (v := .tuple #[.agg #[.int .i64 0, .int .i64 0, .string ⟨#[]⟩, .slice none 0 0, .slice none 0 0], .bool false]) ?_ rfl (by rw [HR.out]; exact ⟨rfl, HF.out.2.2⟩)
        rw [results_cell_tmp rfl]
        go_simp
      | some y =>
        rw [hr] at hcall hspl htk
        have HR := Lib.hid htk
        have HC := Lib.hid (show Calls _ _ _ _ (fun e w' => ∃ d, e = .returned (.tuple #[.agg d.toArray, .bool true]) ∧ VAt S w' y d ∧ Below wr.heap.size wr w') from hcall)
        have HSM := Lib.hid (small_step HF0.out.small hr)
        clear hcall hspl htk hr hnm
        rw [H0.out.2.2.2.2.2.2.2] at v0 v1 v2 v3 v4
        (try rw [H0.out.2.2.2.2.2.2.2])
        go_wp2_with fail
        refine HC.out.mono ?_
        rintro e w2 ⟨d, rfl, hd, hb2⟩
        obtain ⟨d0, d1, d2, d3, d4, d5, d6, d7, d8, rfl⟩ := hd.shape
        have hbw := HF0.out.bel.trans (hb2.mono HF0.out.bel.size)
        obtain ⟨w3, hw3⟩ : ∃ w3, w2.alloc (.cells #[.int .i64 d0, .int .i64 d1, .string d2, .slice d3 d4 d5, .slice d6 d7 d8] 40) = w3 := ⟨_, rfl⟩
        have hb23 : Below w2.heap.size w2 w3 := by rw [← hw3]; exact (Below.refl _ w2).alloc (Nat.le_refl _) _
        have hblk := (HF0.out.blk.below hb2).below hb23
        have hres := (HF0.out.res.below hb2).below hb23
        rw [H0.out.2.2.2.2.2.2.2] at hblk
        obtain ⟨W5, hW5⟩ : ∃ W5, (((((w3.setCell ⟨P0, 0, none⟩ (.int .i64 d0)).setCell ⟨P0, 1, none⟩ (.int .i64 d1)).setCell ⟨P0, 2, none⟩ (.string d2)).setCell ⟨P0, 3, none⟩ (.slice d3 d4 d5)).setCell ⟨P0, 4, none⟩ (.slice d6 d7 d8)) = W5 := ⟨_, rfl⟩
        have hp5 := put5 hblk hW5
        have hbb : Below w.heap.size w3 W5 := hp5.2.below (by have := hbw.size; have := hb23.size; omega) (fun k hk e => by have := H0.out.2.2.2.2.2.2.2; omega)
        have hbw5 := (hbw.trans (hb23.mono hbw.size)).trans hbb
        have hnew : FindAt S w W5 v ps (i + 1) y [.int .i64 d0, .int .i64 d1, .string d2, .slice d3 d4 d5, .slice d6 d7 d8] := by
          refine ⟨HR.out, by rw [H0.out.2.2.2.2.2.2.2]; exact hp5.1, VAt.low H0.out.2.2.2.2.2.1 hbb (hd.later hb23), hres.only hp5.2 (by rw [H0.out.2.2.2.2.2.2.2]; omega), hbw5, ?_, HSM.out⟩
          have := HF0.out.top
          have h1 := hb2.size
          have h2 := hb23.size
          have h3 := hp5.2.size
          omega
        have HNEW := Lib.hid (And.intro hnew hW5)
        have r0 := hblk.cell 0
        have s0 := hblk.frozen 0
        have r1 := hblk.cell 1
        have s1 := hblk.frozen 1
        have r2 := hblk.cell 2
        have s2 := hblk.frozen 2
        have r3 := hblk.cell 3
        have s3 := hblk.frozen 3
        have r4 := hblk.cell 4
        have s4 := hblk.frozen 4
        rw [← hw3] at r0 r1 r2 r3 r4 s0 s1 s2 s3 s4
        have hW6 := hW5
        rw [← hw3] at hW6
        have HW6 := Lib.hid hW6
        clear hW5 hW6 hp5 hbb hbw5 hnew hblk hres hb2 hb23 hbw hd hw3 v0 v1 v2 v3 v4 hpc
        go_wp2
        rw [HW6.out]
        go_roundg (gk - 1)
        case rel => exact ⟨i + 1, y, _, by omega, rfl, Lib.hid HNEW.out.1⟩
        case measure => omega
    · have hiz : ¬ (i : Int) < (n : Int) := by omega
      have hie : i = ps.length := by rw [H0.out.2.2.2.1]; omega
      have hfnd := HF0.out.fnd
      rw [hie, List.take_length] at hfnd
      have HR := Lib.hid hfnd
      have hres := HF0.out.res
      obtain ⟨P, hPe⟩ : ∃ P, w.heap.size + 1 = P := ⟨_, rfl⟩
      rw [hPe] at hres
      rw [H0.out.2.2.2.2.2.2.2] at hPe v0 v1 v2 v3 v4
      (try rw [H0.out.2.2.2.2.2.2.2])
      (try rw [hPe])
      obtain ⟨W5, hW5⟩ : ∃ W5, (((((wr.setCell ⟨P, 0, none⟩ (.int .i64 q0)).setCell ⟨P, 1, none⟩ (.int .i64 q1)).setCell ⟨P, 2, none⟩ (.string q2)).setCell ⟨P, 3, none⟩ (.slice q3 q4 q5)).setCell ⟨P, 4, none⟩ (.slice q6 q7 q8)) = W5 := ⟨_, rfl⟩
      have hp5 := put5 hres hW5
      have hbb : Below w.heap.size wr W5 := hp5.2.below HF0.out.bel.size (fun k hk e => by have := H0.out.2.2.2.2.2.2.2; omega)
      have HF := Lib.hid (And.intro hW5 (And.intro hp5.1 (And.intro (HF0.out.bel.trans hbb) (VAt.low H0.out.2.2.2.2.2.1 hbb HF0.out.val))))
      have r0 := hres.cell 0
      have s0 := hres.frozen 0
      have r1 := hres.cell 1
      have s1 := hres.frozen 1
      have r2 := hres.cell 2
      have s2 := hres.frozen 2
      have r3 := hres.cell 3
      have s3 := hres.frozen 3
      have r4 := hres.cell 4
      have s4 := hres.frozen 4
      clear hW5 hp5 hbb hres hfnd hie hPe
      go_wp2
      rw [HF.out.1]
      have z0 := HF.out.2.1.cell 0
      have z1 := HF.out.2.1.cell 1
      have z2 := HF.out.2.1.cell 2
      have z3 := HF.out.2.1.cell 3
      have z4 := HF.out.2.1.cell 4
      (try simp only [Exit.inBlock, Exit.then])
      refine bodyPost_ret (v := .tuple #[.agg #[.int .i64 q0, .int .i64 q1, .string q2, .slice q3 q4 q5, .slice q6 q7 q8], .bool true]) ?_ rfl (by rw [HR.out]; exact ⟨_, rfl, HF.out.2.2.2, HF.out.2.2.1⟩)
      rw [results_cell_tmp rfl]
      go_simp
end Go.Proofs.YtecnjifincahaaaGreatDoor
