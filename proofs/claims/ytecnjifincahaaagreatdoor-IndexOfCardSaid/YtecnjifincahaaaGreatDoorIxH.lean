/- The law's at: what a part names. -/
import Derived.Test.YtecnjifincahaaaGreatDoorIxG
namespace Go.Proofs.YtecnjifincahaaaGreatDoor
open Go.Shelf Go.RowKit Go.Lib

def dig (i : Nat) : BL := [UInt8.ofNat (48 + i)]
def placeFrom (p : BL) : Nat → Nat → Option Nat
  | _, 0 => none
  | i, k + 1 => if p = dig i then some i else placeFrom p (i + 1) k
def placeL (p : BL) (n : Nat) : Option Nat := placeFrom p 0 n
def digS : ByteArray := BA [48, 49, 50, 51, 52, 53, 54, 55, 56, 57]
theorem dig_ext : ∀ i, i < 10 → digS.extract i (i + 1) = BA (dig i) := by decide +kernel
theorem fieldP_drop (l : List (BL × V)) (p : BL) (i : Nat) (h : i < l.length) : fieldP (l.drop i) p = if l[i].1 = p then some l[i].2 else fieldP (l.drop (i + 1)) p := by
  rw [List.drop_eq_getElem_cons h, fieldP]

set_option maxHeartbeats 8000000 in
set_option maxRecDepth 100000 in
theorem at_obj (l : List (BL × V)) (nm : BL) (S : Nat → Prop) (w : World) (cs : List Value) (p : Option Addr) (cap : Nat) (hV : FsAt S w l cs) (hr : 0 < l.length → ∃ b, p = some ⟨b, 0, none⟩ ∧ ∀ k u, cs[k]? = some u → w.cell? ⟨b, k, none⟩ = some u) (hln : l.length ≤ 9223372036854775807) (hS : ∀ b, S b → b < w.heap.size) :
    Calls Tryz.prog 69 #[.agg #[.int .i64 5, .int .i64 0, .string ⟨#[]⟩, .slice none 0 0, .slice p l.length cap], .string (BA nm)] w (OptV S w (fieldP l nm)) := by
  have HV := Lib.hid (And.intro hV (And.intro hr hS))
  clear hV hr hS
  obtain ⟨NM, hNM⟩ : ∃ M, BA nm = M := ⟨_, rfl⟩
  rw [hNM]
  have HNM := Lib.hid hNM
  clear hNM
  obtain ⟨N1, hN1⟩ : ∃ N, l.length = N := ⟨_, rfl⟩
  rw [hN1] at hln
  rw [hN1]
  obtain ⟨W0, hW0⟩ : ∃ W0, (w.alloc (.cells #[.int .i64 5, .int .i64 0, .string ⟨#[]⟩, .slice none 0 0, .slice p N1 cap] 40)).alloc (.cells #[.int .i64 0, .int .i64 0, .string ⟨#[]⟩, .slice none 0 0, .slice none 0 0] 40) = W0 := ⟨_, rfl⟩
  have hb0 : Below w.heap.size w W0 := by rw [← hW0]; exact ((Below.refl _ w).alloc (Nat.le_refl _) _).alloc (by simp) _
  have hk1 : Blk W0 (w.heap.size + 1) 40 [.int .i64 0, .int .i64 0, .string ⟨#[]⟩, .slice none 0 0, .slice none 0 0] := by rw [← hW0]; exact blk_new2 w _ _ _
  have hk0 : Blk W0 w.heap.size 40 [.int .i64 5, .int .i64 0, .string ⟨#[]⟩, .slice none 0 0, .slice p N1 cap] := by rw [← hW0]; exact Blk.alloc (heap_alloc_new w _) _
  obtain ⟨P, hP⟩ : ∃ P, w.heap.size + 1 = P := ⟨_, rfl⟩
  rw [hP] at hk1
  have H0 := Lib.hid (And.intro hW0 (And.intro hP (And.intro hb0 (And.intro hk1 (And.intro hk0 hN1)))))
  clear hW0 hP hb0 hk1 hk0 hN1
  go_enter Tryz.func69, Tryz.ntmps69
  go_wp2_with fail
  rw [H0.out.1, H0.out.2.1]
  go_loopg [16] N1 (fun gk iv wr => ∃ (i : Nat), gk + i = N1 ∧ iv = .int .i64 i ∧ Hid (fieldP l nm = fieldP (l.drop i) nm) ∧ Hid (Below W0.heap.size W0 wr))
  case atStart => exact ⟨0, Nat.add_zero _, rfl, Lib.hid rfl, Lib.hid (Below.refl _ _)⟩
  case round =>
    obtain ⟨i, hg, rfl, HC, HB⟩ := hrel
    have hres := H0.out.2.2.2.1.below HB.out
    have hbw := H0.out.2.2.1.trans (HB.out.mono H0.out.2.2.1.size)
    by_cases hi : i < N1
    · have hiz : (i : Int) < (N1 : Int) := by omega
      have hwK : IntKind.i64.wrap ((i : Int) + 1) = ((i + 1 : Nat) : Int) := by rw [IntWalk.i64_in _ (by omega)]; omega
      have hx1 : i < l.length := by rw [H0.out.2.2.2.2.2]; exact hi
      obtain ⟨b, hpe, hrb⟩ := HV.out.2.1 (by omega)
      subst hpe
      obtain ⟨d0, d1, d2, d3, d4, hx, e5, e0, e1, e2, e3, e4⟩ := HV.out.1.get i hx1
      obtain ⟨q0, q1, q2, q3, q4, q5, q6, q7, q8, hq⟩ := hx.shape
      simp only [List.cons.injEq, and_true] at hq
      obtain ⟨rfl, rfl, rfl, rfl, rfl⟩ := hq
      obtain ⟨nx, hnx⟩ : ∃ n, l[i].1 = n := ⟨_, rfl⟩
      obtain ⟨NX, hNX⟩ : ∃ n, BA nx = n := ⟨_, rfl⟩
      rw [hnx, hNX] at e5
      have a5 := bcell hbw (hrb _ _ e5)
      have a0 := bcell hbw (hrb _ _ e0)
      have a1 := bcell hbw (hrb _ _ e1)
      have a2 := bcell hbw (hrb _ _ e2)
      have a3 := bcell hbw (hrb _ _ e3)
      have a4 := bcell hbw (hrb _ _ e4)
      have hnext := fieldP_drop l nm i hx1
      rw [hnx] at hnext
      have hcmp := bytes_eq nx nm
      rw [hNX, HNM.out] at hcmp
      have HN := Lib.hid (HC.out.trans hnext)
      have HX := Lib.hid (hx.later hbw)
      clear hx e5 e0 e1 e2 e3 e4 hrb hnext hnx hNX
      by_cases hne : nx = nm
      · rw [decide_eq_true hne] at hcmp
        have HE := Lib.hid (show fieldP l nm = some l[i].2 by rw [HN.out, if_pos hne])
        obtain ⟨w3, hw3⟩ : ∃ W, wr.alloc (.cells #[.string NX, .int .i64 q0, .int .i64 q1, .string q2, .slice q3 q4 q5, .slice q6 q7 q8] 72) = W := ⟨_, rfl⟩
        have hb13 : Below wr.heap.size wr w3 := by rw [← hw3]; exact (Below.refl _ wr).alloc (Nat.le_refl _) _
        have hres3 := hres.below hb13
        have hbw3 := hbw.trans (hb13.mono hbw.size)
        obtain ⟨W5, hW5⟩ : ∃ W5, (((((w3.setCell ⟨P, 0, none⟩ (.int .i64 q0)).setCell ⟨P, 1, none⟩ (.int .i64 q1)).setCell ⟨P, 2, none⟩ (.string q2)).setCell ⟨P, 3, none⟩ (.slice q3 q4 q5)).setCell ⟨P, 4, none⟩ (.slice q6 q7 q8)) = W5 := ⟨_, rfl⟩
        have hp5 := put5 hres3 hW5
        have hbb : Below w.heap.size w3 W5 := hp5.2.below hbw3.size (fun k hk e => by have := H0.out.2.1; omega)
        rw [← hw3] at hW5
        have HF := Lib.hid (And.intro hW5 (And.intro hp5.1 (And.intro (hbw3.trans hbb) (VAt.low HV.out.2.2 hbb (HX.out.later hb13)))))
        rw [← hw3] at hres3
        have r0 := hres3.cell 0
        have s0 := hres3.frozen 0
        have r1 := hres3.cell 1
        have s1 := hres3.frozen 1
        have r2 := hres3.cell 2
        have s2 := hres3.frozen 2
        have r3 := hres3.cell 3
        have s3 := hres3.frozen 3
        have r4 := hres3.cell 4
        have s4 := hres3.frozen 4
        clear hW5 hp5 hbb hres hres3 hb13 hbw hbw3 hw3
        go_wp2
        rw [HF.out.1]
        have z0 := HF.out.2.1.cell 0
        have z1 := HF.out.2.1.cell 1
        have z2 := HF.out.2.1.cell 2
        have z3 := HF.out.2.1.cell 3
        have z4 := HF.out.2.1.cell 4
        (try simp only [Exit.inBlock, Exit.then])
        refine bodyPost_ret (v := .tuple #[.agg #[.int .i64 q0, .int .i64 q1, .string q2, .slice q3 q4 q5, .slice q6 q7 q8], .bool true]) ?_ rfl (by rw [HE.out]; exact ⟨_, rfl, HF.out.2.2.2, HF.out.2.2.1⟩)
        rw [results_cell_tmp rfl]
        go_simp
      · rw [decide_eq_false hne] at hcmp
        have HE := Lib.hid (show fieldP l nm = fieldP (l.drop (i + 1)) nm by rw [HN.out, if_neg hne])
        have HB4 := Lib.hid (HB.out.alloc (o := .cells #[.string NX, .int .i64 q0, .int .i64 q1, .string q2, .slice q3 q4 q5, .slice q6 q7 q8] 72) HB.out.size)
        clear hres hbw
        go_wp2
        go_roundg (gk - 1)
        case rel => exact ⟨i + 1, by omega, rfl, HE, HB4⟩
        case measure => omega
    · have hiz : ¬ (i : Int) < (N1 : Int) := by omega
      have HE := Lib.hid (show fieldP l nm = none by rw [HC.out, List.drop_eq_nil_of_le (by rw [H0.out.2.2.2.2.2]; omega)]; rfl)
      have hbx := (H0.out.2.2.2.2.1.below HB.out).cell 0
      obtain ⟨W5, hW5⟩ : ∃ W5, (((((wr.setCell ⟨P, 0, none⟩ (.int .i64 0)).setCell ⟨P, 1, none⟩ (.int .i64 0)).setCell ⟨P, 2, none⟩ (.string ⟨#[]⟩)).setCell ⟨P, 3, none⟩ (.slice none 0 0)).setCell ⟨P, 4, none⟩ (.slice none 0 0)) = W5 := ⟨_, rfl⟩
      have hp5 := put5 hres hW5
      have hfin : Below w.heap.size w W5 := hbw.trans (hp5.2.below hbw.size (fun k hk e => by have := H0.out.2.1; omega))
      have HF := Lib.hid (And.intro hW5 (And.intro hp5.1 hfin))
      have r0 := hres.cell 0
      have s0 := hres.frozen 0
      have r1 := hres.cell 1
      have s1 := hres.frozen 1
      have r2 := hres.cell 2
      have s2 := hres.frozen 2
      have r3 := hres.cell 3
      have s3 := hres.frozen 3
      have r4 := hres.cell 4
      have s4 := hres.frozen 4
      clear hW5 hp5 hfin hres hbw
      go_wp2
      rw [HF.out.1]
      have z0 := HF.out.2.1.cell 0
      have z1 := HF.out.2.1.cell 1
      have z2 := HF.out.2.1.cell 2
      have z3 := HF.out.2.1.cell 3
      have z4 := HF.out.2.1.cell 4
      (try simp only [Exit.inBlock, Exit.then])
      refine bodyPost_ret (v := .tuple #[.agg #[.int .i64 0, .int .i64 0, .string ⟨#[]⟩, .slice none 0 0, .slice none 0 0], .bool false]) ?_ rfl (by rw [HE.out]; exact ⟨rfl, HF.out.2.2⟩)
      rw [results_cell_tmp rfl]
      go_simp

set_option maxHeartbeats 8000000 in
set_option maxRecDepth 100000 in
theorem at_list (l : List V) (nm : BL) (S : Nat → Prop) (w : World) (cs : List Value) (p : Option Addr) (cap : Nat) (hV : VsAt S w l cs) (hr : 0 < l.length → ∃ b, p = some ⟨b, 0, none⟩ ∧ ∀ k u, cs[k]? = some u → w.cell? ⟨b, k, none⟩ = some u) (hln : l.length ≤ 10) (hS : ∀ b, S b → b < w.heap.size) :
    Calls Tryz.prog 69 #[.agg #[.int .i64 4, .int .i64 0, .string ⟨#[]⟩, .slice p l.length cap, .slice none 0 0], .string (BA nm)] w (OptV S w ((placeL nm l.length).bind fun k => l[k]?)) := by
  have HV := Lib.hid (And.intro hV (And.intro hr hS))
  clear hV hr hS
  obtain ⟨NM, hNM⟩ : ∃ M, BA nm = M := ⟨_, rfl⟩
  rw [hNM]
  have HNM := Lib.hid hNM
  clear hNM
  obtain ⟨N1, hN1⟩ : ∃ N, l.length = N := ⟨_, rfl⟩
  rw [hN1] at hln
  rw [hN1]
  obtain ⟨W0, hW0⟩ : ∃ W0, (w.alloc (.cells #[.int .i64 4, .int .i64 0, .string ⟨#[]⟩, .slice p N1 cap, .slice none 0 0] 40)).alloc (.cells #[.int .i64 0, .int .i64 0, .string ⟨#[]⟩, .slice none 0 0, .slice none 0 0] 40) = W0 := ⟨_, rfl⟩
  have hb0 : Below w.heap.size w W0 := by rw [← hW0]; exact ((Below.refl _ w).alloc (Nat.le_refl _) _).alloc (by simp) _
  have hk1 : Blk W0 (w.heap.size + 1) 40 [.int .i64 0, .int .i64 0, .string ⟨#[]⟩, .slice none 0 0, .slice none 0 0] := by rw [← hW0]; exact blk_new2 w _ _ _
  have hk0 : Blk W0 w.heap.size 40 [.int .i64 4, .int .i64 0, .string ⟨#[]⟩, .slice p N1 cap, .slice none 0 0] := by rw [← hW0]; exact Blk.alloc (heap_alloc_new w _) _
  obtain ⟨P, hP⟩ : ∃ P, w.heap.size + 1 = P := ⟨_, rfl⟩
  rw [hP] at hk1
  have H0 := Lib.hid (And.intro hW0 (And.intro hP (And.intro hb0 (And.intro hk1 (And.intro hk0 hN1)))))
  clear hW0 hP hb0 hk1 hk0 hN1
  go_enter Tryz.func69, Tryz.ntmps69
  go_wp2_with fail
  rw [H0.out.1, H0.out.2.1]
  go_loopg [33] N1 (fun gk iv wr => ∃ (i : Nat), gk + i = N1 ∧ iv = .int .i64 i ∧ Hid (placeL nm N1 = placeFrom nm i (N1 - i)) ∧ Hid (Below W0.heap.size W0 wr))
  case atStart => exact ⟨0, Nat.add_zero _, rfl, Lib.hid rfl, Lib.hid (Below.refl _ _)⟩
  case round =>
    obtain ⟨i, hg, rfl, HC, HB⟩ := hrel
    have hres := H0.out.2.2.2.1.below HB.out
    have hbw := H0.out.2.2.1.trans (HB.out.mono H0.out.2.2.1.size)
    by_cases hi : i < N1
    · have hiz : (i : Int) < (N1 : Int) := by omega
      have hwK : IntKind.i64.wrap ((i : Int) + 1) = ((i + 1 : Nat) : Int) := by rw [IntWalk.i64_in _ (by omega)]; omega
      have hx1 : i < l.length := by rw [H0.out.2.2.2.2.2]; exact hi
      have hz0 : (0 : Int) ≤ (i : Int) := by omega
      have hz1 : (i : Int) ≤ ((i + 1 : Nat) : Int) := by omega
      have hz2 : ((i + 1 : Nat) : Int) ≤ 10 := by omega
      have hz3 : i + 1 ≤ 10 := by omega
      have hz4 : (i : Int) + 1 ≤ 10 := by omega
      obtain ⟨b, hpe, hrb⟩ := HV.out.2.1 (by omega)
      subst hpe
      obtain ⟨d0, d1, d2, d3, d4, hx, e0, e1, e2, e3, e4⟩ := HV.out.1.get i hx1
      obtain ⟨q0, q1, q2, q3, q4, q5, q6, q7, q8, hq⟩ := hx.shape
      simp only [List.cons.injEq, and_true] at hq
      obtain ⟨rfl, rfl, rfl, rfl, rfl⟩ := hq
      have a0 := bcell hbw (hrb _ _ e0)
      have a1 := bcell hbw (hrb _ _ e1)
      have a2 := bcell hbw (hrb _ _ e2)
      have a3 := bcell hbw (hrb _ _ e3)
      have a4 := bcell hbw (hrb _ _ e4)
      have hext := dig_ext i (by omega)
      have hcmp := bytes_eq nm (dig i)
      have hnext : placeFrom nm i (N1 - i) = if nm = dig i then some i else placeFrom nm (i + 1) (N1 - (i + 1)) := by
        rw [show N1 - i = (N1 - (i + 1)) + 1 by omega]; rfl
      obtain ⟨DG, hDG⟩ : ∃ n, BA (dig i) = n := ⟨_, rfl⟩
      rw [hDG] at hext hcmp
      rw [HNM.out] at hcmp
      unfold digS at hext
      have HN := Lib.hid (HC.out.trans hnext)
      have HX := Lib.hid (hx.later hbw)
      clear hx e0 e1 e2 e3 e4 hrb hnext hDG
      by_cases hne : nm = dig i
      · rw [decide_eq_true hne] at hcmp
        have HE := Lib.hid (show ((placeL nm N1).bind fun k => l[k]?) = some l[i] by rw [HN.out, if_pos hne]; simp [hx1])
        obtain ⟨w3, hw3⟩ : ∃ W, wr.alloc (.cells #[.int .i64 q0, .int .i64 q1, .string q2, .slice q3 q4 q5, .slice q6 q7 q8] 40) = W := ⟨_, rfl⟩
        have hb13 : Below wr.heap.size wr w3 := by rw [← hw3]; exact (Below.refl _ wr).alloc (Nat.le_refl _) _
        have hres3 := hres.below hb13
        have hbw3 := hbw.trans (hb13.mono hbw.size)
        obtain ⟨W5, hW5⟩ : ∃ W5, (((((w3.setCell ⟨P, 0, none⟩ (.int .i64 q0)).setCell ⟨P, 1, none⟩ (.int .i64 q1)).setCell ⟨P, 2, none⟩ (.string q2)).setCell ⟨P, 3, none⟩ (.slice q3 q4 q5)).setCell ⟨P, 4, none⟩ (.slice q6 q7 q8)) = W5 := ⟨_, rfl⟩
        have hp5 := put5 hres3 hW5
        have hbb : Below w.heap.size w3 W5 := hp5.2.below hbw3.size (fun k hk e => by have := H0.out.2.1; omega)
        rw [← hw3] at hW5
        have HF := Lib.hid (And.intro hW5 (And.intro hp5.1 (And.intro (hbw3.trans hbb) (VAt.low HV.out.2.2 hbb (HX.out.later hb13)))))
        rw [← hw3] at hres3
        have r0 := hres3.cell 0
        have s0 := hres3.frozen 0
        have r1 := hres3.cell 1
        have s1 := hres3.frozen 1
        have r2 := hres3.cell 2
        have s2 := hres3.frozen 2
        have r3 := hres3.cell 3
        have s3 := hres3.frozen 3
        have r4 := hres3.cell 4
        have s4 := hres3.frozen 4
        clear hW5 hp5 hbb hres hres3 hb13 hbw hbw3 hw3 hne
        go_wp2
        rw [HF.out.1]
        have z0 := HF.out.2.1.cell 0
        have z1 := HF.out.2.1.cell 1
        have z2 := HF.out.2.1.cell 2
        have z3 := HF.out.2.1.cell 3
        have z4 := HF.out.2.1.cell 4
        (try simp only [Exit.inBlock, Exit.then])
        refine bodyPost_ret (v := .tuple #[.agg #[.int .i64 q0, .int .i64 q1, .string q2, .slice q3 q4 q5, .slice q6 q7 q8], .bool true]) ?_ rfl (by rw [HE.out]; exact ⟨_, rfl, HF.out.2.2.2, HF.out.2.2.1⟩)
        rw [results_cell_tmp rfl]
        go_simp
      · rw [decide_eq_false hne] at hcmp
        have HE := Lib.hid (show placeL nm N1 = placeFrom nm (i + 1) (N1 - (i + 1)) by rw [HN.out, if_neg hne])
        have HB4 := Lib.hid (HB.out.alloc (o := .cells #[.int .i64 q0, .int .i64 q1, .string q2, .slice q3 q4 q5, .slice q6 q7 q8] 40) HB.out.size)
        clear hres hbw hne
        go_wp2
        go_roundg (gk - 1)
        case rel => exact ⟨i + 1, by omega, rfl, HE, HB4⟩
        case measure => omega
    · have hiz : ¬ (i : Int) < (N1 : Int) := by omega
      have HE := Lib.hid (show ((placeL nm N1).bind fun k => l[k]?) = none by rw [HC.out, show N1 - i = 0 by omega]; rfl)
      obtain ⟨W5, hW5⟩ : ∃ W5, (((((wr.setCell ⟨P, 0, none⟩ (.int .i64 0)).setCell ⟨P, 1, none⟩ (.int .i64 0)).setCell ⟨P, 2, none⟩ (.string ⟨#[]⟩)).setCell ⟨P, 3, none⟩ (.slice none 0 0)).setCell ⟨P, 4, none⟩ (.slice none 0 0)) = W5 := ⟨_, rfl⟩
      have hp5 := put5 hres hW5
      have hfin : Below w.heap.size w W5 := hbw.trans (hp5.2.below hbw.size (fun k hk e => by have := H0.out.2.1; omega))
      have HF := Lib.hid (And.intro hW5 (And.intro hp5.1 hfin))
      have r0 := hres.cell 0
      have s0 := hres.frozen 0
      have r1 := hres.cell 1
      have s1 := hres.frozen 1
      have r2 := hres.cell 2
      have s2 := hres.frozen 2
      have r3 := hres.cell 3
      have s3 := hres.frozen 3
      have r4 := hres.cell 4
      have s4 := hres.frozen 4
      clear hW5 hp5 hfin hres hbw
      go_wp2
      rw [HF.out.1]
      have z0 := HF.out.2.1.cell 0
      have z1 := HF.out.2.1.cell 1
      have z2 := HF.out.2.1.cell 2
      have z3 := HF.out.2.1.cell 3
      have z4 := HF.out.2.1.cell 4
      (try simp only [Exit.inBlock, Exit.then])
      refine bodyPost_ret (v := .tuple #[.agg #[.int .i64 0, .int .i64 0, .string ⟨#[]⟩, .slice none 0 0, .slice none 0 0], .bool false]) ?_ rfl (by rw [HE.out]; exact ⟨rfl, HF.out.2.2⟩)
      rw [results_cell_tmp rfl]
      go_simp

set_option maxHeartbeats 8000000 in
set_option maxRecDepth 100000 in
theorem at_other (q0 q1 : Int) (q2 : ByteArray) (q3 : Option Addr) (q4 q5 : Nat) (q6 : Option Addr) (q7 q8 : Nat) (nm : ByteArray) (w : World) (h4 : ¬ q0 = 4) (h5 : ¬ q0 = 5) :
    Calls Tryz.prog 69 #[.agg #[.int .i64 q0, .int .i64 q1, .string q2, .slice q3 q4 q5, .slice q6 q7 q8], .string nm] w fun e w' => e = .returned (.tuple #[.agg #[.int .i64 0, .int .i64 0, .string ⟨#[]⟩, .slice none 0 0, .slice none 0 0], .bool false]) ∧ Below w.heap.size w w' := by
  obtain ⟨W0, hW0⟩ : ∃ W0, (w.alloc (.cells #[.int .i64 q0, .int .i64 q1, .string q2, .slice q3 q4 q5, .slice q6 q7 q8] 40)).alloc (.cells #[.int .i64 0, .int .i64 0, .string ⟨#[]⟩, .slice none 0 0, .slice none 0 0] 40) = W0 := ⟨_, rfl⟩
  have hb0 : Below w.heap.size w W0 := by rw [← hW0]; exact ((Below.refl _ w).alloc (Nat.le_refl _) _).alloc (by simp) _
  have hk1 : Blk W0 (w.heap.size + 1) 40 [.int .i64 0, .int .i64 0, .string ⟨#[]⟩, .slice none 0 0, .slice none 0 0] := by rw [← hW0]; exact blk_new2 w _ _ _
  have hk0 : Blk W0 w.heap.size 40 [.int .i64 q0, .int .i64 q1, .string q2, .slice q3 q4 q5, .slice q6 q7 q8] := by rw [← hW0]; exact Blk.alloc (heap_alloc_new w _) _
  have h4b : (q0 == 4) = false := by simpa using h4
  have h5b : (q0 == 5) = false := by simpa using h5
  rw [← hW0] at hb0 hk1
  have HB := Lib.hid hb0
  have z0 := hk1.cell 0
  have z1 := hk1.cell 1
  have z2 := hk1.cell 2
  have z3 := hk1.cell 3
  have z4 := hk1.cell 4
  clear hW0 hb0 hk1 hk0
  go_enter Tryz.func69, Tryz.ntmps69
  go_wp2
  (try simp only [Exit.inBlock, Exit.then])
  refine bodyPost_ret (v := .tuple #[.agg #[.int .i64 0, .int .i64 0, .string ⟨#[]⟩, .slice none 0 0, .slice none 0 0], .bool false]) ?_ rfl ⟨rfl, HB.out⟩
  rw [results_cell_tmp rfl]
  go_simp
theorem at_any (v : V) (nm : BL) (S : Nat → Prop) (w : World) (c : List Value) (hv : VAt S w v c) (hS : ∀ b, S b → b < w.heap.size) (hl : ∀ l, v = .list l → l.length ≤ 10) :
    Calls Tryz.prog 69 #[.agg c.toArray, .string (BA nm)] w (OptV S w (stepP placeL v nm)) := by
  by_cases h1 : ∃ l, v = .list l
  · obtain ⟨l, rfl⟩ := h1
    cases hv with
    | list l cs sl hV hr =>
      obtain ⟨q, cap, rfl, hq⟩ := row_form hr
      exact at_list l nm S w cs q cap hV hq (hl l rfl) hS
  · by_cases h2 : ∃ l, v = .obj l
    · obtain ⟨l, rfl⟩ := h2
      cases hv with
      | obj l cs sl hV hr =>
        obtain ⟨q, cap, rfl, hq⟩ := row_form hr
        exact at_obj l nm S w cs q cap hV hq hr.1 hS
    · have e1 : stepP placeL v nm = none := by
        cases v with
        | list l => exact absurd ⟨l, rfl⟩ h1
        | obj l => exact absurd ⟨l, rfl⟩ h2
        | _ => rfl
      rw [e1]
      obtain ⟨q0, q1, q2, q3, q4, q5, q6, q7, q8, rfl⟩ := hv.shape
      have hk : ¬ q0 = 4 ∧ ¬ q0 = 5 := by
        cases hv with
        | list l cs sl g1 g2 => exact absurd ⟨l, rfl⟩ h1
        | obj l cs sl g1 g2 => exact absurd ⟨l, rfl⟩ h2
        | _ => exact ⟨by decide, by decide⟩
      exact at_other q0 q1 q2 q3 q4 q5 q6 q7 q8 (BA nm) w hk.1 hk.2
end Go.Proofs.YtecnjifincahaaaGreatDoor
