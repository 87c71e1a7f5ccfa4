/- The key reader's value, at any bytes (printed by wip/gen_kgm.py). -/
import Derived.Test.YthlioinmeimhoaaDoorKgI
namespace Go.Proofs.YthlioinmeimhoaaDoor
open Go.Shelf Go.RowKit Go.Lib

theorem rblk_new2 (w : World) (o : Obj) (cs : List Value) (e : TypeId) : Blk ((w.alloc o).alloc (.cells cs.toArray e)) (w.heap.size + 1) e cs := by
  have h := heap_alloc_new (w.alloc o) (.cells cs.toArray e)
  rw [show (w.alloc o).heap.size = w.heap.size + 1 by simp] at h
  exact h
theorem rboxes {w W : World} {rb : Nat} {d : Int} (_hr : rb < w.heap.size) (hW : W = (((w.alloc (.cells #[.pointer (some ⟨rb, 0, none⟩)] 76)).alloc (.cells #[.int .i64 d] 3)).alloc (.cells #[.int .i64 0, .int .i64 0, .string ⟨#[]⟩, .slice none 0 0, .slice none 0 0] 28))) :
    Blk W w.heap.size 76 [.pointer (some ⟨rb, 0, none⟩)] ∧ Blk W (w.heap.size + 1) 3 [.int .i64 d] ∧ Blk W (w.heap.size + 2) 28 [.int .i64 0, .int .i64 0, .string ⟨#[]⟩, .slice none 0 0, .slice none 0 0] ∧ Below w.heap.size w W ∧ W.heap.size = w.heap.size + 3 := by
  subst hW
  have h1 : Blk (w.alloc (.cells #[.pointer (some ⟨rb, 0, none⟩)] 76)) w.heap.size 76 [.pointer (some ⟨rb, 0, none⟩)] := heap_alloc_new w _
  refine ⟨(h1.alloc _).alloc _, ?_, ?_, ?_, by simp⟩
  · exact Blk.alloc (rblk_new2 w _ _ _) _
  · have h := rblk_new2 (w.alloc (.cells #[.pointer (some ⟨rb, 0, none⟩)] 76)) (.cells #[.int .i64 d] 3) [.int .i64 0, .int .i64 0, .string ⟨#[]⟩, .slice none 0 0, .slice none 0 0] 28
    have e : (w.alloc (.cells #[.pointer (some ⟨rb, 0, none⟩)] 76)).heap.size + 1 = w.heap.size + 2 := by simp
    rw [e] at h
    exact h
  · exact (((Below.refl _ w).alloc (Nat.le_refl _) _).alloc (by simp) _).alloc (by simp; omega) _
/-- what stands once the first byte is taken. -/
structure VStart (w : World) (rb P : Nat) (d : Int) (o : Option BL) (W : World) : Prop where
  size : w.heap.size = P
  rlt : rb < P
  big : P + 3 ≤ W.heap.size
  ptr : Blk W P 76 [.pointer (some ⟨rb, 0, none⟩)]
  deep : Blk W (P + 1) 3 [.int .i64 d]
  res : Blk W (P + 1 + 1) 28 [.int .i64 0, .int .i64 0, .string ⟨#[]⟩, .slice none 0 0, .slice none 0 0]
  only : Only (fun k => k = rb) w W
  rs : RS W rb o
theorem VStart.of {w W W2 : World} {rb P : Nat} {d : Int} {o o2 : Option BL} (hP : w.heap.size = P) (hr : RS w rb o) (hW : W = (((w.alloc (.cells #[.pointer (some ⟨rb, 0, none⟩)] 76)).alloc (.cells #[.int .i64 d] 3)).alloc (.cells #[.int .i64 0, .int .i64 0, .string ⟨#[]⟩, .slice none 0 0, .slice none 0 0] 28)))
    (hr2 : RS W2 rb o2) (ho : Only (fun k => k = rb) W W2) : VStart w rb P d o2 W2 := by
  have hl := hr.lt
  obtain ⟨b0, b1, b2, hb, hs⟩ := rboxes hl hW
  rw [hP] at b0 b1 b2 hs
  have := ho.size
  exact ⟨hP, by omega, by omega, b0.only ho (fun e => by have e2 : P = rb := e; omega), b1.only ho (fun e => by have e2 : P + 1 = rb := e; omega), b2.only ho (fun e => by have e2 : P + 2 = rb := e; omega),
    (Only.ofBelow hb (fun k => k = rb)).trans ho, hr2⟩
theorem VStart.next {w W W4 : World} {rb P : Nat} {d : Int} {o o2 : Option BL} (h : VStart w rb P d o W) (ho : Only (fun k => k = rb) W W4) (hr : RS W4 rb o2) : VStart w rb P d o2 W4 := by
  have h1 := h.rlt
  have := ho.size
  exact ⟨h.size, h.rlt, Nat.le_trans h.big ho.size, h.ptr.only ho (fun e => by have e2 : P = rb := e; omega), h.deep.only ho (fun e => by have e2 : P + 1 = rb := e; omega), h.res.only ho (fun e => by have e2 : P + 1 + 1 = rb := e; omega), h.only.trans ho, hr⟩
theorem VStart.alloc {w W : World} {rb P : Nat} {d : Int} {o : Option BL} (h : VStart w rb P d o W) (b : Obj) : VStart w rb P d o (W.alloc b) :=
  h.next (Only.alloc _ _ _) (h.rs.alloc _)
/-- a cell of the new value is written. -/
theorem VStart.put {w W : World} {rb P N : Nat} {d : Int} {o : Option BL} (h : VStart w rb P d o W) (hN : P + 3 ≤ N) (j : Nat) (v : Value) : VStart w rb P d o (W.setCell ⟨N, j, none⟩ v) := by
  have h1 := h.rlt
  have h2 := h.size
  have ho := Only.set1 W N j v
  have := ho.size
  exact ⟨h.size, h.rlt, Nat.le_trans h.big ho.size, h.ptr.only ho (fun e => by have e2 : P = N := e; omega), h.deep.only ho (fun e => by have e2 : P + 1 = N := e; omega), h.res.only ho (fun e => by have e2 : P + 1 + 1 = N := e; omega), h.only.trans' ho (fun i hi e => by have e2 : i = N := e; omega), h.rs.only ho (fun e => by have e2 : rb = N := e; omega)⟩

/-- the value is laid into the result's place, and is the result. -/
theorem rv_end {w W4 W5 : World} {rb P N : Nat} {d : Int} {o : Option BL} {res : Option (V × BL)} {c0 c1 c2 c3 c4 : Value} (h : VStart w rb P d o W4) (hN : P + 3 ≤ N)
    (hsh : Shape [c0, c1, c2, c3, c4]) (hm : MRes (fun b => N < b ∧ b < W4.heap.size) W4 rb res [c0, c1, c2, c3, c4]) (hW : (((((W4.setCell ⟨P + 1 + 1, 0, none⟩ (c0)).setCell ⟨P + 1 + 1, 1, none⟩ (c1)).setCell ⟨P + 1 + 1, 2, none⟩ (c2)).setCell ⟨P + 1 + 1, 3, none⟩ (c3)).setCell ⟨P + 1 + 1, 4, none⟩ (c4)) = W5) :
    Blk W5 (P + 1 + 1) 28 [c0, c1, c2, c3, c4] ∧ ValPost w rb res (.returned (.agg #[c0, c1, c2, c3, c4])) W5 := by
  have h1 := h.rlt
  have h2 := h.size
  have ho : Only (fun k => k = P + 1 + 1) W4 W5 := by
    rw [← hW]
    exact ((((Only.set1 W4 (P + 1 + 1) 0 _).trans (Only.set1 _ (P + 1 + 1) 1 _)).trans (Only.set1 _ (P + 1 + 1) 2 _)).trans (Only.set1 _ (P + 1 + 1) 3 _)).trans (Only.set1 _ (P + 1 + 1) 4 _)
  have hR : Blk W5 (P + 1 + 1) 28 [c0, c1, c2, c3, c4] := by
    rw [← hW]
    exact ((((h.res.set 0 c0).set 1 c1).set 2 c2).set 3 c3).set 4 c4
  have hs := ho.size
  have hw4 := h.only.size
  refine ⟨hR, _, rfl, hsh, ?_, h.only.trans' ho (fun i hi e => by have e2 : i = P + 1 + 1 := e; omega)⟩
  cases res with
  | some p =>
    refine ⟨VAt.keep (fun b hb => ⟨by omega, by omega⟩) (fun b hb k u hu => ho.cell (fun e => by have e2 : b = P + 1 + 1 := e; omega) hu) hm.1, hm.2.only ho (fun e => by have e2 : rb = P + 1 + 1 := e; omega)⟩
  | none => exact RS.only (o := none) hm ho (fun e => by have e2 : rb = P + 1 + 1 := e; omega)
theorem ba_one (k : UInt8) : BA [k] = ⟨#[k]⟩ := rfl

set_option maxHeartbeats 8000000 in
set_option maxRecDepth 100000 in
theorem rv_zero (n : Nat) (w : World) (rb : Nat) (o : Option BL) (hR : RS w rb o) (ho : o = none ∨ o = some []) :
    Calls Tryd.prog 44 #[.pointer (some ⟨rb, 0, none⟩), .int .i64 (16 - (n : Int))] w (ValPost w rb (o.bind (rvalueL n))) := by
  have hn : o.bind (rvalueL n) = none := by
    rcases ho with rfl | rfl
    · rfl
    · show rvalueL n [] = none
      rw [rvalueL_rec]; rfl
  rw [hn]
  obtain ⟨d, hd⟩ : ∃ d, 16 - (n : Int) = d := ⟨_, rfl⟩
  rw [hd]
  obtain ⟨W, hW⟩ : ∃ W, (((w.alloc (.cells #[.pointer (some ⟨rb, 0, none⟩)] 76)).alloc (.cells #[.int .i64 d] 3)).alloc (.cells #[.int .i64 0, .int .i64 0, .string ⟨#[]⟩, .slice none 0 0, .slice none 0 0] 28)) = W := ⟨_, rfl⟩
  obtain ⟨P, hP⟩ : ∃ P, w.heap.size = P := ⟨_, rfl⟩
  have hl := hR.lt
  obtain ⟨b0, b1, b2, hb, hs3⟩ := rboxes hl hW.symm
  have hRW := hR.below hb
  have hC : Calls Tryd.prog 60 #[.pointer (some ⟨rb, 0, none⟩), .int .i64 (1 : Nat)] W fun e w' => e = .returned (.string ⟨#[]⟩) ∧ RS w' rb none ∧ Only (fun k => k = rb) W w' := by
    rcases ho with rfl | rfl
    · exact take_bad rb 1 W hRW
    · exact take_short rb 1 [] W hRW (by simp)
  clear hn ho
  have c0 := b0.cell 0
  rw [hP] at c0
  have H := Lib.hid (And.intro hC (And.intro hW (And.intro hR hP)))
  clear hC hR b0 b1 b2 hb hs3 hRW hl
  go_enter Tryd.func44, Tryd.ntmps44
  go_wp2_with fail
  (try rw [hW])
  (try rw [hP])
  refine H.out.1.mono ?_
  rintro e W2 ⟨rfl, hr2, ho2⟩
  have hS := VStart.of H.out.2.2.2 H.out.2.2.1 H.out.2.1.symm hr2 ho2
  clear hr2 ho2 c0 hW
  obtain ⟨W5, hW5⟩ : ∃ W5, (((((W2.setCell ⟨P + 1 + 1, 0, none⟩ (.int .i64 0)).setCell ⟨P + 1 + 1, 1, none⟩ (.int .i64 0)).setCell ⟨P + 1 + 1, 2, none⟩ (.string ⟨#[]⟩)).setCell ⟨P + 1 + 1, 3, none⟩ (.slice none 0 0)).setCell ⟨P + 1 + 1, 4, none⟩ (.slice none 0 0)) = W5 := ⟨_, rfl⟩
  have HF := Lib.hid (And.intro hW5 (rv_end (N := W2.heap.size) (res := none) hS hS.big ⟨0, 0, ⟨#[]⟩, none, 0, 0, none, 0, 0, rfl⟩ hS.rs hW5))
  have r0 := hS.res.cell 0
  have r1 := hS.res.cell 1
  have r2 := hS.res.cell 2
  have r3 := hS.res.cell 3
  have r4 := hS.res.cell 4
  have f0 := hS.res.frozen 0
  have f1 := hS.res.frozen 1
  have f2 := hS.res.frozen 2
  have f3 := hS.res.frozen 3
  have f4 := hS.res.frozen 4
  clear hW5 hS
  go_wp2
  rw [HF.out.1]
  (try simp only [Exit.inBlock, Exit.then])
  refine bodyPost_ret ?_ rfl HF.out.2.2
  exact results_cell_row rfl _ W5 (P + 1 + 1) 28 _ (0, 0) _ rfl HF.out.2.1 Tryd.underlying28 rfl (by kernel_rfl)

set_option maxHeartbeats 8000000 in
set_option maxRecDepth 100000 in
theorem rv_null (n : Nat) (w : World) (rb : Nat) (t : BL) (hR : RS w rb (some (1 :: t))) :
    Calls Tryd.prog 44 #[.pointer (some ⟨rb, 0, none⟩), .int .i64 (16 - (n : Int))] w (ValPost w rb (some (.null, t))) := by
  obtain ⟨d, hd⟩ : ∃ d, 16 - (n : Int) = d := ⟨_, rfl⟩
  rw [hd]
  obtain ⟨W, hW⟩ : ∃ W, (((w.alloc (.cells #[.pointer (some ⟨rb, 0, none⟩)] 76)).alloc (.cells #[.int .i64 d] 3)).alloc (.cells #[.int .i64 0, .int .i64 0, .string ⟨#[]⟩, .slice none 0 0, .slice none 0 0] 28)) = W := ⟨_, rfl⟩
  obtain ⟨P, hP⟩ : ∃ P, w.heap.size = P := ⟨_, rfl⟩
  have hl := hR.lt
  obtain ⟨b0, b1, b2, hb, hs3⟩ := rboxes hl hW.symm
  have hRW := hR.below hb
  have hC : Calls Tryd.prog 60 #[.pointer (some ⟨rb, 0, none⟩), .int .i64 (1 : Nat)] W fun e w' => e = .returned (.string (BA [1])) ∧ RS w' rb (some t) ∧ Only (fun k => k = rb) W w' := take_some rb 1 (1 :: t) W hRW (by simp)
  have c0 := b0.cell 0
  rw [hP] at c0
  have H := Lib.hid (And.intro hC (And.intro hW (And.intro hR hP)))
  clear hC hR b0 b1 b2 hb hs3 hRW hl
  go_enter Tryd.func44, Tryd.ntmps44
  go_wp2_with fail
  (try rw [hW])
  (try rw [hP])
  refine H.out.1.mono ?_
  rintro e W2 ⟨rfl, hr2, ho2⟩
  have hS := VStart.of H.out.2.2.2 H.out.2.2.1 H.out.2.1.symm hr2 ho2
  clear hr2 ho2 c0 hW
  have q0 : ∀ hh, (BA [1])[0]'hh = 1 := fun _ => rfl
  have q1 : (BA [1]).size = 1 := rfl
  have q2 : (BA [1]).toList.isEmpty = false := by decide +kernel
  have hp := hS.ptr.cell 0
  have he := hS.deep.cell 0
  have hS3 := hS.alloc (.cells #[.int .i64 0, .int .i64 0, .string ⟨#[]⟩, .slice none 0 0, .slice none 0 0] 28)
  have hN3 : Blk (W2.alloc (.cells #[.int .i64 0, .int .i64 0, .string ⟨#[]⟩, .slice none 0 0, .slice none 0 0] 28)) W2.heap.size 28 [.int .i64 0, .int .i64 0, .string ⟨#[]⟩, .slice none 0 0, .slice none 0 0] := heap_alloc_new W2 _
  have p3 := hS3.ptr.cell 0
  have e3 := hS3.deep.cell 0
  have hbig := hS.big
  have hrb := hS.rlt
  obtain ⟨N, hN⟩ : ∃ N, W2.heap.size = N := ⟨_, rfl⟩
  rw [hN] at hN3 hbig
  have hlt3 := hN3.lt
  have hsz := hS.size
  have H3 := Lib.hid (And.intro hS3 (And.intro hN3 (And.intro hbig (And.intro hrb (And.intro hlt3 hsz)))))
  clear hS hS3 hN3 hbig hrb hlt3 hsz
  have hS4 := H3.out.1
  have hN4 := H3.out.2.1
  have r0 := hS4.res.cell 0
  have r1 := hS4.res.cell 1
  have r2 := hS4.res.cell 2
  have r3 := hS4.res.cell 3
  have r4 := hS4.res.cell 4
  have f0 := hS4.res.frozen 0
  have f1 := hS4.res.frozen 1
  have f2 := hS4.res.frozen 2
  have f3 := hS4.res.frozen 3
  have f4 := hS4.res.frozen 4
  have g0 := hN4.cell 0
  have g1 := hN4.cell 1
  have g2 := hN4.cell 2
  have g3 := hN4.cell 3
  have g4 := hN4.cell 4
  have gf1 := hN4.frozen 1
  have gf2 := hN4.frozen 2
  have hNR1 : ¬ N = P + 1 + 1 := by have := H3.out.2.2.1; omega
  have hNR2 : ¬ P + 1 + 1 = N := by omega
  obtain ⟨W5, hW5⟩ : ∃ W5, ((((((W2.alloc (.cells #[.int .i64 0, .int .i64 0, .string ⟨#[]⟩, .slice none 0 0, .slice none 0 0] 28)).setCell ⟨P + 1 + 1, 0, none⟩ (.int .i64 0)).setCell ⟨P + 1 + 1, 1, none⟩ (.int .i64 0)).setCell ⟨P + 1 + 1, 2, none⟩ (.string ⟨#[]⟩)).setCell ⟨P + 1 + 1, 3, none⟩ (.slice none 0 0)).setCell ⟨P + 1 + 1, 4, none⟩ (.slice none 0 0)) = W5 := ⟨_, rfl⟩
  have HF := Lib.hid (And.intro hW5 (rv_end (N := N) (res := some (.null, t)) hS4 H3.out.2.2.1 ⟨0, 0, ⟨#[]⟩, none, 0, 0, none, 0, 0, rfl⟩ ⟨VAt.null, hS4.rs⟩ hW5))
  clear hW5 hS4 hN4
  go_wp2
  rw [HF.out.1]
  (try simp only [Exit.inBlock, Exit.then])
  refine bodyPost_ret ?_ rfl HF.out.2.2
  exact results_cell_row rfl _ W5 (P + 1 + 1) 28 _ (0, 0) _ rfl HF.out.2.1 Tryd.underlying28 rfl (by kernel_rfl)

set_option maxHeartbeats 8000000 in
set_option maxRecDepth 100000 in
theorem rv_other (n : Nat) (w : World) (rb : Nat) (k : UInt8) (t : BL) (hR : RS w rb (some (k :: t))) (h0 : k ≠ 1 ∧ k ≠ 2 ∧ k ≠ 3 ∧ k ≠ 4 ∧ k ≠ 5 ∧ k ≠ 6) :
    Calls Tryd.prog 44 #[.pointer (some ⟨rb, 0, none⟩), .int .i64 (16 - (n : Int))] w (ValPost w rb (none)) := by
  obtain ⟨c, hc⟩ : ∃ c, k.toNat = c := ⟨_, rfl⟩
  have hcl : c < 256 := by rw [← hc]; exact k.toNat_lt
  have hcs : c ≠ 1 ∧ c ≠ 2 ∧ c ≠ 3 ∧ c ≠ 4 ∧ c ≠ 5 ∧ c ≠ 6 := by
    refine ⟨?_, ?_, ?_, ?_, ?_, ?_⟩ <;> intro e <;> rw [e] at hc
    · exact h0.1 (UInt8.toNat_inj.mp hc)
    · exact h0.2.1 (UInt8.toNat_inj.mp hc)
    · exact h0.2.2.1 (UInt8.toNat_inj.mp hc)
    · exact h0.2.2.2.1 (UInt8.toNat_inj.mp hc)
    · exact h0.2.2.2.2.1 (UInt8.toNat_inj.mp hc)
    · exact h0.2.2.2.2.2 (UInt8.toNat_inj.mp hc)
  have hw1 : IntKind.i64.wrap ((c : Int) - 1) = (c : Int) - 1 := by rw [IntWalk.i64_in _ (by omega)]
  have hw2 : IntKind.i64.wrap (c : Int) = (c : Int) := by rw [IntWalk.i64_in _ (by omega)]
  have n0 : ¬ (c : Int) - 1 = 0 := by omega
  have n1 : ¬ (c : Int) - 1 = 1 := by omega
  have n2 : ¬ (c : Int) - 1 = 2 := by omega
  have n3 : ¬ (c : Int) - 1 = 3 := by omega
  have n4 : ¬ (c : Int) - 1 = 4 := by omega
  have n5 : ¬ (c : Int) - 1 = 5 := by omega
  obtain ⟨d, hd⟩ : ∃ d, 16 - (n : Int) = d := ⟨_, rfl⟩
  rw [hd]
  obtain ⟨W, hW⟩ : ∃ W, (((w.alloc (.cells #[.pointer (some ⟨rb, 0, none⟩)] 76)).alloc (.cells #[.int .i64 d] 3)).alloc (.cells #[.int .i64 0, .int .i64 0, .string ⟨#[]⟩, .slice none 0 0, .slice none 0 0] 28)) = W := ⟨_, rfl⟩
  obtain ⟨P, hP⟩ : ∃ P, w.heap.size = P := ⟨_, rfl⟩
  have hl := hR.lt
  obtain ⟨b0, b1, b2, hb, hs3⟩ := rboxes hl hW.symm
  have hRW := hR.below hb
  have hC : Calls Tryd.prog 60 #[.pointer (some ⟨rb, 0, none⟩), .int .i64 (1 : Nat)] W fun e w' => e = .returned (.string (BA [k])) ∧ RS w' rb (some t) ∧ Only (fun k => k = rb) W w' := take_some rb 1 (k :: t) W hRW (by simp)
  have c0 := b0.cell 0
  rw [hP] at c0
  have H := Lib.hid (And.intro hC (And.intro hW (And.intro hR hP)))
  clear hC hR b0 b1 b2 hb hs3 hRW hl
  go_enter Tryd.func44, Tryd.ntmps44
  go_wp2_with fail
  (try rw [hW])
  (try rw [hP])
  refine H.out.1.mono ?_
  rintro e W2 ⟨rfl, hr2, ho2⟩
  have hS := VStart.of H.out.2.2.2 H.out.2.2.1 H.out.2.1.symm hr2 ho2
  clear hr2 ho2 c0 hW
  have q0 : ∀ hh, (BA [k])[0]'hh = k := fun _ => rfl
  have q1 : (BA [k]).size = 1 := rfl
  have q2 : (BA [k]).toList.isEmpty = false := by rw [ba_tlx]; rfl
  have hp := hS.ptr.cell 0
  have he := hS.deep.cell 0
  have hS3 := hS.alloc (.cells #[.int .i64 ((c : Int) - 1), .int .i64 0, .string ⟨#[]⟩, .slice none 0 0, .slice none 0 0] 28)
  have hN3 : Blk (W2.alloc (.cells #[.int .i64 ((c : Int) - 1), .int .i64 0, .string ⟨#[]⟩, .slice none 0 0, .slice none 0 0] 28)) W2.heap.size 28 [.int .i64 ((c : Int) - 1), .int .i64 0, .string ⟨#[]⟩, .slice none 0 0, .slice none 0 0] := heap_alloc_new W2 _
  have p3 := hS3.ptr.cell 0
  have e3 := hS3.deep.cell 0
  have hbig := hS.big
  have hrb := hS.rlt
  obtain ⟨N, hN⟩ : ∃ N, W2.heap.size = N := ⟨_, rfl⟩
  rw [hN] at hN3 hbig
  have hlt3 := hN3.lt
  have hsz := hS.size
  have H3 := Lib.hid (And.intro hS3 (And.intro hN3 (And.intro hbig (And.intro hrb (And.intro hlt3 hsz)))))
  clear hS hS3 hN3 hbig hrb hlt3 hsz
  have hrt := H3.out.1.rs.cell 1
  have hrf := H3.out.1.rs.frozen 1
  have hN4 := H3.out.2.1.only (Only.set1 (W2.alloc (.cells #[.int .i64 ((c : Int) - 1), .int .i64 0, .string ⟨#[]⟩, .slice none 0 0, .slice none 0 0] 28)) rb 1 (.bool true)) (by have := H3.out.2.2.1; have := H3.out.2.2.2.1; omega)
  have hS4 := H3.out.1.next (o2 := none) (Only.set1 (W2.alloc (.cells #[.int .i64 ((c : Int) - 1), .int .i64 0, .string ⟨#[]⟩, .slice none 0 0, .slice none 0 0] 28)) rb 1 (.bool true)) ⟨_, Blk.set H3.out.1.rs 1 (.bool true)⟩
  have r0 := hS4.res.cell 0
  have r1 := hS4.res.cell 1
  have r2 := hS4.res.cell 2
  have r3 := hS4.res.cell 3
  have r4 := hS4.res.cell 4
  have f0 := hS4.res.frozen 0
  have f1 := hS4.res.frozen 1
  have f2 := hS4.res.frozen 2
  have f3 := hS4.res.frozen 3
  have f4 := hS4.res.frozen 4
  have g0 := hN4.cell 0
  have g1 := hN4.cell 1
  have g2 := hN4.cell 2
  have g3 := hN4.cell 3
  have g4 := hN4.cell 4
  have gf1 := hN4.frozen 1
  have gf2 := hN4.frozen 2
  have hNR1 : ¬ N = P + 1 + 1 := by have := H3.out.2.2.1; omega
  have hNR2 : ¬ P + 1 + 1 = N := by omega
  obtain ⟨W5, hW5⟩ : ∃ W5, (((((((W2.alloc (.cells #[.int .i64 ((c : Int) - 1), .int .i64 0, .string ⟨#[]⟩, .slice none 0 0, .slice none 0 0] 28)).setCell ⟨rb, 1, none⟩ (.bool true)).setCell ⟨P + 1 + 1, 0, none⟩ (.int .i64 ((c : Int) - 1))).setCell ⟨P + 1 + 1, 1, none⟩ (.int .i64 0)).setCell ⟨P + 1 + 1, 2, none⟩ (.string ⟨#[]⟩)).setCell ⟨P + 1 + 1, 3, none⟩ (.slice none 0 0)).setCell ⟨P + 1 + 1, 4, none⟩ (.slice none 0 0)) = W5 := ⟨_, rfl⟩
  have HF := Lib.hid (And.intro hW5 (rv_end (N := N) (res := none) hS4 H3.out.2.2.1 ⟨(c : Int) - 1, 0, ⟨#[]⟩, none, 0, 0, none, 0, 0, rfl⟩ hS4.rs hW5))
  clear hW5 hS4 hN4
  have hrx := hc
  clear h0 hcs
  go_wp2
  rw [HF.out.1]
  (try simp only [Exit.inBlock, Exit.then])
  refine bodyPost_ret ?_ rfl HF.out.2.2
  exact results_cell_row rfl _ W5 (P + 1 + 1) 28 _ (0, 0) _ rfl HF.out.2.1 Tryd.underlying28 rfl (by kernel_rfl)

theorem rnumL_range {s : BL} {p : Int × BL} (h : rnumL s = some p) : -9223372036854775808 ≤ p.1 ∧ p.1 ≤ 9223372036854775807 := by
  unfold rnumL at h
  split at h
  · cases h
  · cases h
    have h1 := beN_lt (s.take 8)
    have h2 : (s.take 8).length ≤ 8 := by rw [List.length_take]; omega
    have h3 : 256 ^ (s.take 8).length ≤ 256 ^ 8 := Nat.pow_le_pow_right (by omega) h2
    have h4 : (256 : Nat) ^ 8 = 18446744073709551616 := rfl
    show _ ≤ (_ : Int) ∧ (_ : Int) ≤ _
    omega

set_option maxHeartbeats 8000000 in
set_option maxRecDepth 100000 in
theorem rv_num (n : Nat) (w : World) (rb : Nat) (t : BL) (hR : RS w rb (some (3 :: t))) :
    Calls Tryd.prog 44 #[.pointer (some ⟨rb, 0, none⟩), .int .i64 (16 - (n : Int))] w (ValPost w rb ((rnumL t).map fun p => (.int p.1, p.2))) := by
  obtain ⟨d, hd⟩ : ∃ d, 16 - (n : Int) = d := ⟨_, rfl⟩
  rw [hd]
  obtain ⟨W, hW⟩ : ∃ W, (((w.alloc (.cells #[.pointer (some ⟨rb, 0, none⟩)] 76)).alloc (.cells #[.int .i64 d] 3)).alloc (.cells #[.int .i64 0, .int .i64 0, .string ⟨#[]⟩, .slice none 0 0, .slice none 0 0] 28)) = W := ⟨_, rfl⟩
  obtain ⟨P, hP⟩ : ∃ P, w.heap.size = P := ⟨_, rfl⟩
  have hl := hR.lt
  obtain ⟨b0, b1, b2, hb, hs3⟩ := rboxes hl hW.symm
  have hRW := hR.below hb
  have hC : Calls Tryd.prog 60 #[.pointer (some ⟨rb, 0, none⟩), .int .i64 (1 : Nat)] W fun e w' => e = .returned (.string (BA [3])) ∧ RS w' rb (some t) ∧ Only (fun k => k = rb) W w' := take_some rb 1 (3 :: t) W hRW (by simp)
  have c0 := b0.cell 0
  rw [hP] at c0
  have H := Lib.hid (And.intro hC (And.intro hW (And.intro hR hP)))
  clear hC hR b0 b1 b2 hb hs3 hRW hl
  go_enter Tryd.func44, Tryd.ntmps44
  go_wp2_with fail
  (try rw [hW])
  (try rw [hP])
  refine H.out.1.mono ?_
  rintro e W2 ⟨rfl, hr2, ho2⟩
  have hS := VStart.of H.out.2.2.2 H.out.2.2.1 H.out.2.1.symm hr2 ho2
  clear hr2 ho2 c0 hW
  have q0 : ∀ hh, (BA [3])[0]'hh = 3 := fun _ => rfl
  have q1 : (BA [3]).size = 1 := rfl
  have q2 : (BA [3]).toList.isEmpty = false := by decide +kernel
  have hp := hS.ptr.cell 0
  have he := hS.deep.cell 0
  have hS3 := hS.alloc (.cells #[.int .i64 2, .int .i64 0, .string ⟨#[]⟩, .slice none 0 0, .slice none 0 0] 28)
  have hN3 : Blk (W2.alloc (.cells #[.int .i64 2, .int .i64 0, .string ⟨#[]⟩, .slice none 0 0, .slice none 0 0] 28)) W2.heap.size 28 [.int .i64 2, .int .i64 0, .string ⟨#[]⟩, .slice none 0 0, .slice none 0 0] := heap_alloc_new W2 _
  have p3 := hS3.ptr.cell 0
  have e3 := hS3.deep.cell 0
  have hbig := hS.big
  have hrb := hS.rlt
  obtain ⟨N, hN⟩ : ∃ N, W2.heap.size = N := ⟨_, rfl⟩
  rw [hN] at hN3 hbig
  have hlt3 := hN3.lt
  have hsz := hS.size
  have H3 := Lib.hid (And.intro hS3 (And.intro hN3 (And.intro hbig (And.intro hrb (And.intro hlt3 hsz)))))
  clear hS hS3 hN3 hbig hrb hlt3 hsz
  go_wp2_with fail
  generalize hW3 : W2.alloc (.cells #[.int .i64 2, .int .i64 0, .string ⟨#[]⟩, .slice none 0 0, .slice none 0 0] 28) = W3 at H3 p3 e3 ⊢
  (try simp only [hN] at H3 ⊢)
  clear hW3 hN
  refine (rnumber_any rb t W3 H3.out.1.rs).mono ?_
  rintro e w4 ⟨m, rfl, hm, ho4⟩
  have hNR1 : ¬ N = P + 1 + 1 := by have := H3.out.2.2.1; omega
  have hNR2 : ¬ P + 1 + 1 = N := by omega
  have hNrb : ¬ N = rb := by have := H3.out.2.2.1; have := H3.out.2.2.2.1; omega
  obtain ⟨o4, hr4⟩ : ∃ o4, RS w4 rb o4 := by
    revert hm
    cases rnumL t <;> intro hm
    · exact ⟨_, hm⟩
    · exact ⟨_, hm.2⟩
  have hS4 := H3.out.1.next ho4 hr4
  have hN4 := H3.out.2.1.only ho4 hNrb
  have hM : MRes (fun b => N < b ∧ b < (w4.setCell ⟨N, 1, none⟩ (.int .i64 m)).heap.size) (w4.setCell ⟨N, 1, none⟩ (.int .i64 m)) rb ((rnumL t).map fun p => (.int p.1, p.2)) [.int .i64 2, .int .i64 m, .string ⟨#[]⟩, .slice none 0 0, .slice none 0 0] := by
    have ho5 := Only.set1 w4 N 1 (.int .i64 m)
    cases hres : rnumL t with
    | none =>
      rw [hres] at hm
      exact RS.only (o := none) hm ho5 (fun e => hNrb e.symm)
    | some p =>
      rw [hres] at hm
      refine ⟨?_, RS.only (o := some p.2) hm.2 ho5 (fun e => hNrb e.symm)⟩
      rw [hm.1]
      exact VAt.int _ (rnumL_range hres)
  obtain ⟨W5, hW5⟩ : ∃ W5, ((((((w4.setCell ⟨N, 1, none⟩ (.int .i64 m)).setCell ⟨P + 1 + 1, 0, none⟩ (.int .i64 2)).setCell ⟨P + 1 + 1, 1, none⟩ (.int .i64 m)).setCell ⟨P + 1 + 1, 2, none⟩ (.string ⟨#[]⟩)).setCell ⟨P + 1 + 1, 3, none⟩ (.slice none 0 0)).setCell ⟨P + 1 + 1, 4, none⟩ (.slice none 0 0)) = W5 := ⟨_, rfl⟩
  have HF := Lib.hid (And.intro hW5 (rv_end (N := N) (hS4.put H3.out.2.2.1 1 (.int .i64 m)) H3.out.2.2.1 ⟨_, _, _, _, _, _, _, _, _, rfl⟩ hM hW5))
  have r0 := hS4.res.cell 0
  have r1 := hS4.res.cell 1
  have r2 := hS4.res.cell 2
  have r3 := hS4.res.cell 3
  have r4 := hS4.res.cell 4
  have f0 := hS4.res.frozen 0
  have f1 := hS4.res.frozen 1
  have f2 := hS4.res.frozen 2
  have f3 := hS4.res.frozen 3
  have f4 := hS4.res.frozen 4
  have g0 := hN4.cell 0
  have g1 := hN4.cell 1
  have g2 := hN4.cell 2
  have g3 := hN4.cell 3
  have g4 := hN4.cell 4
  have gf1 := hN4.frozen 1
  have gf2 := hN4.frozen 2
  clear hW5 hS4 hN4 hM hm ho4 hr4 p3 e3
  go_wp2
  rw [HF.out.1]
  (try simp only [Exit.inBlock, Exit.then])
  refine bodyPost_ret ?_ rfl HF.out.2.2
  exact results_cell_row rfl _ W5 (P + 1 + 1) 28 _ (0, 0) _ rfl HF.out.2.1 Tryd.underlying28 rfl (by kernel_rfl)

set_option maxHeartbeats 8000000 in
set_option maxRecDepth 100000 in
theorem rv_text (n : Nat) (w : World) (rb : Nat) (t : BL) (hR : RS w rb (some (4 :: t))) (hs : t.length ≤ 1000000) :
    Calls Tryd.prog 44 #[.pointer (some ⟨rb, 0, none⟩), .int .i64 (16 - (n : Int))] w (ValPost w rb ((rtextL t).map fun p => (.text p.1, p.2))) := by
  obtain ⟨d, hd⟩ : ∃ d, 16 - (n : Int) = d := ⟨_, rfl⟩
  rw [hd]
  obtain ⟨W, hW⟩ : ∃ W, (((w.alloc (.cells #[.pointer (some ⟨rb, 0, none⟩)] 76)).alloc (.cells #[.int .i64 d] 3)).alloc (.cells #[.int .i64 0, .int .i64 0, .string ⟨#[]⟩, .slice none 0 0, .slice none 0 0] 28)) = W := ⟨_, rfl⟩
  obtain ⟨P, hP⟩ : ∃ P, w.heap.size = P := ⟨_, rfl⟩
  have hl := hR.lt
  obtain ⟨b0, b1, b2, hb, hs3⟩ := rboxes hl hW.symm
  have hRW := hR.below hb
  have hC : Calls Tryd.prog 60 #[.pointer (some ⟨rb, 0, none⟩), .int .i64 (1 : Nat)] W fun e w' => e = .returned (.string (BA [4])) ∧ RS w' rb (some t) ∧ Only (fun k => k = rb) W w' := take_some rb 1 (4 :: t) W hRW (by simp)
  have c0 := b0.cell 0
  rw [hP] at c0
  have H := Lib.hid (And.intro hC (And.intro hW (And.intro hR hP)))
  clear hC hR b0 b1 b2 hb hs3 hRW hl
  go_enter Tryd.func44, Tryd.ntmps44
  go_wp2_with fail
  (try rw [hW])
  (try rw [hP])
  refine H.out.1.mono ?_
  rintro e W2 ⟨rfl, hr2, ho2⟩
  have hS := VStart.of H.out.2.2.2 H.out.2.2.1 H.out.2.1.symm hr2 ho2
  clear hr2 ho2 c0 hW
  have q0 : ∀ hh, (BA [4])[0]'hh = 4 := fun _ => rfl
  have q1 : (BA [4]).size = 1 := rfl
  have q2 : (BA [4]).toList.isEmpty = false := by decide +kernel
  have hp := hS.ptr.cell 0
  have he := hS.deep.cell 0
  have hS3 := hS.alloc (.cells #[.int .i64 3, .int .i64 0, .string ⟨#[]⟩, .slice none 0 0, .slice none 0 0] 28)
  have hN3 : Blk (W2.alloc (.cells #[.int .i64 3, .int .i64 0, .string ⟨#[]⟩, .slice none 0 0, .slice none 0 0] 28)) W2.heap.size 28 [.int .i64 3, .int .i64 0, .string ⟨#[]⟩, .slice none 0 0, .slice none 0 0] := heap_alloc_new W2 _
  have p3 := hS3.ptr.cell 0
  have e3 := hS3.deep.cell 0
  have hbig := hS.big
  have hrb := hS.rlt
  obtain ⟨N, hN⟩ : ∃ N, W2.heap.size = N := ⟨_, rfl⟩
  rw [hN] at hN3 hbig
  have hlt3 := hN3.lt
  have hsz := hS.size
  have H3 := Lib.hid (And.intro hS3 (And.intro hN3 (And.intro hbig (And.intro hrb (And.intro hlt3 hsz)))))
  clear hS hS3 hN3 hbig hrb hlt3 hsz
  go_wp2_with fail
  generalize hW3 : W2.alloc (.cells #[.int .i64 3, .int .i64 0, .string ⟨#[]⟩, .slice none 0 0, .slice none 0 0] 28) = W3 at H3 p3 e3 ⊢
  (try simp only [hN] at H3 ⊢)
  clear hW3 hN
  refine (rtext_any rb t W3 hs H3.out.1.rs).mono ?_
  rintro e w4 ⟨tx, rfl, hm, ho4⟩
  have hNR1 : ¬ N = P + 1 + 1 := by have := H3.out.2.2.1; omega
  have hNR2 : ¬ P + 1 + 1 = N := by omega
  have hNrb : ¬ N = rb := by have := H3.out.2.2.1; have := H3.out.2.2.2.1; omega
  obtain ⟨o4, hr4⟩ : ∃ o4, RS w4 rb o4 := by
    revert hm
    cases rtextL t <;> intro hm
    · exact ⟨_, hm⟩
    · exact ⟨_, hm.2⟩
  have hS4 := H3.out.1.next ho4 hr4
  have hN4 := H3.out.2.1.only ho4 hNrb
  have hM : MRes (fun b => N < b ∧ b < (w4.setCell ⟨N, 2, none⟩ (.string tx)).heap.size) (w4.setCell ⟨N, 2, none⟩ (.string tx)) rb ((rtextL t).map fun p => (.text p.1, p.2)) [.int .i64 3, .int .i64 0, .string tx, .slice none 0 0, .slice none 0 0] := by
    have ho5 := Only.set1 w4 N 2 (.string tx)
    cases hres : rtextL t with
    | none =>
      rw [hres] at hm
      exact RS.only (o := none) hm ho5 (fun e => hNrb e.symm)
    | some p =>
      rw [hres] at hm
      refine ⟨?_, RS.only (o := some p.2) hm.2 ho5 (fun e => hNrb e.symm)⟩
      rw [hm.1]
      exact VAt.text _
  obtain ⟨W5, hW5⟩ : ∃ W5, ((((((w4.setCell ⟨N, 2, none⟩ (.string tx)).setCell ⟨P + 1 + 1, 0, none⟩ (.int .i64 3)).setCell ⟨P + 1 + 1, 1, none⟩ (.int .i64 0)).setCell ⟨P + 1 + 1, 2, none⟩ (.string tx)).setCell ⟨P + 1 + 1, 3, none⟩ (.slice none 0 0)).setCell ⟨P + 1 + 1, 4, none⟩ (.slice none 0 0)) = W5 := ⟨_, rfl⟩
  have HF := Lib.hid (And.intro hW5 (rv_end (N := N) (hS4.put H3.out.2.2.1 2 (.string tx)) H3.out.2.2.1 ⟨_, _, _, _, _, _, _, _, _, rfl⟩ hM hW5))
  have r0 := hS4.res.cell 0
  have r1 := hS4.res.cell 1
  have r2 := hS4.res.cell 2
  have r3 := hS4.res.cell 3
  have r4 := hS4.res.cell 4
  have f0 := hS4.res.frozen 0
  have f1 := hS4.res.frozen 1
  have f2 := hS4.res.frozen 2
  have f3 := hS4.res.frozen 3
  have f4 := hS4.res.frozen 4
  have g0 := hN4.cell 0
  have g1 := hN4.cell 1
  have g2 := hN4.cell 2
  have g3 := hN4.cell 3
  have g4 := hN4.cell 4
  have gf1 := hN4.frozen 1
  have gf2 := hN4.frozen 2
  clear hW5 hS4 hN4 hM hm ho4 hr4 p3 e3
  go_wp2
  rw [HF.out.1]
  (try simp only [Exit.inBlock, Exit.then])
  refine bodyPost_ret ?_ rfl HF.out.2.2
  exact results_cell_row rfl _ W5 (P + 1 + 1) 28 _ (0, 0) _ rfl HF.out.2.1 Tryd.underlying28 rfl (by kernel_rfl)

set_option maxHeartbeats 8000000 in
set_option maxRecDepth 100000 in
theorem rv_bool0 (n : Nat) (w : World) (rb : Nat) (hR : RS w rb (some (2 :: []))) :
    Calls Tryd.prog 44 #[.pointer (some ⟨rb, 0, none⟩), .int .i64 (16 - (n : Int))] w (ValPost w rb (rboolL [])) := by
  obtain ⟨t, ht⟩ : ∃ t : BL, t = [] := ⟨_, rfl⟩
  rw [← ht] at hR
  obtain ⟨d, hd⟩ : ∃ d, 16 - (n : Int) = d := ⟨_, rfl⟩
  rw [hd]
  obtain ⟨W, hW⟩ : ∃ W, (((w.alloc (.cells #[.pointer (some ⟨rb, 0, none⟩)] 76)).alloc (.cells #[.int .i64 d] 3)).alloc (.cells #[.int .i64 0, .int .i64 0, .string ⟨#[]⟩, .slice none 0 0, .slice none 0 0] 28)) = W := ⟨_, rfl⟩
  obtain ⟨P, hP⟩ : ∃ P, w.heap.size = P := ⟨_, rfl⟩
  have hl := hR.lt
  obtain ⟨b0, b1, b2, hb, hs3⟩ := rboxes hl hW.symm
  have hRW := hR.below hb
  have hC : Calls Tryd.prog 60 #[.pointer (some ⟨rb, 0, none⟩), .int .i64 (1 : Nat)] W fun e w' => e = .returned (.string (BA [2])) ∧ RS w' rb (some t) ∧ Only (fun k => k = rb) W w' := take_some rb 1 (2 :: t) W hRW (by simp)
  have c0 := b0.cell 0
  rw [hP] at c0
  have H := Lib.hid (And.intro hC (And.intro hW (And.intro hR hP)))
  clear hC hR b0 b1 b2 hb hs3 hRW hl
  go_enter Tryd.func44, Tryd.ntmps44
  go_wp2_with fail
  (try rw [hW])
  (try rw [hP])
  refine H.out.1.mono ?_
  rintro e W2 ⟨rfl, hr2, ho2⟩
  have hS := VStart.of H.out.2.2.2 H.out.2.2.1 H.out.2.1.symm hr2 ho2
  clear hr2 ho2 c0 hW
  have q0 : ∀ hh, (BA [2])[0]'hh = 2 := fun _ => rfl
  have q1 : (BA [2]).size = 1 := rfl
  have q2 : (BA [2]).toList.isEmpty = false := by decide +kernel
  have hp := hS.ptr.cell 0
  have he := hS.deep.cell 0
  have hS3 := hS.alloc (.cells #[.int .i64 1, .int .i64 0, .string ⟨#[]⟩, .slice none 0 0, .slice none 0 0] 28)
  have hN3 : Blk (W2.alloc (.cells #[.int .i64 1, .int .i64 0, .string ⟨#[]⟩, .slice none 0 0, .slice none 0 0] 28)) W2.heap.size 28 [.int .i64 1, .int .i64 0, .string ⟨#[]⟩, .slice none 0 0, .slice none 0 0] := heap_alloc_new W2 _
  have p3 := hS3.ptr.cell 0
  have e3 := hS3.deep.cell 0
  have hbig := hS.big
  have hrb := hS.rlt
  obtain ⟨N, hN⟩ : ∃ N, W2.heap.size = N := ⟨_, rfl⟩
  rw [hN] at hN3 hbig
  have hlt3 := hN3.lt
  have hsz := hS.size
  have H3 := Lib.hid (And.intro hS3 (And.intro hN3 (And.intro hbig (And.intro hrb (And.intro hlt3 hsz)))))
  clear hS hS3 hN3 hbig hrb hlt3 hsz
  go_wp2_with fail
  generalize hW3 : W2.alloc (.cells #[.int .i64 1, .int .i64 0, .string ⟨#[]⟩, .slice none 0 0, .slice none 0 0] 28) = W3 at H3 p3 e3 ⊢
  (try simp only [hN] at H3 ⊢)
  clear hW3 hN
  refine (take_short rb 1 [] W3 (by rw [← ht]; exact H3.out.1.rs) (by simp)).mono ?_
  rintro e w4 ⟨rfl, hr4, ho4⟩
  have hNR1 : ¬ N = P + 1 + 1 := by have := H3.out.2.2.1; omega
  have hNR2 : ¬ P + 1 + 1 = N := by omega
  have hNrb : ¬ N = rb := by have := H3.out.2.2.1; have := H3.out.2.2.2.1; omega
  have hS4 := H3.out.1.next ho4 hr4
  have hN4 := H3.out.2.1.only ho4 hNrb
  obtain ⟨W5, hW5⟩ : ∃ W5, (((((w4.setCell ⟨P + 1 + 1, 0, none⟩ (.int .i64 1)).setCell ⟨P + 1 + 1, 1, none⟩ (.int .i64 0)).setCell ⟨P + 1 + 1, 2, none⟩ (.string ⟨#[]⟩)).setCell ⟨P + 1 + 1, 3, none⟩ (.slice none 0 0)).setCell ⟨P + 1 + 1, 4, none⟩ (.slice none 0 0)) = W5 := ⟨_, rfl⟩
  have HF := Lib.hid (And.intro hW5 (rv_end (N := N) (res := none) hS4 H3.out.2.2.1 ⟨_, _, _, _, _, _, _, _, _, rfl⟩ hS4.rs hW5))
  have r0 := hS4.res.cell 0
  have r1 := hS4.res.cell 1
  have r2 := hS4.res.cell 2
  have r3 := hS4.res.cell 3
  have r4 := hS4.res.cell 4
  have f0 := hS4.res.frozen 0
  have f1 := hS4.res.frozen 1
  have f2 := hS4.res.frozen 2
  have f3 := hS4.res.frozen 3
  have f4 := hS4.res.frozen 4
  have g0 := hN4.cell 0
  have g1 := hN4.cell 1
  have g2 := hN4.cell 2
  have g3 := hN4.cell 3
  have g4 := hN4.cell 4
  have gf1 := hN4.frozen 1
  have gf2 := hN4.frozen 2
  clear hW5 hS4 hN4 ho4 hr4 p3 e3
  go_wp2
  rw [HF.out.1]
  (try simp only [Exit.inBlock, Exit.then])
  refine bodyPost_ret ?_ rfl HF.out.2.2
  exact results_cell_row rfl _ W5 (P + 1 + 1) 28 _ (0, 0) _ rfl HF.out.2.1 Tryd.underlying28 rfl (by kernel_rfl)

set_option maxHeartbeats 8000000 in
set_option maxRecDepth 100000 in
theorem rv_bool1 (n : Nat) (w : World) (rb : Nat) (k : UInt8) (t : BL) (hR : RS w rb (some (2 :: k :: t))) :
    Calls Tryd.prog 44 #[.pointer (some ⟨rb, 0, none⟩), .int .i64 (16 - (n : Int))] w (ValPost w rb (some (.bool k.toNat, t))) := by
  obtain ⟨t2, ht⟩ : ∃ t2 : BL, t2 = k :: t := ⟨_, rfl⟩
  rw [← ht] at hR
  obtain ⟨d, hd⟩ : ∃ d, 16 - (n : Int) = d := ⟨_, rfl⟩
  rw [hd]
  obtain ⟨W, hW⟩ : ∃ W, (((w.alloc (.cells #[.pointer (some ⟨rb, 0, none⟩)] 76)).alloc (.cells #[.int .i64 d] 3)).alloc (.cells #[.int .i64 0, .int .i64 0, .string ⟨#[]⟩, .slice none 0 0, .slice none 0 0] 28)) = W := ⟨_, rfl⟩
  obtain ⟨P, hP⟩ : ∃ P, w.heap.size = P := ⟨_, rfl⟩
  have hl := hR.lt
  obtain ⟨b0, b1, b2, hb, hs3⟩ := rboxes hl hW.symm
  have hRW := hR.below hb
  have hC : Calls Tryd.prog 60 #[.pointer (some ⟨rb, 0, none⟩), .int .i64 (1 : Nat)] W fun e w' => e = .returned (.string (BA [2])) ∧ RS w' rb (some t2) ∧ Only (fun k => k = rb) W w' := take_some rb 1 (2 :: t2) W hRW (by simp)
  have c0 := b0.cell 0
  rw [hP] at c0
  have H := Lib.hid (And.intro hC (And.intro hW (And.intro hR hP)))
  clear hC hR b0 b1 b2 hb hs3 hRW hl
  go_enter Tryd.func44, Tryd.ntmps44
  go_wp2_with fail
  (try rw [hW])
  (try rw [hP])
  refine H.out.1.mono ?_
  rintro e W2 ⟨rfl, hr2, ho2⟩
  have hS := VStart.of H.out.2.2.2 H.out.2.2.1 H.out.2.1.symm hr2 ho2
  clear hr2 ho2 c0 hW
  have q0 : ∀ hh, (BA [2])[0]'hh = 2 := fun _ => rfl
  have q1 : (BA [2]).size = 1 := rfl
  have q2 : (BA [2]).toList.isEmpty = false := by decide +kernel
  have hp := hS.ptr.cell 0
  have he := hS.deep.cell 0
  have hS3 := hS.alloc (.cells #[.int .i64 1, .int .i64 0, .string ⟨#[]⟩, .slice none 0 0, .slice none 0 0] 28)
  have hN3 : Blk (W2.alloc (.cells #[.int .i64 1, .int .i64 0, .string ⟨#[]⟩, .slice none 0 0, .slice none 0 0] 28)) W2.heap.size 28 [.int .i64 1, .int .i64 0, .string ⟨#[]⟩, .slice none 0 0, .slice none 0 0] := heap_alloc_new W2 _
  have p3 := hS3.ptr.cell 0
  have e3 := hS3.deep.cell 0
  have hbig := hS.big
  have hrb := hS.rlt
  obtain ⟨N, hN⟩ : ∃ N, W2.heap.size = N := ⟨_, rfl⟩
  rw [hN] at hN3 hbig
  have hlt3 := hN3.lt
  have hsz := hS.size
  have H3 := Lib.hid (And.intro hS3 (And.intro hN3 (And.intro hbig (And.intro hrb (And.intro hlt3 hsz)))))
  clear hS hS3 hN3 hbig hrb hlt3 hsz
  go_wp2_with fail
  generalize hW3 : W2.alloc (.cells #[.int .i64 1, .int .i64 0, .string ⟨#[]⟩, .slice none 0 0, .slice none 0 0] 28) = W3 at H3 p3 e3 ⊢
  (try simp only [hN] at H3 ⊢)
  clear hW3 hN
  refine (show Calls _ _ _ _ (fun e w' => e = .returned (.string (BA [k])) ∧ RS w' rb (some t) ∧ Only (· = rb) W3 w') from take_some rb 1 (k :: t) W3 (by rw [← ht]; exact H3.out.1.rs) (by simp)).mono ?_
  rintro e w4 ⟨rfl, hr4, ho4⟩
  have hNR1 : ¬ N = P + 1 + 1 := by have := H3.out.2.2.1; omega
  have hNR2 : ¬ P + 1 + 1 = N := by omega
  have hNrb : ¬ N = rb := by have := H3.out.2.2.1; have := H3.out.2.2.2.1; omega
  have hS4 := H3.out.1.next ho4 hr4
  have hN4 := H3.out.2.1.only ho4 hNrb
  obtain ⟨c, hc⟩ : ∃ c, k.toNat = c := ⟨_, rfl⟩
  have hcl : c < 256 := by rw [← hc]; exact k.toNat_lt
  have s0 : ∀ hh, (BA [k])[0]'hh = k := fun _ => rfl
  have s1 : (BA [k]).size = 1 := rfl
  have s2 : (BA [k]).toList.isEmpty = false := by rw [ba_tlx]; rfl
  have hw2 : IntKind.i64.wrap (c : Int) = (c : Int) := by rw [IntWalk.i64_in _ (by omega)]
  obtain ⟨W5, hW5⟩ : ∃ W5, ((((((w4.setCell ⟨N, 1, none⟩ (.int .i64 (c : Int))).setCell ⟨P + 1 + 1, 0, none⟩ (.int .i64 1)).setCell ⟨P + 1 + 1, 1, none⟩ (.int .i64 (c : Int))).setCell ⟨P + 1 + 1, 2, none⟩ (.string ⟨#[]⟩)).setCell ⟨P + 1 + 1, 3, none⟩ (.slice none 0 0)).setCell ⟨P + 1 + 1, 4, none⟩ (.slice none 0 0)) = W5 := ⟨_, rfl⟩
  have HF := Lib.hid (And.intro hW5 (rv_end (N := N) (res := some (.bool k.toNat, t)) (hS4.put H3.out.2.2.1 1 (.int .i64 (c : Int))) H3.out.2.2.1 ⟨_, _, _, _, _, _, _, _, _, rfl⟩ ⟨by rw [hc]; exact VAt.bool _ (by omega), (hS4.put H3.out.2.2.1 1 (.int .i64 (c : Int))).rs⟩ hW5))
  have r0 := hS4.res.cell 0
  have r1 := hS4.res.cell 1
  have r2 := hS4.res.cell 2
  have r3 := hS4.res.cell 3
  have r4 := hS4.res.cell 4
  have f0 := hS4.res.frozen 0
  have f1 := hS4.res.frozen 1
  have f2 := hS4.res.frozen 2
  have f3 := hS4.res.frozen 3
  have f4 := hS4.res.frozen 4
  have g0 := hN4.cell 0
  have g1 := hN4.cell 1
  have g2 := hN4.cell 2
  have g3 := hN4.cell 3
  have g4 := hN4.cell 4
  have gf1 := hN4.frozen 1
  have gf2 := hN4.frozen 2
  clear hW5 hS4 hN4 ho4 hr4 p3 e3
  go_wp2
  rw [HF.out.1]
  (try simp only [Exit.inBlock, Exit.then])
  refine bodyPost_ret ?_ rfl HF.out.2.2
  exact results_cell_row rfl _ W5 (P + 1 + 1) 28 _ (0, 0) _ rfl HF.out.2.1 Tryd.underlying28 rfl (by kernel_rfl)

end Go.Proofs.YthlioinmeimhoaaDoor