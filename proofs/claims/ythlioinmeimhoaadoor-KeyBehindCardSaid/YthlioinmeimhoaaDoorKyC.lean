/- Keys: a number read. -/
import Derived.Test.YthlioinmeimhoaaDoorKyB
namespace Go.Proofs.YthlioinmeimhoaaDoor
open Go.Shelf Go.RowKit Go.Lib

def k1S : ByteArray := BA [3, 128, 0, 0, 0, 0, 0, 0, 1]
theorem k1_a : k1S.extract 0 1 = BA [3] := by decide +kernel
theorem k1_b : k1S.extract 1 k1S.size = BA [128, 0, 0, 0, 0, 0, 0, 1] := by decide +kernel
theorem k1_c : (BA [128, 0, 0, 0, 0, 0, 0, 1]).extract 0 8 = BA [128, 0, 0, 0, 0, 0, 0, 1] := by decide +kernel
theorem k1_d : (BA [128, 0, 0, 0, 0, 0, 0, 1]).extract 8 (BA [128, 0, 0, 0, 0, 0, 0, 1]).size = ⟨#[]⟩ := by decide +kernel

/-- what the reader's value finds when it begins: its own pointer, its result's place. -/
structure RIn (w W : World) (rb : Nat) (s : ByteArray) : Prop where
  rd : Blk W rb 78 [.string s, .bool false]
  ptr : Blk W w.heap.size 76 [.pointer (some ⟨rb, 0, none⟩)]
  res : Blk W (w.heap.size + 1 + 1) 28 [.int .i64 0, .int .i64 0, .string ⟨#[]⟩, .slice none 0 0, .slice none 0 0]
  only : Only (fun k => k = rb) w W
  lt : rb < w.heap.size
theorem rin_start (w : World) (rb : Nat) (s : ByteArray) (d : Int) (hB : Blk w rb 78 [.string s, .bool false]) :
    RIn w (((w.alloc (.cells #[.pointer (some ⟨rb, 0, none⟩)] 76)).alloc (.cells #[.int .i64 d] 3)).alloc (.cells #[.int .i64 0, .int .i64 0, .string ⟨#[]⟩, .slice none 0 0, .slice none 0 0] 28)) rb s := by
  have h1 : Blk (w.alloc (.cells #[.pointer (some ⟨rb, 0, none⟩)] 76)) w.heap.size 76 [.pointer (some ⟨rb, 0, none⟩)] := heap_alloc_new w _
  refine ⟨((hB.alloc _).alloc _).alloc _, (h1.alloc _).alloc _, ?_, ((Only.alloc _ _ _).trans (Only.alloc _ _ _)).trans (Only.alloc _ _ _), hB.lt⟩
  have h := heap_alloc_new ((w.alloc (.cells #[.pointer (some ⟨rb, 0, none⟩)] 76)).alloc (.cells #[.int .i64 d] 3)) (.cells #[.int .i64 0, .int .i64 0, .string ⟨#[]⟩, .slice none 0 0, .slice none 0 0] 28)
  have e : ((w.alloc (.cells #[.pointer (some ⟨rb, 0, none⟩)] 76)).alloc (.cells #[.int .i64 d] 3)).heap.size = w.heap.size + 1 + 1 := by simp
  rw [e] at h
  exact h
theorem RIn.next {w W W2 : World} {rb : Nat} {s s2 : ByteArray} (h : RIn w W rb s) (hB : Blk W2 rb 78 [.string s2, .bool false]) (ho : Only (· = rb) W W2) : RIn w W2 rb s2 :=
  ⟨hB, h.ptr.only ho (fun e => by have := h.lt; omega), h.res.only ho (fun e => by have := h.lt; omega), h.only.trans ho, h.lt⟩
theorem RIn.alloc {w W : World} {rb : Nat} {s : ByteArray} (h : RIn w W rb s) (o : Obj) : RIn w (W.alloc o) rb s :=
  ⟨h.rd.alloc o, h.ptr.alloc o, h.res.alloc o, h.only.trans (Only.alloc _ _ _), h.lt⟩

set_option maxHeartbeats 4000000 in
set_option maxRecDepth 100000 in
theorem rvalue_one (rb : Nat) (w : World) (hB : Blk w rb 78 [.string k1S, .bool false]) :
    Calls Tryd.prog 44 #[.pointer (some ⟨rb, 0, none⟩), .int .i64 1] w fun e w' => e = .returned (vInt 1) ∧ Blk w' rb 78 [.string ⟨#[]⟩, .bool false] ∧ Only (· = rb) w w' := by
  have H0 := Lib.hid (rin_start w rb k1S 1 hB)
  clear hB
  go_enter Tryd.func44, Tryd.ntmps44
  go_wp2_with fail
  refine (take_ok rb 1 k1S _ H0.out.rd (by decide)).mono ?_
  rintro e w2 ⟨rfl, hB2, hO2⟩
  rw [k1_a]
  rw [k1_b] at hB2
  have H2 := Lib.hid (H0.out.next hB2 hO2)
  have hp := H2.out.ptr.cell 0
  clear hB2 hO2
  have q0 : ∀ hh, (BA [3])[0]'hh = 3 := fun _ => rfl
  have q1 : (BA [3]).size = 1 := rfl
  have q2 : (BA [3]).toList.isEmpty = false := by decide +kernel
  have H3 := Lib.hid (And.intro (H2.out.alloc (.cells #[.int .i64 2, .int .i64 0, .string ⟨#[]⟩, .slice none 0 0, .slice none 0 0] 28)) (show Blk _ w2.heap.size 28 [.int .i64 2, .int .i64 0, .string ⟨#[]⟩, .slice none 0 0, .slice none 0 0] from heap_alloc_new w2 _))
  have hp3 := H3.out.1.ptr.cell 0
  have hr2 : rb ≠ w2.heap.size := by have := H2.out.lt; have := H2.out.only.size; omega
  go_wp2_with fail
  generalize hW3 : w2.alloc (.cells #[.int .i64 2, .int .i64 0, .string ⟨#[]⟩, .slice none 0 0, .slice none 0 0] 28) = w3 at H3 hp3 ⊢
  obtain ⟨N, hN⟩ : ∃ N, w2.heap.size = N := ⟨_, rfl⟩
  have HN := Lib.hid (And.intro hN (And.intro hr2 (show w.heap.size < N by have := H2.out.only.size; have := H2.out.res.lt; omega)))
  simp only [hN] at H3 ⊢
  clear hW3 hN hr2 hp q0 q1 q2
  refine (rnumber_one rb (BA [128, 0, 0, 0, 0, 0, 0, 1]) ⟨#[]⟩ _ H3.out.1.rd (by decide) k1_c k1_d).mono ?_
  rintro e w4 ⟨rfl, hB4, hO4⟩
  have H4 := Lib.hid (And.intro (H3.out.1.next hB4 hO4) (H3.out.2.only hO4 (fun e => HN.out.2.1 (by rw [HN.out.1]; exact e.symm))))
  clear hB4 hO4 hp3
  obtain ⟨R, hR⟩ : ∃ R, w.heap.size + 1 + 1 = R := ⟨_, rfl⟩
  have hres := H4.out.1.res
  rw [hR] at hres
  have hRN : ¬ R = N := fun e => by
    rw [e] at hres
    have := (hres.inj H4.out.2).2
    simp at this
  have hNR : ¬ N = R := fun e => hRN e.symm
  have r0 := hres.cell 0
  have r1 := hres.cell 1
  have r2 := hres.cell 2
  have r3 := hres.cell 3
  have r4 := hres.cell 4
  have s0 := hres.frozen 0
  have s1 := hres.frozen 1
  have s2 := hres.frozen 2
  have s3 := hres.frozen 3
  have s4 := hres.frozen 4
  have HRR := Lib.hid (And.intro hR hres)
  simp only [hR]
  clear hres hR
  have f1 := H4.out.2.frozen 1
  have g0 := H4.out.2.cell 0
  have g1 := H4.out.2.cell 1
  have g2 := H4.out.2.cell 2
  have g3 := H4.out.2.cell 3
  have g4 := H4.out.2.cell 4
  have hlt := H4.out.1.lt
  have hRw : w.heap.size ≤ R := by have := HRR.out.1; omega
  have hNw : w.heap.size ≤ N := by have := HN.out.2.2; omega
  obtain ⟨W5, hW5⟩ : ∃ W5, ((((((w4.setCell ⟨N, 1, none⟩ (.int .i64 1)).setCell ⟨R, 0, none⟩ (.int .i64 2)).setCell ⟨R, 1, none⟩ (.int .i64 1)).setCell ⟨R, 2, none⟩ (.string ⟨#[]⟩)).setCell ⟨R, 3, none⟩ (.slice none 0 0)).setCell ⟨R, 4, none⟩ (.slice none 0 0)) = W5 := ⟨_, rfl⟩
  have ho5 : Only (fun x => x = N ∨ x = R) w4 W5 := by
    rw [← hW5]
    exact (((((Only.setCell (S := fun x => x = N ∨ x = R) (p := ⟨N, 1, none⟩) w4 (.inl rfl) _).trans (Only.setCell (p := ⟨R, 0, none⟩) _ (.inr rfl) _)).trans (Only.setCell (p := ⟨R, 1, none⟩) _ (.inr rfl) _)).trans (Only.setCell (p := ⟨R, 2, none⟩) _ (.inr rfl) _)).trans (Only.setCell (p := ⟨R, 3, none⟩) _ (.inr rfl) _)).trans (Only.setCell (p := ⟨R, 4, none⟩) _ (.inr rfl) _)
  have hR5 : Blk W5 R 28 [.int .i64 2, .int .i64 1, .string ⟨#[]⟩, .slice none 0 0, .slice none 0 0] := by
    rw [← hW5]
    exact (((((HRR.out.2.only (Only.set1 w4 N 1 _) hRN).set 0 (.int .i64 2)).set 1 (.int .i64 1)).set 2 (.string ⟨#[]⟩)).set 3 (.slice none 0 0)).set 4 (.slice none 0 0)
  have hrd5 := H4.out.1.rd.only ho5 (fun e => by rcases e with e | e <;> omega)
  have hon5 : Only (fun k => k = rb) w W5 := H4.out.1.only.trans' ho5 (fun i hi e => by rcases e with e | e <;> omega)
  have HF := Lib.hid (And.intro hW5 (And.intro hR5 (And.intro hrd5 hon5)))
  clear hW5 ho5 hR5 hrd5 hon5 hlt hRw hNw
  go_wp2
  rw [HF.out.1]
  (try simp only [Exit.inBlock, Exit.then])
  refine bodyPost_ret (v := vInt 1) ?_ rfl ⟨rfl, HF.out.2.2⟩
  exact results_cell_row rfl _ W5 R 28 _ (0, 0) _ rfl HF.out.2.1 Tryd.underlying28 rfl (by kernel_rfl)
end Go.Proofs.YthlioinmeimhoaaDoor
