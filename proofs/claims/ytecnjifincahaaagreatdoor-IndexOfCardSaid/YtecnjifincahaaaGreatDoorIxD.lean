/- path.step: what a part names. -/
import Derived.Test.YtecnjifincahaaaGreatDoorIxC
namespace Go.Proofs.YtecnjifincahaaaGreatDoor
open Go.Shelf Go.RowKit Go.Lib

set_option maxHeartbeats 8000000 in
set_option maxRecDepth 100000 in
theorem step_get (q0 q1 : Int) (q2 : ByteArray) (q3 : Option Addr) (q4 q5 : Nat) (q6 : Option Addr) (q7 q8 : Nat) (ok : Bool) (nm : ByteArray) (PD : World → List Value → Prop) (w : World) (hq : ¬ q0 = 4) (hsh : ∀ W d, PD W d → ∃ k n s p1 l1 c1 p2 l2 c2, d = [.int .i64 k, .int .i64 n, .string s, .slice p1 l1 c1, .slice p2 l2 c2]) (hPD : ∀ W1 W2 d, PD W1 d → Below w.heap.size W1 W2 → PD W2 d)
    (hget : ∀ W, Below w.heap.size w W → Calls Tryz.prog 87 #[.agg #[.int .i64 q0, .int .i64 q1, .string q2, .slice q3 q4 q5, .slice q6 q7 q8], .string nm] W fun e w' => ∃ d, e = .returned (.tuple #[.agg d.toArray, .bool ok]) ∧ PD w' d ∧ Below W.heap.size W w') :
    Calls Tryz.prog 62 #[.agg #[.int .i64 q0, .int .i64 q1, .string q2, .slice q3 q4 q5, .slice q6 q7 q8], .string nm] w fun e w' => ∃ d, e = .returned (.tuple #[.agg d.toArray, .bool ok]) ∧ PD w' d ∧ Below w.heap.size w w' := by
  obtain ⟨W0, hW0⟩ : ∃ W0, (w.alloc (.cells #[.int .i64 q0, .int .i64 q1, .string q2, .slice q3 q4 q5, .slice q6 q7 q8] 40)).alloc (.cells #[.int .i64 0, .int .i64 0, .string ⟨#[]⟩, .slice none 0 0, .slice none 0 0] 40) = W0 := ⟨_, rfl⟩
  have hb0 : Below w.heap.size w W0 := by rw [← hW0]; exact ((Below.refl _ w).alloc (Nat.le_refl _) _).alloc (by simp) _
  have hk1 : Blk W0 (w.heap.size + 1) 40 [.int .i64 0, .int .i64 0, .string ⟨#[]⟩, .slice none 0 0, .slice none 0 0] := by rw [← hW0]; exact blk_new2 w _ _ _
  have hk0 : Blk W0 w.heap.size 40 [.int .i64 q0, .int .i64 q1, .string q2, .slice q3 q4 q5, .slice q6 q7 q8] := by rw [← hW0]; exact Blk.alloc (heap_alloc_new w _) _
  have hq2 : (q0 != 4) = true := by simpa using hq
  have hcall := hget W0 hb0
  obtain ⟨P, hP⟩ : ∃ P, w.heap.size + 1 = P := ⟨_, rfl⟩
  rw [hP] at hk1
  have H0 := Lib.hid (And.intro hW0 (And.intro hb0 (And.intro hcall (And.intro hk1 (And.intro hP (And.intro hsh hPD))))))
  clear hW0 hb0 hk1 hk0 hcall hget hP hsh hPD
  go_enter Tryz.func62, Tryz.ntmps62
  go_wp2_with fail
  rw [H0.out.1]
  refine (show Calls _ _ _ _ _ from H0.out.2.2.1).mono ?_
  rintro e w2 ⟨d, rfl, hd, hb2⟩
  obtain ⟨d0, d1, d2, d3, d4, d5, d6, d7, d8, rfl⟩ := H0.out.2.2.2.2.2.1 _ _ hd
  have hk2 := H0.out.2.2.2.1.below hb2
  rw [H0.out.2.2.2.2.1]
  obtain ⟨W5, hW5⟩ : ∃ W5, (((((w2.setCell ⟨P, 0, none⟩ (.int .i64 d0)).setCell ⟨P, 1, none⟩ (.int .i64 d1)).setCell ⟨P, 2, none⟩ (.string d2)).setCell ⟨P, 3, none⟩ (.slice d3 d4 d5)).setCell ⟨P, 4, none⟩ (.slice d6 d7 d8)) = W5 := ⟨_, rfl⟩
  have hp5 := put5 hk2 hW5
  have hfin : Below w.heap.size w W5 := (H0.out.2.1.trans (hb2.mono H0.out.2.1.size)).trans (hp5.2.below (Nat.le_trans H0.out.2.1.size hb2.size) (fun k hk e => by have := H0.out.2.2.2.2.1; omega))
  have hpd := H0.out.2.2.2.2.2.2 _ W5 _ hd (hp5.2.below (Nat.le_trans H0.out.2.1.size hb2.size) (fun k hk e => by have := H0.out.2.2.2.2.1; omega))
  have HF := Lib.hid (And.intro hW5 (And.intro hp5.1 (And.intro hfin hpd)))
  have r0 := hk2.cell 0
  have s0 := hk2.frozen 0
  have r1 := hk2.cell 1
  have s1 := hk2.frozen 1
  have r2 := hk2.cell 2
  have s2 := hk2.frozen 2
  have r3 := hk2.cell 3
  have s3 := hk2.frozen 3
  have r4 := hk2.cell 4
  have s4 := hk2.frozen 4
  clear hW5 hp5 hfin hk2 hb2 hd hpd
  go_wp2
  rw [HF.out.1]
  have z0 := HF.out.2.1.cell 0
  have z1 := HF.out.2.1.cell 1
  have z2 := HF.out.2.1.cell 2
  have z3 := HF.out.2.1.cell 3
  have z4 := HF.out.2.1.cell 4
  (try simp only [Exit.inBlock, Exit.then])
  refine bodyPost_ret (v := .tuple #[.agg #[.int .i64 d0, .int .i64 d1, .string d2, .slice d3 d4 d5, .slice d6 d7 d8], .bool ok]) ?_ rfl ⟨_, rfl, HF.out.2.2.2, HF.out.2.2.1⟩
  rw [results_cell_tmp rfl]
  go_simp

set_option maxHeartbeats 8000000 in
set_option maxRecDepth 100000 in
theorem step_list0 (q : Option Addr) (n cap : Nat) (nm : ByteArray) (w : World) (hpl : ∀ W, Below w.heap.size w W → Calls Tryz.prog 88 #[.slice q n cap, .string nm] W fun e w' => e = .returned (.int .i64 (-1)) ∧ Below W.heap.size W w') :
    Calls Tryz.prog 62 #[.agg #[.int .i64 4, .int .i64 0, .string ⟨#[]⟩, .slice q n cap, .slice none 0 0], .string nm] w fun e w' => e = .returned (.tuple #[.agg #[.int .i64 0, .int .i64 0, .string ⟨#[]⟩, .slice none 0 0, .slice none 0 0], .bool false]) ∧ Below w.heap.size w w' := by
  obtain ⟨W0, hW0⟩ : ∃ W0, (w.alloc (.cells #[.int .i64 4, .int .i64 0, .string ⟨#[]⟩, .slice q n cap, .slice none 0 0] 40)).alloc (.cells #[.int .i64 0, .int .i64 0, .string ⟨#[]⟩, .slice none 0 0, .slice none 0 0] 40) = W0 := ⟨_, rfl⟩
  have hb0 : Below w.heap.size w W0 := by rw [← hW0]; exact ((Below.refl _ w).alloc (Nat.le_refl _) _).alloc (by simp) _
  have hk1 : Blk W0 (w.heap.size + 1) 40 [.int .i64 0, .int .i64 0, .string ⟨#[]⟩, .slice none 0 0, .slice none 0 0] := by rw [← hW0]; exact blk_new2 w _ _ _
  have hk0 : Blk W0 w.heap.size 40 [.int .i64 4, .int .i64 0, .string ⟨#[]⟩, .slice q n cap, .slice none 0 0] := by rw [← hW0]; exact Blk.alloc (heap_alloc_new w _) _
  have hcall := hpl W0 hb0
  obtain ⟨P, hP⟩ : ∃ P, w.heap.size + 1 = P := ⟨_, rfl⟩
  rw [hP] at hk1
  have H0 := Lib.hid (And.intro hW0 (And.intro hb0 (And.intro hcall (And.intro hk1 hP))))
  clear hW0 hb0 hk1 hk0 hcall hpl hP
  go_enter Tryz.func62, Tryz.ntmps62
  go_wp2_with fail
  rw [H0.out.1]
  refine (show Calls _ _ _ _ _ from H0.out.2.2.1).mono ?_
  rintro e w2 ⟨rfl, hb2⟩
  have hk2 := H0.out.2.2.2.1.below hb2
  rw [H0.out.2.2.2.2]
  obtain ⟨W5, hW5⟩ : ∃ W5, (((((w2.setCell ⟨P, 0, none⟩ (.int .i64 0)).setCell ⟨P, 1, none⟩ (.int .i64 0)).setCell ⟨P, 2, none⟩ (.string ⟨#[]⟩)).setCell ⟨P, 3, none⟩ (.slice none 0 0)).setCell ⟨P, 4, none⟩ (.slice none 0 0)) = W5 := ⟨_, rfl⟩
  have hp5 := put5 hk2 hW5
  have hfin : Below w.heap.size w W5 := (H0.out.2.1.trans (hb2.mono H0.out.2.1.size)).trans (hp5.2.below (Nat.le_trans H0.out.2.1.size hb2.size) (fun k hk e => by have := H0.out.2.2.2.2; omega))
  have HF := Lib.hid (And.intro hW5 (And.intro hp5.1 hfin))
  have r0 := hk2.cell 0
  have s0 := hk2.frozen 0
  have r1 := hk2.cell 1
  have s1 := hk2.frozen 1
  have r2 := hk2.cell 2
  have s2 := hk2.frozen 2
  have r3 := hk2.cell 3
  have s3 := hk2.frozen 3
  have r4 := hk2.cell 4
  have s4 := hk2.frozen 4
  clear hW5 hp5 hfin hk2 hb2
  go_wp2
  rw [HF.out.1]
  have z0 := HF.out.2.1.cell 0
  have z1 := HF.out.2.1.cell 1
  have z2 := HF.out.2.1.cell 2
  have z3 := HF.out.2.1.cell 3
  have z4 := HF.out.2.1.cell 4
  (try simp only [Exit.inBlock, Exit.then])
  refine bodyPost_ret (v := .tuple #[.agg #[.int .i64 0, .int .i64 0, .string ⟨#[]⟩, .slice none 0 0, .slice none 0 0], .bool false]) ?_ rfl ⟨rfl, HF.out.2.2⟩
  rw [results_cell_tmp rfl]
  go_simp

set_option maxHeartbeats 8000000 in
set_option maxRecDepth 100000 in
theorem step_list1 (b n cap k : Nat) (hk : k < n) (d0 d1 : Int) (d2 : ByteArray) (d3 : Option Addr) (d4 d5 : Nat) (d6 : Option Addr) (d7 d8 : Nat) (nm : ByteArray) (w : World)
    (e0 : w.cell? ⟨b, k * 5, none⟩ = some (.int .i64 d0)) (e1 : w.cell? ⟨b, k * 5 + 1, none⟩ = some (.int .i64 d1)) (e2 : w.cell? ⟨b, k * 5 + 2, none⟩ = some (.string d2)) (e3 : w.cell? ⟨b, k * 5 + 3, none⟩ = some (.slice d3 d4 d5)) (e4 : w.cell? ⟨b, k * 5 + 4, none⟩ = some (.slice d6 d7 d8))
    (hpl : ∀ W, Below w.heap.size w W → Calls Tryz.prog 88 #[.slice (some ⟨b, 0, none⟩) n cap, .string nm] W fun e w' => e = .returned (.int .i64 k) ∧ Below W.heap.size W w') :
    Calls Tryz.prog 62 #[.agg #[.int .i64 4, .int .i64 0, .string ⟨#[]⟩, .slice (some ⟨b, 0, none⟩) n cap, .slice none 0 0], .string nm] w fun e w' => e = .returned (.tuple #[.agg #[.int .i64 d0, .int .i64 d1, .string d2, .slice d3 d4 d5, .slice d6 d7 d8], .bool true]) ∧ Below w.heap.size w w' := by
  obtain ⟨W0, hW0⟩ : ∃ W0, (w.alloc (.cells #[.int .i64 4, .int .i64 0, .string ⟨#[]⟩, .slice (some ⟨b, 0, none⟩) n cap, .slice none 0 0] 40)).alloc (.cells #[.int .i64 0, .int .i64 0, .string ⟨#[]⟩, .slice none 0 0, .slice none 0 0] 40) = W0 := ⟨_, rfl⟩
  have hb0 : Below w.heap.size w W0 := by rw [← hW0]; exact ((Below.refl _ w).alloc (Nat.le_refl _) _).alloc (by simp) _
  have hk1 : Blk W0 (w.heap.size + 1) 40 [.int .i64 0, .int .i64 0, .string ⟨#[]⟩, .slice none 0 0, .slice none 0 0] := by rw [← hW0]; exact blk_new2 w _ _ _
  have hk0 : Blk W0 w.heap.size 40 [.int .i64 4, .int .i64 0, .string ⟨#[]⟩, .slice (some ⟨b, 0, none⟩) n cap, .slice none 0 0] := by rw [← hW0]; exact Blk.alloc (heap_alloc_new w _) _
  have hcall := hpl W0 hb0
  obtain ⟨P, hP⟩ : ∃ P, w.heap.size + 1 = P := ⟨_, rfl⟩
  rw [hP] at hk1
  have H0 := Lib.hid (And.intro hW0 (And.intro hb0 (And.intro hcall (And.intro hk1 (And.intro hP (And.intro hk0 (And.intro e0 (And.intro e1 (And.intro e2 (And.intro e3 e4))))))))))
  have hkN : (k : Int) < (n : Int) := by omega
  have hk0z : (0 : Int) ≤ (k : Int) := by omega
  have hkn : ¬ (k : Int) < 0 := by omega
  clear hW0 hb0 hk1 hk0 hcall hpl hP e0 e1 e2 e3 e4
  go_enter Tryz.func62, Tryz.ntmps62
  go_wp2_with fail
  rw [H0.out.1]
  refine (show Calls _ _ _ _ _ from H0.out.2.2.1).mono ?_
  rintro e w2 ⟨rfl, hb2⟩
  have hk2 := H0.out.2.2.2.1.below hb2
  have hbx := H0.out.2.2.2.2.2.1.below hb2
  have hbw := H0.out.2.1.trans (hb2.mono H0.out.2.1.size)
  rw [H0.out.2.2.2.2.1]
  obtain ⟨W5, hW5⟩ : ∃ W5, (((((w2.setCell ⟨P, 0, none⟩ (.int .i64 d0)).setCell ⟨P, 1, none⟩ (.int .i64 d1)).setCell ⟨P, 2, none⟩ (.string d2)).setCell ⟨P, 3, none⟩ (.slice d3 d4 d5)).setCell ⟨P, 4, none⟩ (.slice d6 d7 d8)) = W5 := ⟨_, rfl⟩
  have hp5 := put5 hk2 hW5
  have hfin : Below w.heap.size w W5 := hbw.trans (hp5.2.below (Nat.le_trans H0.out.2.1.size hb2.size) (fun k hk e => by have := H0.out.2.2.2.2.1; omega))
  have HF := Lib.hid (And.intro hW5 (And.intro hp5.1 hfin))
  have b3 := hbx.cell 3
  have a0 := bcell hbw H0.out.2.2.2.2.2.2.1
  have a1 := bcell hbw H0.out.2.2.2.2.2.2.2.1
  have a2 := bcell hbw H0.out.2.2.2.2.2.2.2.2.1
  have a3 := bcell hbw H0.out.2.2.2.2.2.2.2.2.2.1
  have a4 := bcell hbw H0.out.2.2.2.2.2.2.2.2.2.2
  have r0 := hk2.cell 0
  have s0 := hk2.frozen 0
  have r1 := hk2.cell 1
  have s1 := hk2.frozen 1
  have r2 := hk2.cell 2
  have s2 := hk2.frozen 2
  have r3 := hk2.cell 3
  have s3 := hk2.frozen 3
  have r4 := hk2.cell 4
  have s4 := hk2.frozen 4
  clear hW5 hp5 hfin hk2 hb2 hbx hbw
  go_wp2
  rw [HF.out.1]
  have z0 := HF.out.2.1.cell 0
  have z1 := HF.out.2.1.cell 1
  have z2 := HF.out.2.1.cell 2
  have z3 := HF.out.2.1.cell 3
  have z4 := HF.out.2.1.cell 4
  (try simp only [Exit.inBlock, Exit.then])
  refine bodyPost_ret (v := .tuple #[.agg #[.int .i64 d0, .int .i64 d1, .string d2, .slice d3 d4 d5, .slice d6 d7 d8], .bool true]) ?_ rfl ⟨rfl, HF.out.2.2⟩
  rw [results_cell_tmp rfl]
  go_simp
end Go.Proofs.YtecnjifincahaaaGreatDoor
