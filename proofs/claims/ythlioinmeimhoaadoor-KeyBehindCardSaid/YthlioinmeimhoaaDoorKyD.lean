/- Keys: nothing read; a number is a value; two numbers held against one another. -/
import Derived.Test.YthlioinmeimhoaaDoorKyC
namespace Go.Proofs.YthlioinmeimhoaaDoor
open Go.Shelf Go.RowKit Go.Lib

set_option maxHeartbeats 4000000 in
set_option maxRecDepth 100000 in
theorem rvalue_none (rb : Nat) (w : World) (hB : Blk w rb 78 [.string ⟨#[]⟩, .bool false]) :
    Calls Tryd.prog 44 #[.pointer (some ⟨rb, 0, none⟩), .int .i64 1] w fun e w' => e = .returned vNull ∧ Blk w' rb 78 [.string ⟨#[]⟩, .bool true] ∧ Only (· = rb) w w' := by
  have H0 := Lib.hid (rin_start w rb ⟨#[]⟩ 1 hB)
  clear hB
  go_enter Tryd.func44, Tryd.ntmps44
  go_wp2_with fail
  refine (take_no rb 1 ⟨#[]⟩ _ H0.out.rd (by decide)).mono ?_
  rintro e w2 ⟨rfl, hB2, hO2⟩
  have hlt := H0.out.lt
  have hres := H0.out.res.only hO2 (fun e => by omega)
  have hon := H0.out.only.trans hO2
  obtain ⟨R, hR⟩ : ∃ R, w.heap.size + 1 + 1 = R := ⟨_, rfl⟩
  rw [hR] at hres
  have r0 := hres.cell 0
  have r1 := hres.cell 1
  have r2 := hres.cell 2
  have r3 := hres.cell 3
  have r4 := hres.cell 4
  have s0 := hres.frozen 0
  have s1 := hres.frozen 1
  have s2 := hres.frozen 2
  have s3 := hres.frozen 3
  have s4 := hres.frozen 4
  obtain ⟨W5, hW5⟩ : ∃ W5, (((((w2.setCell ⟨R, 0, none⟩ (.int .i64 0)).setCell ⟨R, 1, none⟩ (.int .i64 0)).setCell ⟨R, 2, none⟩ (.string ⟨#[]⟩)).setCell ⟨R, 3, none⟩ (.slice none 0 0)).setCell ⟨R, 4, none⟩ (.slice none 0 0)) = W5 := ⟨_, rfl⟩
  have ho5 : Only (fun x => x = R) w2 W5 := by
    rw [← hW5]
    exact ((((Only.set1 w2 R 0 _).trans (Only.set1 _ R 1 _)).trans (Only.set1 _ R 2 _)).trans (Only.set1 _ R 3 _)).trans (Only.set1 _ R 4 _)
  have hR5 : Blk W5 R 28 [.int .i64 0, .int .i64 0, .string ⟨#[]⟩, .slice none 0 0, .slice none 0 0] := by
    rw [← hW5]
    exact ((((hres.set 0 (.int .i64 0)).set 1 (.int .i64 0)).set 2 (.string ⟨#[]⟩)).set 3 (.slice none 0 0)).set 4 (.slice none 0 0)
  have hrd5 := hB2.only ho5 (fun e => by omega)
  have hon5 : Only (fun k => k = rb) w W5 := hon.trans' ho5 (fun i hi e => by omega)
  have HF := Lib.hid (And.intro hW5 (And.intro hR5 (And.intro hrd5 hon5)))
  simp only [hR]
  clear hW5 ho5 hR5 hrd5 hon5 hlt hB2 hO2 hon hres hR
  go_wp2
  rw [HF.out.1]
  (try simp only [Exit.inBlock, Exit.then])
  refine bodyPost_ret (v := vNull) ?_ rfl ⟨rfl, HF.out.2.2⟩
  exact results_cell_row rfl _ W5 R 28 _ (0, 0) _ rfl HF.out.2.1 Tryd.underlying28 rfl (by kernel_rfl)

set_option maxHeartbeats 4000000 in
set_option maxRecDepth 100000 in
theorem bare_one (w : World) : Calls Tryd.prog 46 #[vInt 1] w fun e w' => e = .returned (.bool true) ∧ Below w.heap.size w w' := by
  unfold vInt
  go_enter Tryd.func46, Tryd.ntmps46
  go_wp2
  go_ret
  exact ⟨rfl, (Below.refl _ w).alloc (Nat.le_refl _) _⟩

set_option maxHeartbeats 4000000 in
set_option maxRecDepth 100000 in
theorem rises_none (w : World) : Calls Tryd.prog 47 #[.slice none 0 0] w fun e w' => e = .returned (.bool true) ∧ Below w.heap.size w w' := by
  go_enter Tryd.func47, Tryd.ntmps47
  go_wp2
  refine wp_loop_rounds 1 ?_
  rw [rounds_succ]
  go_wp2
  go_ret
  exact ⟨rfl, Below.refl _ _⟩

theorem valid_nil : Lib.validD [] = true := rfl
set_option maxHeartbeats 4000000 in
set_option maxRecDepth 100000 in
theorem valid_one (w : World) (hT : Tabs w) : Calls Tryd.prog 23 #[vInt 1] w fun e w' => e = .returned (.bool true) ∧ Below w.heap.size w w' := by
  have HT := Lib.hid hT
  clear hT
  unfold vInt
  obtain ⟨W, hW⟩ : ∃ W, w.alloc (.cells #[.int .i64 2, .int .i64 1, .string ⟨#[]⟩, .slice none 0 0, .slice none 0 0] 28) = W := ⟨_, rfl⟩
  have hblk : Blk W w.heap.size 28 [.int .i64 2, .int .i64 1, .string ⟨#[]⟩, .slice none 0 0, .slice none 0 0] := by rw [← hW]; exact heap_alloc_new w _
  have hbW : Below w.heap.size w W := by rw [← hW]; exact (Below.refl _ w).alloc (Nat.le_refl _) _
  have H0 := Lib.hid (And.intro hW (And.intro hblk hbW))
  clear hblk hbW hW
  go_enter Tryd.func23, Tryd.ntmps23
  go_wp2_with fail
  refine (bare_one _).mono ?_
  rintro e w2 ⟨rfl, hb2⟩
  rw [H0.out.1] at hb2
  have hk2 := H0.out.2.1.below hb2
  have H2 := Lib.hid (And.intro hk2 (H0.out.2.2.trans (hb2.mono H0.out.2.2.size)))
  have c0 := hk2.cell 0
  have c1 := hk2.cell 1
  have c2 := hk2.cell 2
  have c3 := hk2.cell 3
  have c4 := hk2.cell 4
  clear hk2 hb2
  go_wp2
  refine wp_loop_rounds 1 ?_
  rw [rounds_succ]
  go_wp2_with fail
  refine (valid_any ⟨#[]⟩ _ (by decide) (HT.out.below H2.out.2)).mono ?_
  rintro e w3 ⟨rfl, hb3⟩
  rw [show (⟨#[]⟩ : ByteArray).data.toList = [] from rfl, valid_nil]
  have hk3 := H2.out.1.below hb3
  have H3 := Lib.hid (And.intro hk3 (H2.out.2.trans (hb3.mono H2.out.2.size)))
  clear c0 c1 c2 c3 c4
  have c0 := hk3.cell 0
  have c1 := hk3.cell 1
  have c4 := hk3.cell 4
  clear hk3 hb3
  go_wp2_with fail
  refine (rises_none _).mono ?_
  rintro e w4 ⟨rfl, hb4⟩
  have hk4 := H3.out.1.below hb4
  have H4 := Lib.hid (H3.out.2.trans (hb4.mono H3.out.2.size))
  clear c0 c1 c4
  have c0 := hk4.cell 0
  have c1 := hk4.cell 1
  clear hk4 hb4
  go_wp2
  go_ret
  exact ⟨rfl, H4.out⟩

set_option maxRecDepth 100000 in
theorem nan_no (n : Int) (w : World) : Calls Tryd.prog 92 #[.int .i64 n] w fun e w' => e = .returned (.bool false) ∧ w' = w := by
  go_enter Tryd.func92, Tryd.ntmps92
  go_wp2
  go_ret
  exact ⟨by simp, rfl⟩

set_option maxHeartbeats 4000000 in
set_option maxRecDepth 100000 in
theorem cmp_one (w : World) : Calls Tryd.prog 68 #[.int .i64 1, .int .i64 1] w fun e w' => e = .returned (.int .i64 0) ∧ w' = w := by
  go_enter Tryd.func68, Tryd.ntmps68
  go_wp2_with fail
  refine (nan_no _ _).mono ?_
  rintro e w2 ⟨rfl, rfl⟩
  go_wp2_with fail
  refine (nan_no _ _).mono ?_
  rintro e w3 ⟨rfl, rfl⟩
  go_wp2
  go_ret
  exact ⟨rfl, rfl⟩

set_option maxHeartbeats 4000000 in
set_option maxRecDepth 100000 in
theorem vcmp_one (w : World) : Calls Tryd.prog 45 #[vInt 1, vInt 1] w fun e w' => e = .returned (.int .i64 0) ∧ Below w.heap.size w w' := by
  unfold vInt
  go_enter Tryd.func45, Tryd.ntmps45
  go_wp2_with fail
  refine (cmp_one _).mono ?_
  rintro e w2 ⟨rfl, rfl⟩
  go_wp2
  go_ret
  exact ⟨rfl, ((Below.refl _ w).alloc (Nat.le_refl _) _).alloc (by simp) _⟩

set_option maxHeartbeats 4000000 in
set_option maxRecDepth 100000 in
theorem same_one (w : World) : Calls Tryd.prog 22 #[vInt 1, vInt 1] w fun e w' => e = .returned (.bool true) ∧ Below w.heap.size w w' := by
  unfold vInt
  go_enter Tryd.func22, Tryd.ntmps22
  go_wp2_with fail
  refine (vcmp_one _).mono ?_
  rintro e w2 ⟨rfl, hb2⟩
  have H2 := Lib.hid ((((Below.refl _ w).alloc (Nat.le_refl _) _).alloc (by simp) _).trans (hb2.mono (by simp; omega)))
  clear hb2
  go_wp2
  go_ret
  exact ⟨rfl, H2.out⟩
end Go.Proofs.YthlioinmeimhoaaDoor
