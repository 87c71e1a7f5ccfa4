/- Keys: what Get answers at the key of 1 and at nothing; the law's examples. -/
import Derived.Test.YthlioinmeimhoaaDoorKyD
namespace Go.Proofs.YthlioinmeimhoaaDoor
open Go.Shelf Go.RowKit Go.Lib

/-- what Get finds when it begins: its result's place, its reader. -/
theorem get_start (w : World) (s : ByteArray) : ∃ W, (w.alloc (.cells #[.int .i64 0, .int .i64 0, .string ⟨#[]⟩, .slice none 0 0, .slice none 0 0] 28)).alloc (.cells #[.string s, .bool false] 78) = W ∧
    Blk W w.heap.size 28 [.int .i64 0, .int .i64 0, .string ⟨#[]⟩, .slice none 0 0, .slice none 0 0] ∧ Blk W (w.heap.size + 1) 78 [.string s, .bool false] ∧ Below w.heap.size w W := by
  refine ⟨_, rfl, ?_, ?_, ((Below.refl _ w).alloc (Nat.le_refl _) _).alloc (by simp) _⟩
  · have h : Blk (w.alloc (.cells #[.int .i64 0, .int .i64 0, .string ⟨#[]⟩, .slice none 0 0, .slice none 0 0] 28)) w.heap.size 28 [.int .i64 0, .int .i64 0, .string ⟨#[]⟩, .slice none 0 0, .slice none 0 0] := heap_alloc_new w _
    exact h.alloc _
  · have h := heap_alloc_new (w.alloc (.cells #[.int .i64 0, .int .i64 0, .string ⟨#[]⟩, .slice none 0 0, .slice none 0 0] 28)) (.cells #[.string s, .bool false] 78)
    have e : (w.alloc (.cells #[.int .i64 0, .int .i64 0, .string ⟨#[]⟩, .slice none 0 0, .slice none 0 0] 28)).heap.size = w.heap.size + 1 := by simp
    rw [e] at h
    exact h

set_option maxHeartbeats 4000000 in
set_option maxRecDepth 100000 in
theorem get_one (w : World) (hT : Tabs w) : Calls Tryd.prog 21 #[.string k1S] w fun e w' => e = .returned (.tuple #[vInt 1, .bool true]) ∧ Below w.heap.size w w' := by
  have HT := Lib.hid hT
  clear hT
  obtain ⟨W, hW, hr, hd, hb⟩ := get_start w k1S
  have H0 := Lib.hid (And.intro hW (And.intro hr (And.intro hd hb)))
  have hsz := hd.lt
  clear hW hr hd hb
  obtain ⟨S, hS⟩ : ∃ S, k1S = S := ⟨_, rfl⟩
  rw [hS] at H0 ⊢
  go_enter Tryd.func21, Tryd.ntmps21
  go_wp2_with fail
  rw [H0.out.1]
  have hd0 := H0.out.2.2.1
  rw [← hS] at hd0
  refine (rvalue_one (w.heap.size + 1) W hd0).mono ?_
  rintro e w2 ⟨rfl, hB2, hO2⟩
  have hr2 := H0.out.2.1.only hO2 (fun e => by omega)
  have hb2 : Below w.heap.size w w2 := H0.out.2.2.2.trans (hO2.below H0.out.2.2.2.size (fun k hk e => by omega))
  have H2 := Lib.hid (And.intro hB2 (And.intro hr2 hb2))
  have w2s := hr2.lt
  clear hB2 hO2 hr2 hb2 hd0 hS hsz
  obtain ⟨P, hP⟩ : ∃ P, w.heap.size = P := ⟨_, rfl⟩
  obtain ⟨M, hM⟩ : ∃ M, w2.heap.size = M := ⟨_, rfl⟩
  have hPM : P + 1 < M := by have := H2.out.1.lt; omega
  obtain ⟨W3, hW3⟩ : ∃ W3, w2.alloc (.cells #[.int .i64 2, .int .i64 1, .string ⟨#[]⟩, .slice none 0 0, .slice none 0 0] 28) = W3 := ⟨_, rfl⟩
  have hv3 : Blk W3 M 28 [.int .i64 2, .int .i64 1, .string ⟨#[]⟩, .slice none 0 0, .slice none 0 0] := by rw [← hW3, ← hM]; exact heap_alloc_new w2 _
  have hr3 : Blk W3 P 28 [.int .i64 0, .int .i64 0, .string ⟨#[]⟩, .slice none 0 0, .slice none 0 0] := by rw [← hW3, ← hP]; exact H2.out.2.1.alloc _
  have hd3 : Blk W3 (P + 1) 78 [.string ⟨#[]⟩, .bool false] := by rw [← hW3, ← hP]; exact H2.out.1.alloc _
  have hb3 : Below P w W3 := by rw [← hW3, ← hP]; exact H2.out.2.2.alloc H2.out.2.2.size _
  have hd4 := H2.out.1.alloc (.cells #[.int .i64 2, .int .i64 1, .string ⟨#[]⟩, .slice none 0 0, .slice none 0 0] 28)
  have d0 := hd4.cell 0
  have d1 := hd4.cell 1
  rw [hP] at d0 d1
  have H3 := Lib.hid (And.intro hW3 (And.intro hv3 (And.intro hr3 (And.intro hd3 (And.intro hb3 (And.intro hP (And.intro hM hPM)))))))
  unfold vInt
  rw [hP]
  clear hv3 hr3 hd3 hb3 hP hPM w2s hd4 hW3 hM
  go_wp2_with fail
  rw [H3.out.1]
  rw [H3.out.2.2.2.2.2.2.1]
  refine (valid_one _ (HT.out.below (by rw [H3.out.2.2.2.2.2.1]; exact H3.out.2.2.2.2.1))).mono ?_
  rintro e w4 ⟨rfl, hb4⟩
  have hv4 := H3.out.2.1.below hb4
  have hr4 := H3.out.2.2.1.below hb4
  have hbb4 : Below P w w4 := H3.out.2.2.2.2.1.trans (hb4.mono (by have := H3.out.2.2.1.lt; omega))
  have hPM := H3.out.2.2.2.2.2.2.2
  have hPw := H3.out.2.2.2.2.2.1
  clear d0 d1
  have v0 := hv4.cell 0
  have v1 := hv4.cell 1
  have v2 := hv4.cell 2
  have v3 := hv4.cell 3
  have v4 := hv4.cell 4
  have r0 := hr4.cell 0
  have r1 := hr4.cell 1
  have r2 := hr4.cell 2
  have r3 := hr4.cell 3
  have r4 := hr4.cell 4
  have s0 := hr4.frozen 0
  have s1 := hr4.frozen 1
  have s2 := hr4.frozen 2
  have s3 := hr4.frozen 3
  have s4 := hr4.frozen 4
  have hPM1 : ¬ P = M := by omega
  have hPM2 : ¬ M = P := by omega
  obtain ⟨W5, hW5⟩ : ∃ W5, (((((w4.setCell ⟨P, 0, none⟩ (.int .i64 2)).setCell ⟨P, 1, none⟩ (.int .i64 1)).setCell ⟨P, 2, none⟩ (.string ⟨#[]⟩)).setCell ⟨P, 3, none⟩ (.slice none 0 0)).setCell ⟨P, 4, none⟩ (.slice none 0 0)) = W5 := ⟨_, rfl⟩
  have ho5 : Only (fun x => x = P) w4 W5 := by
    rw [← hW5]
    exact ((((Only.set1 w4 P 0 _).trans (Only.set1 _ P 1 _)).trans (Only.set1 _ P 2 _)).trans (Only.set1 _ P 3 _)).trans (Only.set1 _ P 4 _)
  have hR5 : Blk W5 P 28 [.int .i64 2, .int .i64 1, .string ⟨#[]⟩, .slice none 0 0, .slice none 0 0] := by
    rw [← hW5]
    exact ((((hr4.set 0 (.int .i64 2)).set 1 (.int .i64 1)).set 2 (.string ⟨#[]⟩)).set 3 (.slice none 0 0)).set 4 (.slice none 0 0)
  have hbb5 : Below P w W5 := hbb4.trans (ho5.below (by have := hr4.lt; omega) (fun k hk e => by omega))
  have HF := Lib.hid (And.intro hW5 (And.intro hR5 hbb5))
  clear hW5 ho5 hR5 hbb5 hv4 hr4 hbb4 hPM hPw hb4
  go_wp2
  rw [HF.out.1]
  have z0 := HF.out.2.1.cell 0
  have z1 := HF.out.2.1.cell 1
  have z2 := HF.out.2.1.cell 2
  have z3 := HF.out.2.1.cell 3
  have z4 := HF.out.2.1.cell 4
  (try simp only [Exit.inBlock, Exit.then])
  refine bodyPost_ret (v := .tuple #[.agg #[.int .i64 2, .int .i64 1, .string ⟨#[]⟩, .slice none 0 0, .slice none 0 0], .bool true]) ?_ rfl ⟨rfl, by rw [H3.out.2.2.2.2.2.1]; exact HF.out.2.2⟩
  rw [results_cell_tmp rfl]
  go_simp

set_option maxHeartbeats 4000000 in
set_option maxRecDepth 100000 in
theorem get_none (w : World) : Calls Tryd.prog 21 #[.string ⟨#[]⟩] w fun e w' => e = .returned (.tuple #[vNull, .bool false]) ∧ Below w.heap.size w w' := by
  obtain ⟨W, hW, hr, hd, hb⟩ := get_start w ⟨#[]⟩
  have hsz := hd.lt
  have H0 := Lib.hid (And.intro hW (And.intro hr (And.intro hd hb)))
  clear hW hr hd hb
  go_enter Tryd.func21, Tryd.ntmps21
  go_wp2_with fail
  rw [H0.out.1]
  refine (rvalue_none (w.heap.size + 1) W H0.out.2.2.1).mono ?_
  rintro e w2 ⟨rfl, hB2, hO2⟩
  have hr2 := H0.out.2.1.only hO2 (fun e => by omega)
  have hb2 : Below w.heap.size w w2 := H0.out.2.2.2.trans (hO2.below H0.out.2.2.2.size (fun k hk e => by omega))
  have H2 := Lib.hid (And.intro hB2 (And.intro hr2 hb2))
  clear hB2 hO2 hr2 hb2 hsz
  obtain ⟨P, hP⟩ : ∃ P, w.heap.size = P := ⟨_, rfl⟩
  obtain ⟨M, hM⟩ : ∃ M, w2.heap.size = M := ⟨_, rfl⟩
  have hPM : P + 1 < M := by have := H2.out.1.lt; omega
  obtain ⟨W3, hW3⟩ : ∃ W3, w2.alloc (.cells #[.int .i64 0, .int .i64 0, .string ⟨#[]⟩, .slice none 0 0, .slice none 0 0] 28) = W3 := ⟨_, rfl⟩
  have hr3 : Blk W3 P 28 [.int .i64 0, .int .i64 0, .string ⟨#[]⟩, .slice none 0 0, .slice none 0 0] := by rw [← hW3, ← hP]; exact H2.out.2.1.alloc _
  have hb3 : Below P w W3 := by rw [← hW3, ← hP]; exact H2.out.2.2.alloc H2.out.2.2.size _
  have hd4 := H2.out.1.alloc (.cells #[.int .i64 0, .int .i64 0, .string ⟨#[]⟩, .slice none 0 0, .slice none 0 0] 28)
  have hr4 := H2.out.2.1.alloc (.cells #[.int .i64 0, .int .i64 0, .string ⟨#[]⟩, .slice none 0 0, .slice none 0 0] 28)
  rw [hP] at hd4 hr4
  have d1 := hd4.cell 1
  have r0 := hr4.cell 0
  have r1 := hr4.cell 1
  have r2 := hr4.cell 2
  have r3 := hr4.cell 3
  have r4 := hr4.cell 4
  have s0 := hr4.frozen 0
  have s1 := hr4.frozen 1
  have s2 := hr4.frozen 2
  have s3 := hr4.frozen 3
  have s4 := hr4.frozen 4
  have hPM1 : ¬ P = w2.heap.size := by omega
  obtain ⟨W5, hW5⟩ : ∃ W5, ((((((w2.alloc (.cells #[.int .i64 0, .int .i64 0, .string ⟨#[]⟩, .slice none 0 0, .slice none 0 0] 28)).setCell ⟨P, 0, none⟩ (.int .i64 0)).setCell ⟨P, 1, none⟩ (.int .i64 0)).setCell ⟨P, 2, none⟩ (.string ⟨#[]⟩)).setCell ⟨P, 3, none⟩ (.slice none 0 0)).setCell ⟨P, 4, none⟩ (.slice none 0 0)) = W5 := ⟨_, rfl⟩
  have hW5b := hW5
  rw [hW3] at hW5b
  have ho5 : Only (fun x => x = P) W3 W5 := by
    rw [← hW5b]
    exact ((((Only.set1 W3 P 0 _).trans (Only.set1 _ P 1 _)).trans (Only.set1 _ P 2 _)).trans (Only.set1 _ P 3 _)).trans (Only.set1 _ P 4 _)
  have hR5 : Blk W5 P 28 [.int .i64 0, .int .i64 0, .string ⟨#[]⟩, .slice none 0 0, .slice none 0 0] := by
    rw [← hW5b]
    exact ((((hr3.set 0 (.int .i64 0)).set 1 (.int .i64 0)).set 2 (.string ⟨#[]⟩)).set 3 (.slice none 0 0)).set 4 (.slice none 0 0)
  have hbb5 : Below P w W5 := hb3.trans (ho5.below (by have := hr3.lt; omega) (fun k hk e => by omega))
  have HF := Lib.hid (And.intro hW5 (And.intro hR5 (And.intro hbb5 hP)))
  unfold vNull
  rw [hP]
  clear hW5 hW5b ho5 hR5 hbb5 hr4 hr3 hb3 hPM hP hd4 hW3 hM
  go_wp2
  rw [HF.out.1]
  have z0 := HF.out.2.1.cell 0
  have z1 := HF.out.2.1.cell 1
  have z2 := HF.out.2.1.cell 2
  have z3 := HF.out.2.1.cell 3
  have z4 := HF.out.2.1.cell 4
  (try simp only [Exit.inBlock, Exit.then])
  refine bodyPost_ret (v := .tuple #[.agg #[.int .i64 0, .int .i64 0, .string ⟨#[]⟩, .slice none 0 0, .slice none 0 0], .bool false]) ?_ rfl ⟨rfl, by rw [HF.out.2.2.2]; exact HF.out.2.2.1⟩
  rw [results_cell_tmp rfl]
  go_simp
end Go.Proofs.YthlioinmeimhoaaDoor
