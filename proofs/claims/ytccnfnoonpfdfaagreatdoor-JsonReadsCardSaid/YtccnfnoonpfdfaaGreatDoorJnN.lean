/- json.plain; the JSON reader's value (printed by wip/gen_jnn.py). -/
import Derived.Test.YtccnfnoonpfdfaaGreatDoorJnM
namespace Go.Proofs.YtccnfnoonpfdfaaGreatDoor
open Go.Shelf Go.RowKit Go.Lib

set_option maxHeartbeats 4000000 in
set_option maxRecDepth 100000 in
theorem plain_null (w : World) : Calls Tryz.prog 57 #[.string ⟨#[110, 117, 108, 108]⟩] w fun e w' => e = .returned (.tuple #[.agg #[.int .i64 0, .int .i64 0, .string ⟨#[]⟩, .slice none 0 0, .slice none 0 0], .bool true]) ∧ Below w.heap.size w w' := by
  obtain ⟨P, hP⟩ : ∃ P, w.heap.size = P := ⟨_, rfl⟩
  obtain ⟨W1, hW1⟩ : ∃ W, (w.alloc (.cells #[.int .i64 0, .int .i64 0, .string ⟨#[]⟩, .slice none 0 0, .slice none 0 0] 28)).alloc (.cells #[.string ⟨#[102, 97, 108, 115, 101]⟩, .string ⟨#[116, 114, 117, 101]⟩, .string ⟨#[110, 117, 108, 108]⟩] 9) = W := ⟨_, rfl⟩
  have k0 : Blk W1 P 28 [.int .i64 0, .int .i64 0, .string ⟨#[]⟩, .slice none 0 0, .slice none 0 0] := by rw [← hW1, ← hP]; exact (show Blk _ w.heap.size 28 [.int .i64 0, .int .i64 0, .string ⟨#[]⟩, .slice none 0 0, .slice none 0 0] from heap_alloc_new w (.cells #[.int .i64 0, .int .i64 0, .string ⟨#[]⟩, .slice none 0 0, .slice none 0 0] 28)).alloc _
  have k1 : Blk W1 (P + 1) 9 [.string ⟨#[102, 97, 108, 115, 101]⟩, .string ⟨#[116, 114, 117, 101]⟩, .string ⟨#[110, 117, 108, 108]⟩] := by rw [← hW1, ← hP]; exact blk_new2 w _ _ _
  have hb1 : Below w.heap.size w W1 := by rw [← hW1]; exact ((Below.refl _ w).alloc (Nat.le_refl _) _).alloc (by simp) _
  have hcall := Tryz.slices_Index_string (P + 1) 0 3 3 [⟨#[102, 97, 108, 115, 101]⟩, ⟨#[116, 114, 117, 101]⟩, ⟨#[110, 117, 108, 108]⟩] ⟨#[110, 117, 108, 108]⟩ W1 (by decide) (by decide) (fun j hj => by
    have hj3 : j < 3 := hj
    rw [Nat.zero_add, k1.cell j]
    rcases (show j = 0 ∨ j = 1 ∨ j = 2 by omega) with rfl | rfl | rfl <;> rfl)
  rw [show Lib.idxOfS (List.take 3 [⟨#[102, 97, 108, 115, 101]⟩, ⟨#[116, 114, 117, 101]⟩, ⟨#[110, 117, 108, 108]⟩]) ⟨#[110, 117, 108, 108]⟩ = 2 by decide] at hcall
  obtain ⟨W5, hW5⟩ : ∃ W5, ((((W1.setCell ⟨P, 0, none⟩ (.int .i64 0)).setCell ⟨P, 1, none⟩ (.int .i64 0)).setCell ⟨P, 2, none⟩ (.string ⟨#[]⟩)).setCell ⟨P, 3, none⟩ (.slice none 0 0)).setCell ⟨P, 4, none⟩ (.slice none 0 0) = W5 := ⟨_, rfl⟩
  obtain ⟨hR5, hO5⟩ := put5 k0 hW5
  have hb5 : Below w.heap.size w W5 := hb1.trans (hO5.below hb1.size (fun k hk e => by have e2 : k = P := e; omega))
  have H := Lib.hid (And.intro hW1 (And.intro hcall (And.intro hb5 hR5)))
  have r0 := k0.cell 0
  have f0 := k0.frozen 0
  have r1 := k0.cell 1
  have f1 := k0.frozen 1
  have r2 := k0.cell 2
  have f2 := k0.frozen 2
  have r3 := k0.cell 3
  have f3 := k0.frozen 3
  have r4 := k0.cell 4
  have f4 := k0.frozen 4
  have HF := Lib.hid hW5
  have HP := Lib.hid hP
  clear k0 k1 hb1 hcall hW5 hR5 hO5 hb5 hW1
  go_enter Tryz.func57, Tryz.ntmps57
  go_wp2_with fail
  rw [H.out.1]
  (try rw [hP])
  refine (show Calls _ _ _ _ _ from H.out.2.1).mono ?_
  rintro e w2 ⟨rfl, rfl⟩
  clear hP
  go_wp2_with fail
  rw [HF.out]
  have z0 := H.out.2.2.2.cell 0
  have z1 := H.out.2.2.2.cell 1
  have z2 := H.out.2.2.2.cell 2
  have z3 := H.out.2.2.2.cell 3
  have z4 := H.out.2.2.2.cell 4
  (try simp only [Exit.inBlock, Exit.then])
  refine bodyPost_ret (v := .tuple #[.agg #[.int .i64 0, .int .i64 0, .string ⟨#[]⟩, .slice none 0 0, .slice none 0 0], .bool true]) ?_ rfl ⟨rfl, H.out.2.2.1⟩
  rw [results_cell_tmp rfl]
  go_simp
set_option maxHeartbeats 4000000 in
set_option maxRecDepth 100000 in
theorem plain_true (w : World) : Calls Tryz.prog 57 #[.string ⟨#[116, 114, 117, 101]⟩] w fun e w' => e = .returned (.tuple #[.agg #[.int .i64 1, .int .i64 1, .string ⟨#[]⟩, .slice none 0 0, .slice none 0 0], .bool true]) ∧ Below w.heap.size w w' := by
  obtain ⟨P, hP⟩ : ∃ P, w.heap.size = P := ⟨_, rfl⟩
  obtain ⟨W1, hW1⟩ : ∃ W, (w.alloc (.cells #[.int .i64 0, .int .i64 0, .string ⟨#[]⟩, .slice none 0 0, .slice none 0 0] 28)).alloc (.cells #[.string ⟨#[102, 97, 108, 115, 101]⟩, .string ⟨#[116, 114, 117, 101]⟩, .string ⟨#[110, 117, 108, 108]⟩] 9) = W := ⟨_, rfl⟩
  have k0 : Blk W1 P 28 [.int .i64 0, .int .i64 0, .string ⟨#[]⟩, .slice none 0 0, .slice none 0 0] := by rw [← hW1, ← hP]; exact (show Blk _ w.heap.size 28 [.int .i64 0, .int .i64 0, .string ⟨#[]⟩, .slice none 0 0, .slice none 0 0] from heap_alloc_new w (.cells #[.int .i64 0, .int .i64 0, .string ⟨#[]⟩, .slice none 0 0, .slice none 0 0] 28)).alloc _
  have k1 : Blk W1 (P + 1) 9 [.string ⟨#[102, 97, 108, 115, 101]⟩, .string ⟨#[116, 114, 117, 101]⟩, .string ⟨#[110, 117, 108, 108]⟩] := by rw [← hW1, ← hP]; exact blk_new2 w _ _ _
  have hb1 : Below w.heap.size w W1 := by rw [← hW1]; exact ((Below.refl _ w).alloc (Nat.le_refl _) _).alloc (by simp) _
  have hcall := Tryz.slices_Index_string (P + 1) 0 3 3 [⟨#[102, 97, 108, 115, 101]⟩, ⟨#[116, 114, 117, 101]⟩, ⟨#[110, 117, 108, 108]⟩] ⟨#[116, 114, 117, 101]⟩ W1 (by decide) (by decide) (fun j hj => by
    have hj3 : j < 3 := hj
    rw [Nat.zero_add, k1.cell j]
    rcases (show j = 0 ∨ j = 1 ∨ j = 2 by omega) with rfl | rfl | rfl <;> rfl)
  rw [show Lib.idxOfS (List.take 3 [⟨#[102, 97, 108, 115, 101]⟩, ⟨#[116, 114, 117, 101]⟩, ⟨#[110, 117, 108, 108]⟩]) ⟨#[116, 114, 117, 101]⟩ = 1 by decide] at hcall
  obtain ⟨W5, hW5⟩ : ∃ W5, ((((W1.setCell ⟨P, 0, none⟩ (.int .i64 1)).setCell ⟨P, 1, none⟩ (.int .i64 1)).setCell ⟨P, 2, none⟩ (.string ⟨#[]⟩)).setCell ⟨P, 3, none⟩ (.slice none 0 0)).setCell ⟨P, 4, none⟩ (.slice none 0 0) = W5 := ⟨_, rfl⟩
  obtain ⟨hR5, hO5⟩ := put5 k0 hW5
  have hb5 : Below w.heap.size w W5 := hb1.trans (hO5.below hb1.size (fun k hk e => by have e2 : k = P := e; omega))
  have H := Lib.hid (And.intro hW1 (And.intro hcall (And.intro hb5 hR5)))
  have r0 := k0.cell 0
  have f0 := k0.frozen 0
  have r1 := k0.cell 1
  have f1 := k0.frozen 1
  have r2 := k0.cell 2
  have f2 := k0.frozen 2
  have r3 := k0.cell 3
  have f3 := k0.frozen 3
  have r4 := k0.cell 4
  have f4 := k0.frozen 4
  have HF := Lib.hid hW5
  have HP := Lib.hid hP
  clear k0 k1 hb1 hcall hW5 hR5 hO5 hb5 hW1
  go_enter Tryz.func57, Tryz.ntmps57
  go_wp2_with fail
  rw [H.out.1]
  (try rw [hP])
  refine (show Calls _ _ _ _ _ from H.out.2.1).mono ?_
  rintro e w2 ⟨rfl, rfl⟩
  clear hP
  go_wp2_with fail
  rw [HF.out]
  have z0 := H.out.2.2.2.cell 0
  have z1 := H.out.2.2.2.cell 1
  have z2 := H.out.2.2.2.cell 2
  have z3 := H.out.2.2.2.cell 3
  have z4 := H.out.2.2.2.cell 4
  (try simp only [Exit.inBlock, Exit.then])
  refine bodyPost_ret (v := .tuple #[.agg #[.int .i64 1, .int .i64 1, .string ⟨#[]⟩, .slice none 0 0, .slice none 0 0], .bool true]) ?_ rfl ⟨rfl, H.out.2.2.1⟩
  rw [results_cell_tmp rfl]
  go_simp
set_option maxHeartbeats 4000000 in
set_option maxRecDepth 100000 in
theorem plain_false (w : World) : Calls Tryz.prog 57 #[.string ⟨#[102, 97, 108, 115, 101]⟩] w fun e w' => e = .returned (.tuple #[.agg #[.int .i64 1, .int .i64 0, .string ⟨#[]⟩, .slice none 0 0, .slice none 0 0], .bool true]) ∧ Below w.heap.size w w' := by
  obtain ⟨P, hP⟩ : ∃ P, w.heap.size = P := ⟨_, rfl⟩
  obtain ⟨W1, hW1⟩ : ∃ W, (w.alloc (.cells #[.int .i64 0, .int .i64 0, .string ⟨#[]⟩, .slice none 0 0, .slice none 0 0] 28)).alloc (.cells #[.string ⟨#[102, 97, 108, 115, 101]⟩, .string ⟨#[116, 114, 117, 101]⟩, .string ⟨#[110, 117, 108, 108]⟩] 9) = W := ⟨_, rfl⟩
  have k0 : Blk W1 P 28 [.int .i64 0, .int .i64 0, .string ⟨#[]⟩, .slice none 0 0, .slice none 0 0] := by rw [← hW1, ← hP]; exact (show Blk _ w.heap.size 28 [.int .i64 0, .int .i64 0, .string ⟨#[]⟩, .slice none 0 0, .slice none 0 0] from heap_alloc_new w (.cells #[.int .i64 0, .int .i64 0, .string ⟨#[]⟩, .slice none 0 0, .slice none 0 0] 28)).alloc _
  have k1 : Blk W1 (P + 1) 9 [.string ⟨#[102, 97, 108, 115, 101]⟩, .string ⟨#[116, 114, 117, 101]⟩, .string ⟨#[110, 117, 108, 108]⟩] := by rw [← hW1, ← hP]; exact blk_new2 w _ _ _
  have hb1 : Below w.heap.size w W1 := by rw [← hW1]; exact ((Below.refl _ w).alloc (Nat.le_refl _) _).alloc (by simp) _
  have hcall := Tryz.slices_Index_string (P + 1) 0 3 3 [⟨#[102, 97, 108, 115, 101]⟩, ⟨#[116, 114, 117, 101]⟩, ⟨#[110, 117, 108, 108]⟩] ⟨#[102, 97, 108, 115, 101]⟩ W1 (by decide) (by decide) (fun j hj => by
    have hj3 : j < 3 := hj
    rw [Nat.zero_add, k1.cell j]
    rcases (show j = 0 ∨ j = 1 ∨ j = 2 by omega) with rfl | rfl | rfl <;> rfl)
  rw [show Lib.idxOfS (List.take 3 [⟨#[102, 97, 108, 115, 101]⟩, ⟨#[116, 114, 117, 101]⟩, ⟨#[110, 117, 108, 108]⟩]) ⟨#[102, 97, 108, 115, 101]⟩ = 0 by decide] at hcall
  obtain ⟨W5, hW5⟩ : ∃ W5, ((((W1.setCell ⟨P, 0, none⟩ (.int .i64 1)).setCell ⟨P, 1, none⟩ (.int .i64 0)).setCell ⟨P, 2, none⟩ (.string ⟨#[]⟩)).setCell ⟨P, 3, none⟩ (.slice none 0 0)).setCell ⟨P, 4, none⟩ (.slice none 0 0) = W5 := ⟨_, rfl⟩
  obtain ⟨hR5, hO5⟩ := put5 k0 hW5
  have hb5 : Below w.heap.size w W5 := hb1.trans (hO5.below hb1.size (fun k hk e => by have e2 : k = P := e; omega))
  have H := Lib.hid (And.intro hW1 (And.intro hcall (And.intro hb5 hR5)))
  have r0 := k0.cell 0
  have f0 := k0.frozen 0
  have r1 := k0.cell 1
  have f1 := k0.frozen 1
  have r2 := k0.cell 2
  have f2 := k0.frozen 2
  have r3 := k0.cell 3
  have f3 := k0.frozen 3
  have r4 := k0.cell 4
  have f4 := k0.frozen 4
  have HF := Lib.hid hW5
  have HP := Lib.hid hP
  clear k0 k1 hb1 hcall hW5 hR5 hO5 hb5 hW1
  go_enter Tryz.func57, Tryz.ntmps57
  go_wp2_with fail
  rw [H.out.1]
  (try rw [hP])
  refine (show Calls _ _ _ _ _ from H.out.2.1).mono ?_
  rintro e w2 ⟨rfl, rfl⟩
  clear hP
  go_wp2_with fail
  rw [HF.out]
  have z0 := H.out.2.2.2.cell 0
  have z1 := H.out.2.2.2.cell 1
  have z2 := H.out.2.2.2.cell 2
  have z3 := H.out.2.2.2.cell 3
  have z4 := H.out.2.2.2.cell 4
  (try simp only [Exit.inBlock, Exit.then])
  refine bodyPost_ret (v := .tuple #[.agg #[.int .i64 1, .int .i64 0, .string ⟨#[]⟩, .slice none 0 0, .slice none 0 0], .bool true]) ?_ rfl ⟨rfl, H.out.2.2.1⟩
  rw [results_cell_tmp rfl]
  go_simp

def wordJ (i : Nat) : BL := if i = 0 then [110, 117, 108, 108] else if i = 1 then [116, 114, 117, 101] else [102, 97, 108, 115, 101]
def ValGo (w : World) (rb P : Nat) (s r : BL) (i : Nat) (wr : World) : Prop := RS wr rb s (.ok r) ∧ Blk wr P 28 [.int .i64 0, .int .i64 0, .string ⟨#[]⟩, .slice none 0 0, .slice none 0 0] ∧ Blk wr (P + 1) 9 [.string ⟨#[110, 117, 108, 108]⟩, .string ⟨#[116, 114, 117, 101]⟩, .string ⟨#[102, 97, 108, 115, 101]⟩] ∧ Only (· = rb) w wr ∧ ∀ j, j < i → isL (wordJ j) r = none
theorem rv_skip (n : Nat) (r : BL) (h : ∀ j, j < 3 → isL (wordJ j) r = none) : bodyP (valP n) r = (match isL [91] r with
    | some t => listP (valP n) t
    | none => match isL [123] r with
      | some t => objP (valP n) t
      | none => match isL [34] r with
        | some _ => (match textP r with
          | .error e => .error e
          | .ok p => .ok (.text p.1, p.2))
        | none => numR r) := by
  have h0 : isL [110, 117, 108, 108] r = none := h 0 (by omega)
  have h1 : isL [116, 114, 117, 101] r = none := h 1 (by omega)
  have h2 : isL [102, 97, 108, 115, 101] r = none := h 2 (by omega)
  unfold bodyP numR
  simp only [h0, h1, h2]
  rfl
theorem rv_word (n : Nat) (r t : BL) (i : Nat) (hi : i < 3) (h : ∀ j, j < i → isL (wordJ j) r = none) (hw : isL (wordJ i) r = some t) : bodyP (valP n) r = .ok (if i = 0 then .null else if i = 1 then .bool 1 else .bool 0, t) := by
  unfold bodyP
  rcases (show i = 0 ∨ i = 1 ∨ i = 2 by omega) with rfl | rfl | rfl
  · have h0 : isL [110, 117, 108, 108] r = some t := hw
    simp only [h0]
    rfl
  · have h0 : isL [110, 117, 108, 108] r = none := h 0 (by omega)
    have h1 : isL [116, 114, 117, 101] r = some t := hw
    simp only [h0, h1]
    rfl
  · have h0 : isL [110, 117, 108, 108] r = none := h 0 (by omega)
    have h1 : isL [116, 114, 117, 101] r = none := h 1 (by omega)
    have h2 : isL [102, 97, 108, 115, 101] r = some t := hw
    simp only [h0, h1, h2]
    rfl

set_option maxHeartbeats 4000000 in
set_option maxRecDepth 100000 in
theorem rv_zero : RV 0 := by
  intro w rb s st hs hR hE hrb
  obtain ⟨P, hP⟩ : ∃ P, w.heap.size = P := ⟨_, rfl⟩
  obtain ⟨W0, hW0⟩ : ∃ W, w.alloc (.cells #[.int .i64 0, .int .i64 0, .string ⟨#[]⟩, .slice none 0 0, .slice none 0 0] 28) = W := ⟨_, rfl⟩
  have hlt := hR.lt
  have hb0 : Below w.heap.size w W0 := by rw [← hW0]; exact (Below.refl _ w).alloc (Nat.le_refl _) _
  have k0 : Blk W0 P 28 [.int .i64 0, .int .i64 0, .string ⟨#[]⟩, .slice none 0 0, .slice none 0 0] := by rw [← hW0, ← hP]; exact heap_alloc_new w _
  have hcall := wrong_any rb s st 2 (by decide) W0 (hR.below hb0)
  have H := Lib.hid (And.intro hW0 (And.intro hcall (And.intro k0 (And.intro hb0 (And.intro hP hlt)))))
  clear hW0 hcall k0 hb0 hR hE hlt
  rw [show (17 - ((0 : Nat) : Int)) = 17 from rfl]
  go_enter Tryz.func32, Tryz.ntmps32
  go_wp2_with fail
  rw [H.out.1]
  (try rw [hP])
  refine H.out.2.1.mono ?_
  rintro e w2 ⟨rfl, hr2, ho2⟩
  have hres : ∃ c, c ≠ 0 ∧ fell st 2 = .error c ∧ vst st (valP 0) = .error c := by
    cases st with
    | ok r => exact ⟨2, by decide, rfl, rfl⟩
    | error e =>
      obtain ⟨he, _⟩ : e ≠ 0 ∧ True := by
        obtain ⟨h0, _⟩ := (show RS w2 rb s (.error e) from hr2)
        exact ⟨h0, trivial⟩
      exact ⟨e, he, rfl, rfl⟩
  obtain ⟨c, hc0, hfe, hvs⟩ := hres
  rw [hfe] at hr2
  have hk2 : Blk w2 P 28 [.int .i64 0, .int .i64 0, .string ⟨#[]⟩, .slice none 0 0, .slice none 0 0] := H.out.2.2.1.only ho2 (fun e => by have e2 : P = rb := e; have := H.out.2.2.2.2.2; have := H.out.2.2.2.2.1; omega)
  have hO2 : Only (· = rb) w w2 := (Only.ofBelow H.out.2.2.2.1 (· = rb)).trans ho2
  obtain ⟨_, k, hk, hB2⟩ := hr2
  have c2 := Blk.cell hB2 2
  have hz0 : ((c : Int) != 0) = true := by rw [bne, beq_eq_false_iff_ne.2 (show (c : Int) ≠ 0 by omega)]; rfl
  have hz1 : ¬ (c : Int) = 0 := by omega
  obtain ⟨W5, hW5⟩ : ∃ W5, ((((w2.setCell ⟨P, 0, none⟩ (.int .i64 0)).setCell ⟨P, 1, none⟩ (.int .i64 0)).setCell ⟨P, 2, none⟩ (.string ⟨#[]⟩)).setCell ⟨P, 3, none⟩ (.slice none 0 0)).setCell ⟨P, 4, none⟩ (.slice none 0 0) = W5 := ⟨_, rfl⟩
  have HF := Lib.hid (And.intro hW5 (cell_end (res := vst st (valP 0)) H.out.2.2.2.2.1 (by have := H.out.2.2.2.2.2; have := H.out.2.2.2.2.1; omega) hk2 hO2 ⟨_, _, _, _, _, _, _, _, _, rfl⟩ (by rw [hvs]; exact ⟨hc0, k, hk, hB2⟩) hW5))
  have r0 := hk2.cell 0
  have f0 := hk2.frozen 0
  have r1 := hk2.cell 1
  have f1 := hk2.frozen 1
  have r2 := hk2.cell 2
  have f2 := hk2.frozen 2
  have r3 := hk2.cell 3
  have f3 := hk2.frozen 3
  have r4 := hk2.cell 4
  have f4 := hk2.frozen 4
  clear hW5 hk2 hO2 hB2 hc0 hvs hfe ho2 hk
  go_wp2_with fail
  (try rw [HF.out.1])
  (try simp only [Exit.inBlock, Exit.then])
  refine bodyPost_ret ?_ rfl HF.out.2.2
  exact results_cell_row rfl _ W5 P 28 _ (0, 0) _ rfl HF.out.2.1 Tryz.underlying28 rfl (by kernel_rfl)

set_option maxHeartbeats 4000000 in
set_option maxRecDepth 100000 in
theorem rv_bad (n : Nat) (hn : n ≤ 15) (w : World) (rb : Nat) (s : BL) (c : Nat) (hR : RS w rb s (.error c)) :
    Calls Tryz.prog 32 #[.pointer (some ⟨rb, 0, none⟩), .int .i64 (16 - (n : Int))] w (ValPost w rb s (.error c)) := by
  obtain ⟨P, hP⟩ : ∃ P, w.heap.size = P := ⟨_, rfl⟩
  obtain ⟨w2, hW0⟩ : ∃ W, w.alloc (.cells #[.int .i64 0, .int .i64 0, .string ⟨#[]⟩, .slice none 0 0, .slice none 0 0] 28) = W := ⟨_, rfl⟩
  have hlt := hR.lt
  have hb0 : Below w.heap.size w w2 := by rw [← hW0]; exact (Below.refl _ w).alloc (Nat.le_refl _) _
  have hk2 : Blk w2 P 28 [.int .i64 0, .int .i64 0, .string ⟨#[]⟩, .slice none 0 0, .slice none 0 0] := by rw [← hW0, ← hP]; exact heap_alloc_new w _
  obtain ⟨d, hd⟩ : ∃ d : Int, 16 - (n : Int) = d := ⟨_, rfl⟩
  have hd16 : ¬ (16 : Int) < d := by omega
  rw [hd]
  obtain ⟨hc0, k, hk, hB2⟩ := hR.below hb0
  have c2 := Blk.cell hB2 2
  have hz0 : ((c : Int) != 0) = true := by rw [bne, beq_eq_false_iff_ne.2 (show (c : Int) ≠ 0 by omega)]; rfl
  have hz1 : ¬ (c : Int) = 0 := by omega
  obtain ⟨W5, hW5⟩ : ∃ W5, ((((w2.setCell ⟨P, 0, none⟩ (.int .i64 0)).setCell ⟨P, 1, none⟩ (.int .i64 0)).setCell ⟨P, 2, none⟩ (.string ⟨#[]⟩)).setCell ⟨P, 3, none⟩ (.slice none 0 0)).setCell ⟨P, 4, none⟩ (.slice none 0 0) = W5 := ⟨_, rfl⟩
  have HF := Lib.hid (And.intro hW5 (cell_end (res := (.error c : Res V)) hP (by omega) hk2 (Only.ofBelow hb0 (· = rb)) ⟨_, _, _, _, _, _, _, _, _, rfl⟩ ⟨hc0, k, hk, hB2⟩ hW5))
  have r0 := hk2.cell 0
  have f0 := hk2.frozen 0
  have r1 := hk2.cell 1
  have f1 := hk2.frozen 1
  have r2 := hk2.cell 2
  have f2 := hk2.frozen 2
  have r3 := hk2.cell 3
  have f3 := hk2.frozen 3
  have r4 := hk2.cell 4
  have f4 := hk2.frozen 4
  clear hk2 hb0 hB2 hc0 hk hlt hd hR
  go_enter Tryz.func32, Tryz.ntmps32
  go_wp2_with fail
  (try rw [HF.out.1])
  (try simp only [Exit.inBlock, Exit.then])
  refine bodyPost_ret ?_ rfl HF.out.2.2
  exact results_cell_row rfl _ W5 P 28 _ (0, 0) _ rfl HF.out.2.1 Tryz.underlying28 rfl (by kernel_rfl)

set_option maxHeartbeats 16000000 in
set_option maxRecDepth 100000 in
theorem rv_good (n : Nat) (hn : n ≤ 15) (hrec : RV n) (w : World) (rb : Nat) (s r : BL) (hs : s.length ≤ 1000000) (hR : RS w rb s (.ok r)) (hE : Env w) (hrb : 11 ≤ rb) :
    Calls Tryz.prog 32 #[.pointer (some ⟨rb, 0, none⟩), .int .i64 (16 - (n : Int))] w (ValPost w rb s (bodyP (valP n) r)) := by
  obtain ⟨P, hP⟩ : ∃ P, w.heap.size = P := ⟨_, rfl⟩
  obtain ⟨d, hd⟩ : ∃ d : Int, 16 - (n : Int) = d := ⟨_, rfl⟩
  have hd16 : ¬ (16 : Int) < d := by omega
  rw [hd]
  obtain ⟨W0, hW0⟩ : ∃ W, (w.alloc (.cells #[.int .i64 0, .int .i64 0, .string ⟨#[]⟩, .slice none 0 0, .slice none 0 0] 28)).alloc (.cells #[.string ⟨#[110, 117, 108, 108]⟩, .string ⟨#[116, 114, 117, 101]⟩, .string ⟨#[102, 97, 108, 115, 101]⟩] 9) = W := ⟨_, rfl⟩
  have hlt := hR.lt
  have hbA : Below w.heap.size w (w.alloc (.cells #[.int .i64 0, .int .i64 0, .string ⟨#[]⟩, .slice none 0 0, .slice none 0 0] 28)) := (Below.refl _ w).alloc (Nat.le_refl _) _
  have hb0 : Below w.heap.size w W0 := by rw [← hW0]; exact hbA.alloc (by simp) _
  have k0 : Blk W0 P 28 [.int .i64 0, .int .i64 0, .string ⟨#[]⟩, .slice none 0 0, .slice none 0 0] := by rw [← hW0, ← hP]; exact (show Blk _ w.heap.size 28 [.int .i64 0, .int .i64 0, .string ⟨#[]⟩, .slice none 0 0, .slice none 0 0] from heap_alloc_new w (.cells #[.int .i64 0, .int .i64 0, .string ⟨#[]⟩, .slice none 0 0, .slice none 0 0] 28)).alloc _
  have k1 : Blk W0 (P + 1) 9 [.string ⟨#[110, 117, 108, 108]⟩, .string ⟨#[116, 114, 117, 101]⟩, .string ⟨#[102, 97, 108, 115, 101]⟩] := by rw [← hW0, ← hP]; exact blk_new2 w _ _ _
  have henv : ∀ wr, Only (· = rb) w wr → Env wr := fun wr ho => hE.only (by omega) ho (fun g hg e => by have e2 : g = rb := e; omega)
  have h0 : ValGo w rb P s r 0 W0 := ⟨hR.below hb0, k0, k1, Only.ofBelow hb0 _, fun j hj => absurd hj (by omega)⟩
  obtain ⟨k, hk, hdr, hB2⟩ := hR.below hbA
  have c2 := Blk.cell hB2 2
  have hz0 : (((0 : Nat) : Int) != 0) = false := rfl
  have H := Lib.hid (And.intro hW0 (And.intro h0 (And.intro hs (And.intro henv (And.intro hrb (And.intro hP (And.intro hd (And.intro hlt hn))))))))
  have HREC := Lib.hid hrec
  clear hW0 h0 hs henv hrb hd hlt hrec hR hE hb0 hbA k0 k1 hk hdr hB2 hn
  go_enter Tryz.func32, Tryz.ntmps32
  go_wp2_with fail
  rw [H.out.1]
  (try rw [hP])
  clear c2
  go_loopg [21] 3 (fun gk iv wr => ∃ i : Nat, gk + i = 3 ∧ iv = .int .i64 i ∧ Hid (ValGo w rb P s r i wr))
  case atStart => exact ⟨0, rfl, rfl, Lib.hid H.out.2.1⟩
  case round =>
    obtain ⟨i, hgi, rfl, HG⟩ := hrel
    have w0 := HG.out.2.2.1.cell 0
    have w1 := HG.out.2.2.1.cell 1
    have w2 := HG.out.2.2.1.cell 2
    rcases (show i = 0 ∨ i = 1 ∨ i = 2 ∨ i = 3 by omega) with rfl | rfl | rfl | rfl
    · cases hi : isL (wordJ 0) r with
      | some t =>
        have his := is_any rb ⟨#[110, 117, 108, 108]⟩ (wordJ 0) s (.ok r) wr rfl H.out.2.2.1 HG.out.1
        rw [isB_some hi, isS_some hi] at his
        have hres := rv_word n r t 0 (by omega) HG.out.2.2.2.2 hi
        have HI := Lib.hid (And.intro his hres)
        clear his hres hi
        go_wp2_with fail
        refine HI.out.1.mono ?_
        rintro e w3 ⟨rfl, hr3, ho3⟩
        have HR3 := Lib.hid (And.intro hr3 ho3)
        clear hr3 ho3
        go_wp2_with fail
        refine (plain_null w3).mono ?_
        rintro e w4 ⟨rfl, hb4⟩
        obtain ⟨W2, hW2⟩ : ∃ W, w4.alloc (.cells #[.int .i64 0, .int .i64 0, .string ⟨#[]⟩, .slice none 0 0, .slice none 0 0] 28) = W := ⟨_, rfl⟩
        obtain ⟨N2, hN2⟩ : ∃ N, w4.heap.size = N := ⟨_, rfl⟩
        have hb42 : Below w4.heap.size w4 W2 := by rw [← hW2]; exact (Below.refl _ w4).alloc (Nat.le_refl _) _
        have kN : Blk W2 N2 28 [.int .i64 0, .int .i64 0, .string ⟨#[]⟩, .slice none 0 0, .slice none 0 0] := by rw [← hW2, ← hN2]; exact heap_alloc_new w4 _
        have ho2 : Only (· = rb) wr W2 := HR3.out.2.trans (Only.ofBelow (hb4.trans (hb42.mono hb4.size)) _)
        have hPrb : ¬ P = rb := by have := H.out.2.2.2.2.2.2.2.1; have := H.out.2.2.2.2.2.1; omega
        have hk2 : Blk W2 P 28 [.int .i64 0, .int .i64 0, .string ⟨#[]⟩, .slice none 0 0, .slice none 0 0] := HG.out.2.1.only ho2 (fun e => hPrb e)
        have hr2 : RS W2 rb s (.ok t) := (HR3.out.1.below hb4).below hb42
        have hNP : ¬ N2 = P := by have h1 := HG.out.2.1.lt; have h2 := HR3.out.2.size; have h3 := hb4.size; omega
        have hPN : ¬ P = N2 := fun e => hNP e.symm
        obtain ⟨W5, hW5⟩ : ∃ W5, ((((W2.setCell ⟨P, 0, none⟩ (.int .i64 0)).setCell ⟨P, 1, none⟩ (.int .i64 0)).setCell ⟨P, 2, none⟩ (.string ⟨#[]⟩)).setCell ⟨P, 3, none⟩ (.slice none 0 0)).setCell ⟨P, 4, none⟩ (.slice none 0 0) = W5 := ⟨_, rfl⟩
        have HF := Lib.hid (And.intro hW5 (cell_end (res := bodyP (valP n) r) H.out.2.2.2.2.2.1 (by have := H.out.2.2.2.2.2.2.2.1; have := H.out.2.2.2.2.2.1; omega) hk2 (HG.out.2.2.2.1.trans ho2) ⟨_, _, _, _, _, _, _, _, _, rfl⟩ (by rw [HI.out.2]; exact ⟨VAt.null, hr2⟩) hW5))
        have hk2' : Blk (w4.alloc (.cells #[.int .i64 0, .int .i64 0, .string ⟨#[]⟩, .slice none 0 0, .slice none 0 0] 28)) P 28 [.int .i64 0, .int .i64 0, .string ⟨#[]⟩, .slice none 0 0, .slice none 0 0] := by rw [hW2]; exact hk2
        have kN' : Blk (w4.alloc (.cells #[.int .i64 0, .int .i64 0, .string ⟨#[]⟩, .slice none 0 0, .slice none 0 0] 28)) N2 28 [.int .i64 0, .int .i64 0, .string ⟨#[]⟩, .slice none 0 0, .slice none 0 0] := by rw [hW2]; exact kN
        have r0 := hk2'.cell 0
        have f0 := hk2'.frozen 0
        have r1 := hk2'.cell 1
        have f1 := hk2'.frozen 1
        have r2 := hk2'.cell 2
        have f2 := hk2'.frozen 2
        have r3 := hk2'.cell 3
        have f3 := hk2'.frozen 3
        have r4 := hk2'.cell 4
        have f4 := hk2'.frozen 4
        have q0 := kN'.cell 0
        have q1 := kN'.cell 1
        have q2 := kN'.cell 2
        have q3 := kN'.cell 3
        have q4 := kN'.cell 4
        have HW2 := Lib.hid hW2
        clear hb42 kN ho2 hk2 hr2 hW5 hb4 hW2 hk2' kN'
        go_wp2_with fail
        (try rw [HW2.out])
        (try rw [HF.out.1])
        (try simp only [Exit.inBlock, Exit.then])
        refine bodyPost_ret ?_ rfl HF.out.2.2
        exact results_cell_row rfl _ W5 P 28 _ (0, 0) _ rfl HF.out.2.1 Tryz.underlying28 rfl (by kernel_rfl)
      | none =>
        have his := is_any rb ⟨#[110, 117, 108, 108]⟩ (wordJ 0) s (.ok r) wr rfl H.out.2.2.1 HG.out.1
        rw [isB_none hi, isS_none hi] at his
        have HI := Lib.hid (And.intro his hi)
        clear his hi
        go_wp2_with fail
        refine HI.out.1.mono ?_
        rintro e w3 ⟨rfl, hr3, ho3⟩
        have hPrb : ¬ P = rb := by have := H.out.2.2.2.2.2.2.2.1; have := H.out.2.2.2.2.2.1; omega
        have hPrb1 : ¬ P + 1 = rb := by have := H.out.2.2.2.2.2.2.2.1; have := H.out.2.2.2.2.2.1; omega
        have HF := Lib.hid (show ValGo w rb P s r 1 w3 from ⟨hr3, HG.out.2.1.only ho3 (fun e => hPrb e), HG.out.2.2.1.only ho3 (fun e => hPrb1 e), HG.out.2.2.2.1.trans ho3, fun j hj => by
          rcases (show j = 0 ∨ j < 0 by omega) with rfl | h
          · exact HI.out.2
          · exact HG.out.2.2.2.2 j h⟩)
        clear hr3 ho3
        go_wp2_with fail
        go_roundg 2
        case rel => exact ⟨1, rfl, rfl, HF⟩
        case measure => omega
    · cases hi : isL (wordJ 1) r with
      | some t =>
        have his := is_any rb ⟨#[116, 114, 117, 101]⟩ (wordJ 1) s (.ok r) wr rfl H.out.2.2.1 HG.out.1
        rw [isB_some hi, isS_some hi] at his
        have hres := rv_word n r t 1 (by omega) HG.out.2.2.2.2 hi
        have HI := Lib.hid (And.intro his hres)
        clear his hres hi
        go_wp2_with fail
        refine HI.out.1.mono ?_
        rintro e w3 ⟨rfl, hr3, ho3⟩
        have HR3 := Lib.hid (And.intro hr3 ho3)
        clear hr3 ho3
        go_wp2_with fail
        refine (plain_true w3).mono ?_
        rintro e w4 ⟨rfl, hb4⟩
        obtain ⟨W2, hW2⟩ : ∃ W, w4.alloc (.cells #[.int .i64 1, .int .i64 1, .string ⟨#[]⟩, .slice none 0 0, .slice none 0 0] 28) = W := ⟨_, rfl⟩
        obtain ⟨N2, hN2⟩ : ∃ N, w4.heap.size = N := ⟨_, rfl⟩
        have hb42 : Below w4.heap.size w4 W2 := by rw [← hW2]; exact (Below.refl _ w4).alloc (Nat.le_refl _) _
        have kN : Blk W2 N2 28 [.int .i64 1, .int .i64 1, .string ⟨#[]⟩, .slice none 0 0, .slice none 0 0] := by rw [← hW2, ← hN2]; exact heap_alloc_new w4 _
        have ho2 : Only (· = rb) wr W2 := HR3.out.2.trans (Only.ofBelow (hb4.trans (hb42.mono hb4.size)) _)
        have hPrb : ¬ P = rb := by have := H.out.2.2.2.2.2.2.2.1; have := H.out.2.2.2.2.2.1; omega
        have hk2 : Blk W2 P 28 [.int .i64 0, .int .i64 0, .string ⟨#[]⟩, .slice none 0 0, .slice none 0 0] := HG.out.2.1.only ho2 (fun e => hPrb e)
        have hr2 : RS W2 rb s (.ok t) := (HR3.out.1.below hb4).below hb42
        have hNP : ¬ N2 = P := by have h1 := HG.out.2.1.lt; have h2 := HR3.out.2.size; have h3 := hb4.size; omega
        have hPN : ¬ P = N2 := fun e => hNP e.symm
        obtain ⟨W5, hW5⟩ : ∃ W5, ((((W2.setCell ⟨P, 0, none⟩ (.int .i64 1)).setCell ⟨P, 1, none⟩ (.int .i64 1)).setCell ⟨P, 2, none⟩ (.string ⟨#[]⟩)).setCell ⟨P, 3, none⟩ (.slice none 0 0)).setCell ⟨P, 4, none⟩ (.slice none 0 0) = W5 := ⟨_, rfl⟩
        have HF := Lib.hid (And.intro hW5 (cell_end (res := bodyP (valP n) r) H.out.2.2.2.2.2.1 (by have := H.out.2.2.2.2.2.2.2.1; have := H.out.2.2.2.2.2.1; omega) hk2 (HG.out.2.2.2.1.trans ho2) ⟨_, _, _, _, _, _, _, _, _, rfl⟩ (by rw [HI.out.2]; exact ⟨VAt.bool 1 (by omega), hr2⟩) hW5))
        have hk2' : Blk (w4.alloc (.cells #[.int .i64 1, .int .i64 1, .string ⟨#[]⟩, .slice none 0 0, .slice none 0 0] 28)) P 28 [.int .i64 0, .int .i64 0, .string ⟨#[]⟩, .slice none 0 0, .slice none 0 0] := by rw [hW2]; exact hk2
        have kN' : Blk (w4.alloc (.cells #[.int .i64 1, .int .i64 1, .string ⟨#[]⟩, .slice none 0 0, .slice none 0 0] 28)) N2 28 [.int .i64 1, .int .i64 1, .string ⟨#[]⟩, .slice none 0 0, .slice none 0 0] := by rw [hW2]; exact kN
        have r0 := hk2'.cell 0
        have f0 := hk2'.frozen 0
        have r1 := hk2'.cell 1
        have f1 := hk2'.frozen 1
        have r2 := hk2'.cell 2
        have f2 := hk2'.frozen 2
        have r3 := hk2'.cell 3
        have f3 := hk2'.frozen 3
        have r4 := hk2'.cell 4
        have f4 := hk2'.frozen 4
        have q0 := kN'.cell 0
        have q1 := kN'.cell 1
        have q2 := kN'.cell 2
        have q3 := kN'.cell 3
        have q4 := kN'.cell 4
        have HW2 := Lib.hid hW2
        clear hb42 kN ho2 hk2 hr2 hW5 hb4 hW2 hk2' kN'
        go_wp2_with fail
        (try rw [HW2.out])
        (try rw [HF.out.1])
        (try simp only [Exit.inBlock, Exit.then])
        refine bodyPost_ret ?_ rfl HF.out.2.2
        exact results_cell_row rfl _ W5 P 28 _ (0, 0) _ rfl HF.out.2.1 Tryz.underlying28 rfl (by kernel_rfl)
      | none =>
        have his := is_any rb ⟨#[116, 114, 117, 101]⟩ (wordJ 1) s (.ok r) wr rfl H.out.2.2.1 HG.out.1
        rw [isB_none hi, isS_none hi] at his
        have HI := Lib.hid (And.intro his hi)
        clear his hi
        go_wp2_with fail
        refine HI.out.1.mono ?_
        rintro e w3 ⟨rfl, hr3, ho3⟩
        have hPrb : ¬ P = rb := by have := H.out.2.2.2.2.2.2.2.1; have := H.out.2.2.2.2.2.1; omega
        have hPrb1 : ¬ P + 1 = rb := by have := H.out.2.2.2.2.2.2.2.1; have := H.out.2.2.2.2.2.1; omega
        have HF := Lib.hid (show ValGo w rb P s r 2 w3 from ⟨hr3, HG.out.2.1.only ho3 (fun e => hPrb e), HG.out.2.2.1.only ho3 (fun e => hPrb1 e), HG.out.2.2.2.1.trans ho3, fun j hj => by
          rcases (show j = 1 ∨ j < 1 by omega) with rfl | h
          · exact HI.out.2
          · exact HG.out.2.2.2.2 j h⟩)
        clear hr3 ho3
        go_wp2_with fail
        go_roundg 1
        case rel => exact ⟨2, rfl, rfl, HF⟩
        case measure => omega
    · cases hi : isL (wordJ 2) r with
      | some t =>
        have his := is_any rb ⟨#[102, 97, 108, 115, 101]⟩ (wordJ 2) s (.ok r) wr rfl H.out.2.2.1 HG.out.1
        rw [isB_some hi, isS_some hi] at his
        have hres := rv_word n r t 2 (by omega) HG.out.2.2.2.2 hi
        have HI := Lib.hid (And.intro his hres)
        clear his hres hi
        go_wp2_with fail
        refine HI.out.1.mono ?_
        rintro e w3 ⟨rfl, hr3, ho3⟩
        have HR3 := Lib.hid (And.intro hr3 ho3)
        clear hr3 ho3
        go_wp2_with fail
        refine (plain_false w3).mono ?_
        rintro e w4 ⟨rfl, hb4⟩
        obtain ⟨W2, hW2⟩ : ∃ W, w4.alloc (.cells #[.int .i64 1, .int .i64 0, .string ⟨#[]⟩, .slice none 0 0, .slice none 0 0] 28) = W := ⟨_, rfl⟩
        obtain ⟨N2, hN2⟩ : ∃ N, w4.heap.size = N := ⟨_, rfl⟩
        have hb42 : Below w4.heap.size w4 W2 := by rw [← hW2]; exact (Below.refl _ w4).alloc (Nat.le_refl _) _
        have kN : Blk W2 N2 28 [.int .i64 1, .int .i64 0, .string ⟨#[]⟩, .slice none 0 0, .slice none 0 0] := by rw [← hW2, ← hN2]; exact heap_alloc_new w4 _
        have ho2 : Only (· = rb) wr W2 := HR3.out.2.trans (Only.ofBelow (hb4.trans (hb42.mono hb4.size)) _)
        have hPrb : ¬ P = rb := by have := H.out.2.2.2.2.2.2.2.1; have := H.out.2.2.2.2.2.1; omega
        have hk2 : Blk W2 P 28 [.int .i64 0, .int .i64 0, .string ⟨#[]⟩, .slice none 0 0, .slice none 0 0] := HG.out.2.1.only ho2 (fun e => hPrb e)
        have hr2 : RS W2 rb s (.ok t) := (HR3.out.1.below hb4).below hb42
        have hNP : ¬ N2 = P := by have h1 := HG.out.2.1.lt; have h2 := HR3.out.2.size; have h3 := hb4.size; omega
        have hPN : ¬ P = N2 := fun e => hNP e.symm
        obtain ⟨W5, hW5⟩ : ∃ W5, ((((W2.setCell ⟨P, 0, none⟩ (.int .i64 1)).setCell ⟨P, 1, none⟩ (.int .i64 0)).setCell ⟨P, 2, none⟩ (.string ⟨#[]⟩)).setCell ⟨P, 3, none⟩ (.slice none 0 0)).setCell ⟨P, 4, none⟩ (.slice none 0 0) = W5 := ⟨_, rfl⟩
        have HF := Lib.hid (And.intro hW5 (cell_end (res := bodyP (valP n) r) H.out.2.2.2.2.2.1 (by have := H.out.2.2.2.2.2.2.2.1; have := H.out.2.2.2.2.2.1; omega) hk2 (HG.out.2.2.2.1.trans ho2) ⟨_, _, _, _, _, _, _, _, _, rfl⟩ (by rw [HI.out.2]; exact ⟨VAt.bool 0 (by omega), hr2⟩) hW5))
        have hk2' : Blk (w4.alloc (.cells #[.int .i64 1, .int .i64 0, .string ⟨#[]⟩, .slice none 0 0, .slice none 0 0] 28)) P 28 [.int .i64 0, .int .i64 0, .string ⟨#[]⟩, .slice none 0 0, .slice none 0 0] := by rw [hW2]; exact hk2
        have kN' : Blk (w4.alloc (.cells #[.int .i64 1, .int .i64 0, .string ⟨#[]⟩, .slice none 0 0, .slice none 0 0] 28)) N2 28 [.int .i64 1, .int .i64 0, .string ⟨#[]⟩, .slice none 0 0, .slice none 0 0] := by rw [hW2]; exact kN
        have r0 := hk2'.cell 0
        have f0 := hk2'.frozen 0
        have r1 := hk2'.cell 1
        have f1 := hk2'.frozen 1
        have r2 := hk2'.cell 2
        have f2 := hk2'.frozen 2
        have r3 := hk2'.cell 3
        have f3 := hk2'.frozen 3
        have r4 := hk2'.cell 4
        have f4 := hk2'.frozen 4
        have q0 := kN'.cell 0
        have q1 := kN'.cell 1
        have q2 := kN'.cell 2
        have q3 := kN'.cell 3
        have q4 := kN'.cell 4
        have HW2 := Lib.hid hW2
        clear hb42 kN ho2 hk2 hr2 hW5 hb4 hW2 hk2' kN'
        go_wp2_with fail
        (try rw [HW2.out])
        (try rw [HF.out.1])
        (try simp only [Exit.inBlock, Exit.then])
        refine bodyPost_ret ?_ rfl HF.out.2.2
        exact results_cell_row rfl _ W5 P 28 _ (0, 0) _ rfl HF.out.2.1 Tryz.underlying28 rfl (by kernel_rfl)
      | none =>
        have his := is_any rb ⟨#[102, 97, 108, 115, 101]⟩ (wordJ 2) s (.ok r) wr rfl H.out.2.2.1 HG.out.1
        rw [isB_none hi, isS_none hi] at his
        have HI := Lib.hid (And.intro his hi)
        clear his hi
        go_wp2_with fail
        refine HI.out.1.mono ?_
        rintro e w3 ⟨rfl, hr3, ho3⟩
        have hPrb : ¬ P = rb := by have := H.out.2.2.2.2.2.2.2.1; have := H.out.2.2.2.2.2.1; omega
        have hPrb1 : ¬ P + 1 = rb := by have := H.out.2.2.2.2.2.2.2.1; have := H.out.2.2.2.2.2.1; omega
        have HF := Lib.hid (show ValGo w rb P s r 3 w3 from ⟨hr3, HG.out.2.1.only ho3 (fun e => hPrb e), HG.out.2.2.1.only ho3 (fun e => hPrb1 e), HG.out.2.2.2.1.trans ho3, fun j hj => by
          rcases (show j = 2 ∨ j < 2 by omega) with rfl | h
          · exact HI.out.2
          · exact HG.out.2.2.2.2 j h⟩)
        clear hr3 ho3
        go_wp2_with fail
        go_roundg 0
        case rel => exact ⟨3, rfl, rfl, HF⟩
        case measure => omega
    · clear w0 w1 w2
      have hsk := rv_skip n r HG.out.2.2.2.2
      have HSK0 := Lib.hid hsk
      clear hsk
      have hPrb : ¬ P = rb := by have := H.out.2.2.2.2.2.2.2.1; have := H.out.2.2.2.2.2.1; omega
      have hrbP : rb < P := by have := H.out.2.2.2.2.2.2.2.1; have := H.out.2.2.2.2.2.1; omega
      cases hi91 : isL [91] r with
      | some t =>
        have his := is_any rb ⟨#[91]⟩ [91] s (.ok r) wr rfl H.out.2.2.1 HG.out.1
        rw [isB_some hi91, isS_some hi91] at his
        have hsk := HSK0.out
        simp only [hi91] at hsk
        have HI := Lib.hid (And.intro his hsk)
        clear his hsk hi91 
        go_wp2_with fail
        refine HI.out.1.mono ?_
        rintro e w3 ⟨rfl, hr3, ho3⟩
        have HK := Lib.hid (And.intro (Blk.only HG.out.2.1 ho3 (fun e => hPrb e)) (HG.out.2.2.2.1.trans ho3))
        have hcall := list_any n (by have := H.out.2.2.2.2.2.2.2.2; omega) HREC.out w3 rb s t H.out.2.2.1 hr3 (H.out.2.2.2.1 w3 HK.out.2) H.out.2.2.2.2.1
        rw [H.out.2.2.2.2.2.2.1] at hcall
        clear hr3 ho3
        have HCL := Lib.hid hcall
        clear hcall
        go_wp2_with fail
        refine (HCL.out).mono ?_
        rintro e w2 ⟨qc, rfl, ⟨q0, q1, q2, q3, q4, q5, q6, q7, q8, rfl⟩, hm2, ho2⟩
        have hk2 : Blk w2 P 28 [.int .i64 0, .int .i64 0, .string ⟨#[]⟩, .slice none 0 0, .slice none 0 0] := HK.out.1.only ho2 (fun e => hPrb e)
        have hO2 : Only (· = rb) w w2 := HK.out.2.trans ho2
        have hP3 : P < w3.heap.size := HK.out.1.lt
        have hm3 : MRes (fun b => P < b ∧ b < w2.heap.size) w2 rb s (listP (valP n) t) [.int .i64 q0, .int .i64 q1, .string q2, .slice q3 q4 q5, .slice q6 q7 q8] := by
          revert hm2
          cases (listP (valP n) t) with
          | error e => exact fun h => h
          | ok p => exact fun h => ⟨h.1.keep (fun b hb => ⟨by have := hb.1; omega, hb.2⟩) (fun b _ k u hu => hu), h.2⟩
        obtain ⟨W5, hW5⟩ : ∃ W5, ((((w2.setCell ⟨P, 0, none⟩ (.int .i64 q0)).setCell ⟨P, 1, none⟩ (.int .i64 q1)).setCell ⟨P, 2, none⟩ (.string q2)).setCell ⟨P, 3, none⟩ (.slice q3 q4 q5)).setCell ⟨P, 4, none⟩ (.slice q6 q7 q8) = W5 := ⟨_, rfl⟩
        have HF := Lib.hid (And.intro hW5 (cell_end (res := bodyP (valP n) r) H.out.2.2.2.2.2.1 hrbP hk2 hO2 ⟨_, _, _, _, _, _, _, _, _, rfl⟩ (by rw [HI.out.2]; exact hm3) hW5))
        have r0 := hk2.cell 0
        have f0 := hk2.frozen 0
        have r1 := hk2.cell 1
        have f1 := hk2.frozen 1
        have r2 := hk2.cell 2
        have f2 := hk2.frozen 2
        have r3 := hk2.cell 3
        have f3 := hk2.frozen 3
        have r4 := hk2.cell 4
        have f4 := hk2.frozen 4
        clear hk2 hO2 hm2 hm3 hW5 ho2 hP3
        go_wp2_with fail
        (try rw [HF.out.1])
        (try simp only [Exit.inBlock, Exit.then])
        refine bodyPost_ret ?_ rfl HF.out.2.2
        exact results_cell_row rfl _ W5 P 28 _ (0, 0) _ rfl HF.out.2.1 Tryz.underlying28 rfl (by kernel_rfl)
      | none =>
        have his := is_any rb ⟨#[91]⟩ [91] s (.ok r) wr rfl H.out.2.2.1 HG.out.1
        rw [isB_none hi91, isS_none hi91] at his
        have hsk := HSK0.out
        simp only [hi91] at hsk
        have HSK1 := Lib.hid hsk
        have HA := Lib.hid his
        clear his hi91 hsk
        go_wp2_with fail
        refine HA.out.mono ?_
        rintro e wa ⟨rfl, hra, hoa⟩
        have HB := Lib.hid (And.intro hra (And.intro (HG.out.2.1.only hoa (fun e => hPrb e)) (HG.out.2.2.2.1.trans hoa)))
        clear hra hoa
        cases hi123 : isL [123] r with
        | some t =>
          have his := is_any rb ⟨#[123]⟩ [123] s (.ok r) wa rfl H.out.2.2.1 HB.out.1
          rw [isB_some hi123, isS_some hi123] at his
          have hsk := HSK1.out
          simp only [hi123] at hsk
          have HI := Lib.hid (And.intro his hsk)
          clear his hsk hi123 
          go_wp2_with fail
          refine HI.out.1.mono ?_
          rintro e w3 ⟨rfl, hr3, ho3⟩
          have HK := Lib.hid (And.intro (Blk.only HB.out.2.1 ho3 (fun e => hPrb e)) (HB.out.2.2.trans ho3))
          have hcall := obj_any n (by have := H.out.2.2.2.2.2.2.2.2; omega) HREC.out w3 rb s t H.out.2.2.1 hr3 (H.out.2.2.2.1 w3 HK.out.2) H.out.2.2.2.2.1
          rw [H.out.2.2.2.2.2.2.1] at hcall
          clear hr3 ho3
          have HCL := Lib.hid hcall
          clear hcall
          go_wp2_with fail
          refine (HCL.out).mono ?_
          rintro e w2 ⟨qc, rfl, ⟨q0, q1, q2, q3, q4, q5, q6, q7, q8, rfl⟩, hm2, ho2⟩
          have hk2 : Blk w2 P 28 [.int .i64 0, .int .i64 0, .string ⟨#[]⟩, .slice none 0 0, .slice none 0 0] := HK.out.1.only ho2 (fun e => hPrb e)
          have hO2 : Only (· = rb) w w2 := HK.out.2.trans ho2
          have hP3 : P < w3.heap.size := HK.out.1.lt
          have hm3 : MRes (fun b => P < b ∧ b < w2.heap.size) w2 rb s (objP (valP n) t) [.int .i64 q0, .int .i64 q1, .string q2, .slice q3 q4 q5, .slice q6 q7 q8] := by
            revert hm2
            cases (objP (valP n) t) with
            | error e => exact fun h => h
            | ok p => exact fun h => ⟨h.1.keep (fun b hb => ⟨by have := hb.1; omega, hb.2⟩) (fun b _ k u hu => hu), h.2⟩
          obtain ⟨W5, hW5⟩ : ∃ W5, ((((w2.setCell ⟨P, 0, none⟩ (.int .i64 q0)).setCell ⟨P, 1, none⟩ (.int .i64 q1)).setCell ⟨P, 2, none⟩ (.string q2)).setCell ⟨P, 3, none⟩ (.slice q3 q4 q5)).setCell ⟨P, 4, none⟩ (.slice q6 q7 q8) = W5 := ⟨_, rfl⟩
          have HF := Lib.hid (And.intro hW5 (cell_end (res := bodyP (valP n) r) H.out.2.2.2.2.2.1 hrbP hk2 hO2 ⟨_, _, _, _, _, _, _, _, _, rfl⟩ (by rw [HI.out.2]; exact hm3) hW5))
          have r0 := hk2.cell 0
          have f0 := hk2.frozen 0
          have r1 := hk2.cell 1
          have f1 := hk2.frozen 1
          have r2 := hk2.cell 2
          have f2 := hk2.frozen 2
          have r3 := hk2.cell 3
          have f3 := hk2.frozen 3
          have r4 := hk2.cell 4
          have f4 := hk2.frozen 4
          clear hk2 hO2 hm2 hm3 hW5 ho2 hP3
          go_wp2_with fail
          (try rw [HF.out.1])
          (try simp only [Exit.inBlock, Exit.then])
          refine bodyPost_ret ?_ rfl HF.out.2.2
          exact results_cell_row rfl _ W5 P 28 _ (0, 0) _ rfl HF.out.2.1 Tryz.underlying28 rfl (by kernel_rfl)
        | none =>
          have his := is_any rb ⟨#[123]⟩ [123] s (.ok r) wa rfl H.out.2.2.1 HB.out.1
          rw [isB_none hi123, isS_none hi123] at his
          have hsk := HSK1.out
          simp only [hi123] at hsk
          have HSK2 := Lib.hid hsk
          have HA2 := Lib.hid his
          clear his hi123 hsk
          go_wp2_with fail
          refine HA2.out.mono ?_
          rintro e wb ⟨rfl, hrb2, hob⟩
          have HK := Lib.hid (And.intro (HB.out.2.1.only hob (fun e => hPrb e)) (HB.out.2.2.trans hob))
          obtain ⟨S, hS⟩ : ∃ S, BA s = S := ⟨_, rfl⟩
          have hSs : S.size = s.length := by rw [← hS, ba_size]
          have HRB := Lib.hid hrb2
          obtain ⟨k, hk, hdr, hB⟩ := hrb2
          obtain ⟨X, hX⟩ : ∃ X, S.extract k S.size = X := ⟨_, rfl⟩
          have hXL : X.data.toList = r := by rw [← hX, ← hS, ba_ext, hdr]
          have hB' : Blk wb rb 64 [.string S, .int .i64 k, .int .i64 0] := by rw [← hS]; exact hB
          have cP : ∀ W, Calls Tryz.prog 60 #[.string X, .string ⟨#[34]⟩] W fun e w' => e = .returned (.bool (isL [34] r).isSome) ∧ w' = W := fun W => by
            have cP := Tryz.strings_HasPrefix X ⟨#[34]⟩ W
            rw [hXL, show (⟨#[34]⟩ : ByteArray).data.toList = [34] from rfl, isL_prefix] at cP
            exact cP
          have hkz : (k : Int) ≤ (S.size : Int) := by omega
          have hk0 : (0 : Int) ≤ (k : Int) := by omega
          have e0 := hB'.cell 0
          have e1 := hB'.cell 1
          clear hob hS hSs hdr hB hB' hXL hk
          cases hi34 : isL [34] r with
          | some t =>
            have hsk := HSK2.out
            simp only [hi34, Option.isSome_some] at cP hsk
            have HC := Lib.hid cP
            have HI := Lib.hid hsk
            clear cP hsk hi34
            go_wp2
            go_quiet ((go_at_call 60; exact Calls.quiet_of_same (HC.out _)))
            go_wp2_with fail
            refine (quoted_any rb s (.ok r) (wb.drewN nq) H.out.2.2.1 (HRB.out.only (Only.drewN (fun _ => False) wb nq) (fun e => e)) (H.out.2.2.2.1 _ (HK.out.2.trans (Only.drewN _ wb nq))) H.out.2.2.2.2.1).mono ?_
            rintro e w2 ⟨T, rfl, hq, ho2⟩
            have ho2' : Only (· = rb) wb w2 := (Only.drewN _ wb nq).trans ho2
            have hk2 : Blk w2 P 28 [.int .i64 0, .int .i64 0, .string ⟨#[]⟩, .slice none 0 0, .slice none 0 0] := HK.out.1.only ho2' (fun e => hPrb e)
            have hO2 : Only (· = rb) w w2 := HK.out.2.trans ho2'
            have hm3 : MRes (fun b => P < b ∧ b < w2.heap.size) w2 rb s (bodyP (valP n) r) [.int .i64 3, .int .i64 0, .string T, .slice none 0 0, .slice none 0 0] := by
              rw [HI.out]
              rw [show txtS (.ok r) = textP r from rfl] at hq
              revert hq
              cases textP r with
              | error e => exact fun h => h
              | ok p => exact fun h => ⟨by rw [h.1]; exact VAt.text p.1, h.2⟩
            obtain ⟨W5, hW5⟩ : ∃ W5, ((((w2.setCell ⟨P, 0, none⟩ (.int .i64 3)).setCell ⟨P, 1, none⟩ (.int .i64 0)).setCell ⟨P, 2, none⟩ (.string T)).setCell ⟨P, 3, none⟩ (.slice none 0 0)).setCell ⟨P, 4, none⟩ (.slice none 0 0) = W5 := ⟨_, rfl⟩
            have HF := Lib.hid (And.intro hW5 (cell_end (res := bodyP (valP n) r) H.out.2.2.2.2.2.1 hrbP hk2 hO2 ⟨_, _, _, _, _, _, _, _, _, rfl⟩ hm3 hW5))
            have r0 := hk2.cell 0
            have f0 := hk2.frozen 0
            have r1 := hk2.cell 1
            have f1 := hk2.frozen 1
            have r2 := hk2.cell 2
            have f2 := hk2.frozen 2
            have r3 := hk2.cell 3
            have f3 := hk2.frozen 3
            have r4 := hk2.cell 4
            have f4 := hk2.frozen 4
            clear hk2 hO2 hm3 hW5 ho2 ho2' hq
            go_wp2_with fail
            (try rw [HF.out.1])
            (try simp only [Exit.inBlock, Exit.then])
            refine bodyPost_ret ?_ rfl HF.out.2.2
            exact results_cell_row rfl _ W5 P 28 _ (0, 0) _ rfl HF.out.2.1 Tryz.underlying28 rfl (by kernel_rfl)
          | none =>
            have hsk := HSK2.out
            simp only [hi34, Option.isSome_none] at cP hsk
            have HC := Lib.hid cP
            have HI := Lib.hid (And.intro trivial hsk)
            clear cP hsk hi34
            go_wp2
            go_quiet ((go_at_call 60; exact Calls.quiet_of_same (HC.out _)))
            have hcall := number_any rb s r (wb.drewN nq) H.out.2.2.1 (HRB.out.only (Only.drewN (fun _ => False) wb nq) (fun e => e)) (H.out.2.2.2.1 _ (HK.out.2.trans (Only.drewN _ wb nq))) H.out.2.2.2.2.1
            have HCL := Lib.hid hcall
            have HKo := Lib.hid HK.out
            clear hcall
            go_wp2_with fail
            refine (HCL.out).mono ?_
            rintro e w2 ⟨qc, rfl, ⟨q0, q1, q2, q3, q4, q5, q6, q7, q8, rfl⟩, hm2, ho2⟩
            have hk2 : Blk w2 P 28 [.int .i64 0, .int .i64 0, .string ⟨#[]⟩, .slice none 0 0, .slice none 0 0] := HKo.out.1.only ((Only.drewN _ wb nq).trans ho2) (fun e => hPrb e)
            have hO2 : Only (· = rb) w w2 := HKo.out.2.trans ((Only.drewN _ wb nq).trans ho2)
            have hP3 : P < wb.heap.size := HK.out.1.lt
            have hm2 : MRes (fun b => wb.heap.size ≤ b ∧ b < w2.heap.size) w2 rb s (numR r) _ := hm2
            have hm3 : MRes (fun b => P < b ∧ b < w2.heap.size) w2 rb s (numR r) [.int .i64 q0, .int .i64 q1, .string q2, .slice q3 q4 q5, .slice q6 q7 q8] := by
              revert hm2
              cases (numR r) with
              | error e => exact fun h => h
              | ok p => exact fun h => ⟨h.1.keep (fun b hb => ⟨by have := hb.1; omega, hb.2⟩) (fun b _ k u hu => hu), h.2⟩
            obtain ⟨W5, hW5⟩ : ∃ W5, ((((w2.setCell ⟨P, 0, none⟩ (.int .i64 q0)).setCell ⟨P, 1, none⟩ (.int .i64 q1)).setCell ⟨P, 2, none⟩ (.string q2)).setCell ⟨P, 3, none⟩ (.slice q3 q4 q5)).setCell ⟨P, 4, none⟩ (.slice q6 q7 q8) = W5 := ⟨_, rfl⟩
            have HF := Lib.hid (And.intro hW5 (cell_end (res := bodyP (valP n) r) H.out.2.2.2.2.2.1 hrbP hk2 hO2 ⟨_, _, _, _, _, _, _, _, _, rfl⟩ (by rw [HI.out.2]; exact hm3) hW5))
            have r0 := hk2.cell 0
            have f0 := hk2.frozen 0
            have r1 := hk2.cell 1
            have f1 := hk2.frozen 1
            have r2 := hk2.cell 2
            have f2 := hk2.frozen 2
            have r3 := hk2.cell 3
            have f3 := hk2.frozen 3
            have r4 := hk2.cell 4
            have f4 := hk2.frozen 4
            clear hk2 hO2 hm2 hm3 hW5 ho2 hP3
            go_wp2_with fail
            (try rw [HF.out.1])
            (try simp only [Exit.inBlock, Exit.then])
            refine bodyPost_ret ?_ rfl HF.out.2.2
            exact results_cell_row rfl _ W5 P 28 _ (0, 0) _ rfl HF.out.2.1 Tryz.underlying28 rfl (by kernel_rfl)
theorem rv_any : ∀ n, n ≤ 16 → RV n
  | 0, _ => rv_zero
  | n + 1, h => by
    intro w rb s st hs hR hE hrb
    rw [show (17 - ((n + 1 : Nat) : Int)) = 16 - (n : Int) by omega]
    cases st with
    | error c => exact rv_bad n (by omega) w rb s c hR
    | ok r => exact rv_good n (by omega) (rv_any n (by omega)) w rb s r hs hR hE hrb
end Go.Proofs.YtccnfnoonpfdfaaGreatDoor
