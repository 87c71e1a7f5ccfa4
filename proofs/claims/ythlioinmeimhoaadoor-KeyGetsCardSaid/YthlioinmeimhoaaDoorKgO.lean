/- key.Get, at any bytes (printed by wip/gen_kgo.py). -/
import Derived.Test.YthlioinmeimhoaaDoorKgN
import Derived.Test.YthlioinmeimhoaaDoorKgL
namespace Go.Proofs.YthlioinmeimhoaaDoor
open Go.Shelf Go.RowKit Go.Lib

/-- the value whose key the bytes are. -/
def getL (s : BL) : Option V := match rvalueL 15 s with
  | some (v, []) => if validV v then some v else none
  | _ => none
/-- what key.Get comes to. -/
def GetPost (w : World) (s : BL) (e : Ending) (w' : World) : Prop := match getL s with
  | some v => ∃ c, e = .returned (.tuple #[.agg c.toArray, .bool true]) ∧ VAt (fun b => w.heap.size ≤ b ∧ b < w'.heap.size) w' v c ∧ Below w.heap.size w w'
  | none => e = .returned (.tuple #[vNull, .bool false]) ∧ Below w.heap.size w w'
theorem get_end {w W4 W5 : World} {P : Nat} {z0 z1 z2 z3 z4 c0 c1 c2 c3 c4 : Value} (hb : Below P w W4) (hR : Blk W4 P 28 [z0, z1, z2, z3, z4])
    (hW : (((((W4.setCell ⟨P, 0, none⟩ (c0)).setCell ⟨P, 1, none⟩ (c1)).setCell ⟨P, 2, none⟩ (c2)).setCell ⟨P, 3, none⟩ (c3)).setCell ⟨P, 4, none⟩ (c4)) = W5) : Blk W5 P 28 [c0, c1, c2, c3, c4] ∧ Below P w W5 ∧ Only (fun x => x = P) W4 W5 := by
  have ho5 : Only (fun x => x = P) W4 W5 := by
    rw [← hW]
    exact ((((Only.set1 W4 P 0 _).trans (Only.set1 _ P 1 _)).trans (Only.set1 _ P 2 _)).trans (Only.set1 _ P 3 _)).trans (Only.set1 _ P 4 _)
  refine ⟨?_, hb.trans (ho5.below (by have := hR.lt; omega) (fun k hk e => by omega)), ho5⟩
  rw [← hW]
  exact ((((hR.set 0 c0).set 1 c1).set 2 c2).set 3 c3).set 4 c4

set_option maxHeartbeats 8000000 in
set_option maxRecDepth 100000 in
theorem get_bad (s : BL) (w : World) (hs : s.length ≤ 1000000) (hres : rvalueL 15 s = none) : Calls Tryd.prog 21 #[.string (BA s)] w fun e w' => e = .returned (.tuple #[vNull, .bool false]) ∧ Below w.heap.size w w' := by
  obtain ⟨W, hW, hr, hd, hb⟩ := get_start w (BA s)
  have hC := rv_any 15 (by omega) W (w.heap.size + 1) (some s) (fun x hx => by injection hx with hx; rw [← hx]; exact hs) hd
  have H0 := Lib.hid (And.intro hW (And.intro hr (And.intro hC hb)))
  (try unfold vNull)
  have hsz := hd.lt
  clear hW hr hd hb hC
  obtain ⟨S, hS⟩ : ∃ S, BA s = S := ⟨_, rfl⟩
  rw [hS] at H0 ⊢
  go_enter Tryd.func21, Tryd.ntmps21
  go_wp2_with fail
  rw [H0.out.1]
  refine (show Calls _ _ #[_, .int .i64 1] _ _ from H0.out.2.2.1).mono ?_
  rintro e w2 ⟨c, rfl, hsh, hm, hO2⟩
  obtain ⟨q0, q1, q2, q3, q4, q5, q6, q7, q8, rfl⟩ := hsh
  rw [show (some s).bind (rvalueL 15) = rvalueL 15 s from rfl, hres] at hm
  have hr2 := H0.out.2.1.only hO2 (fun e => by omega)
  have hb2 : Below w.heap.size w w2 := H0.out.2.2.2.trans (hO2.below H0.out.2.2.2.size (fun k hk e => by omega))
  have w2s := hr2.lt
  have hW2 := hO2.size
  obtain ⟨P, hP⟩ : ∃ P, w.heap.size = P := ⟨_, rfl⟩
  obtain ⟨M, hM⟩ : ∃ M, w2.heap.size = M := ⟨_, rfl⟩
  have hPM : P + 1 < M := by omega
  rw [hP] at hr2 hb2 hm
  have hr3 : Blk (w2.alloc (.cells #[.int .i64 q0, .int .i64 q1, .string q2, .slice q3 q4 q5, .slice q6 q7 q8] 28)) P 28 [.int .i64 0, .int .i64 0, .string ⟨#[]⟩, .slice none 0 0, .slice none 0 0] := hr2.alloc _
  have hv3 : Blk (w2.alloc (.cells #[.int .i64 q0, .int .i64 q1, .string q2, .slice q3 q4 q5, .slice q6 q7 q8] 28)) w2.heap.size 28 [.int .i64 q0, .int .i64 q1, .string q2, .slice q3 q4 q5, .slice q6 q7 q8] := heap_alloc_new w2 _
  rw [hM] at hv3
  have hb3 : Below P w (w2.alloc (.cells #[.int .i64 q0, .int .i64 q1, .string q2, .slice q3 q4 q5, .slice q6 q7 q8] 28)) := hb2.alloc (by omega) _
  have hWP : W.heap.size ≤ w2.heap.size := hW2
  have hd4 := (show ∃ t, Blk w2 (P + 1) 78 [.string t, .bool true] from hm)
  obtain ⟨t, hd4⟩ := hd4
  have hd4 := hd4.alloc (.cells #[.int .i64 q0, .int .i64 q1, .string q2, .slice q3 q4 q5, .slice q6 q7 q8] 28)
  have d1 := hd4.cell 1
  have hr4 := hr3
  have r0 := hr4.cell 0
  have r1 := hr4.cell 1
  have r2 := hr4.cell 2
  have r3 := hr4.cell 3
  have r4 := hr4.cell 4
  have s0 := hr4.frozen 0
  have s1 := hr4.frozen 1
  have s2 := hr4.frozen 2
  have s3 := hr4.frozen 3
  have s4 := hr4.frozen 4
  have hPM1 : ¬ P = M := by omega
  have hPM2 : ¬ M = P := by omega
  obtain ⟨W5, hW5⟩ : ∃ W5, ((((((w2.alloc (.cells #[.int .i64 q0, .int .i64 q1, .string q2, .slice q3 q4 q5, .slice q6 q7 q8] 28)).setCell ⟨P, 0, none⟩ (.int .i64 0)).setCell ⟨P, 1, none⟩ (.int .i64 0)).setCell ⟨P, 2, none⟩ (.string ⟨#[]⟩)).setCell ⟨P, 3, none⟩ (.slice none 0 0)).setCell ⟨P, 4, none⟩ (.slice none 0 0)) = W5 := ⟨_, rfl⟩
  have hF := get_end hb3 hr3 hW5
  have HF := Lib.hid (And.intro hW5 (And.intro hF.1 (And.intro hF.2.1 hP)))
  rw [hP]
  clear hW5 hF hr4 hr3 hv3 hb3 hPM hP hd4 hS hsz hm hO2 hr2 hb2 w2s hW2 hWP
  go_wp2
  rw [HF.out.1]
  have z0 := HF.out.2.1.cell 0
  have z1 := HF.out.2.1.cell 1
  have z2 := HF.out.2.1.cell 2
  have z3 := HF.out.2.1.cell 3
  have z4 := HF.out.2.1.cell 4
  (try simp only [Exit.inBlock, Exit.then])
  refine bodyPost_ret (v := .tuple #[.agg #[.int .i64 0, .int .i64 0, .string ⟨#[]⟩, .slice none 0 0, .slice none 0 0], .bool false]) ?_ rfl (⟨rfl, by rw [HF.out.2.2.2]; exact HF.out.2.2.1⟩)
  rw [results_cell_tmp rfl]
  go_simp

set_option maxHeartbeats 8000000 in
set_option maxRecDepth 100000 in
theorem get_rest (s : BL) (v : V) (k : UInt8) (r : BL) (w : World) (hs : s.length ≤ 1000000) (hres : rvalueL 15 s = some (v, k :: r)) : Calls Tryd.prog 21 #[.string (BA s)] w fun e w' => e = .returned (.tuple #[vNull, .bool false]) ∧ Below w.heap.size w w' := by
  obtain ⟨W, hW, hr, hd, hb⟩ := get_start w (BA s)
  have hC := rv_any 15 (by omega) W (w.heap.size + 1) (some s) (fun x hx => by injection hx with hx; rw [← hx]; exact hs) hd
  have H0 := Lib.hid (And.intro hW (And.intro hr (And.intro hC hb)))
  (try unfold vNull)
  have hsz := hd.lt
  clear hW hr hd hb hC
  obtain ⟨S, hS⟩ : ∃ S, BA s = S := ⟨_, rfl⟩
  rw [hS] at H0 ⊢
  go_enter Tryd.func21, Tryd.ntmps21
  go_wp2_with fail
  rw [H0.out.1]
  refine (show Calls _ _ #[_, .int .i64 1] _ _ from H0.out.2.2.1).mono ?_
  rintro e w2 ⟨c, rfl, hsh, hm, hO2⟩
  obtain ⟨q0, q1, q2, q3, q4, q5, q6, q7, q8, rfl⟩ := hsh
  rw [show (some s).bind (rvalueL 15) = rvalueL 15 s from rfl, hres] at hm
  have hr2 := H0.out.2.1.only hO2 (fun e => by omega)
  have hb2 : Below w.heap.size w w2 := H0.out.2.2.2.trans (hO2.below H0.out.2.2.2.size (fun k hk e => by omega))
  have w2s := hr2.lt
  have hW2 := hO2.size
  obtain ⟨P, hP⟩ : ∃ P, w.heap.size = P := ⟨_, rfl⟩
  obtain ⟨M, hM⟩ : ∃ M, w2.heap.size = M := ⟨_, rfl⟩
  have hPM : P + 1 < M := by omega
  rw [hP] at hr2 hb2 hm
  have hr3 : Blk (w2.alloc (.cells #[.int .i64 q0, .int .i64 q1, .string q2, .slice q3 q4 q5, .slice q6 q7 q8] 28)) P 28 [.int .i64 0, .int .i64 0, .string ⟨#[]⟩, .slice none 0 0, .slice none 0 0] := hr2.alloc _
  have hv3 : Blk (w2.alloc (.cells #[.int .i64 q0, .int .i64 q1, .string q2, .slice q3 q4 q5, .slice q6 q7 q8] 28)) w2.heap.size 28 [.int .i64 q0, .int .i64 q1, .string q2, .slice q3 q4 q5, .slice q6 q7 q8] := heap_alloc_new w2 _
  rw [hM] at hv3
  have hb3 : Below P w (w2.alloc (.cells #[.int .i64 q0, .int .i64 q1, .string q2, .slice q3 q4 q5, .slice q6 q7 q8] 28)) := hb2.alloc (by omega) _
  have hWP : W.heap.size ≤ w2.heap.size := hW2
  have hd4 := (show Blk w2 (P + 1) 78 [.string (BA (k :: r)), .bool false] from hm.2)
  have hd4 := hd4.alloc (.cells #[.int .i64 q0, .int .i64 q1, .string q2, .slice q3 q4 q5, .slice q6 q7 q8] 28)
  obtain ⟨B, hB⟩ : ∃ B, BA (k :: r) = B := ⟨_, rfl⟩
  have hBe : ¬ B = ⟨#[]⟩ := by rw [← hB]; intro e; have := congrArg ByteArray.size e; simp [ba_size] at this
  have hBe2 : B.toList.isEmpty = false := by rw [← hB, ba_tlx]; rfl
  rw [hB] at hd4
  have d0 := hd4.cell 0
  have d1 := hd4.cell 1
  have hr4 := hr3
  have r0 := hr4.cell 0
  have r1 := hr4.cell 1
  have r2 := hr4.cell 2
  have r3 := hr4.cell 3
  have r4 := hr4.cell 4
  have s0 := hr4.frozen 0
  have s1 := hr4.frozen 1
  have s2 := hr4.frozen 2
  have s3 := hr4.frozen 3
  have s4 := hr4.frozen 4
  have hPM1 : ¬ P = M := by omega
  have hPM2 : ¬ M = P := by omega
  obtain ⟨W5, hW5⟩ : ∃ W5, ((((((w2.alloc (.cells #[.int .i64 q0, .int .i64 q1, .string q2, .slice q3 q4 q5, .slice q6 q7 q8] 28)).setCell ⟨P, 0, none⟩ (.int .i64 0)).setCell ⟨P, 1, none⟩ (.int .i64 0)).setCell ⟨P, 2, none⟩ (.string ⟨#[]⟩)).setCell ⟨P, 3, none⟩ (.slice none 0 0)).setCell ⟨P, 4, none⟩ (.slice none 0 0)) = W5 := ⟨_, rfl⟩
  have hF := get_end hb3 hr3 hW5
  have HF := Lib.hid (And.intro hW5 (And.intro hF.1 (And.intro hF.2.1 hP)))
  rw [hP]
  clear hW5 hF hr4 hr3 hv3 hb3 hPM hP hd4 hS hsz hm hO2 hr2 hb2 w2s hW2 hWP hB
  go_wp2
  rw [HF.out.1]
  have z0 := HF.out.2.1.cell 0
  have z1 := HF.out.2.1.cell 1
  have z2 := HF.out.2.1.cell 2
  have z3 := HF.out.2.1.cell 3
  have z4 := HF.out.2.1.cell 4
  (try simp only [Exit.inBlock, Exit.then])
  refine bodyPost_ret (v := .tuple #[.agg #[.int .i64 0, .int .i64 0, .string ⟨#[]⟩, .slice none 0 0, .slice none 0 0], .bool false]) ?_ rfl (⟨rfl, by rw [HF.out.2.2.2]; exact HF.out.2.2.1⟩)
  rw [results_cell_tmp rfl]
  go_simp

set_option maxHeartbeats 8000000 in
set_option maxRecDepth 100000 in
theorem get_wrong (s : BL) (v : V) (w : World) (hT : Tabs w) (hs : s.length ≤ 1000000) (hres : rvalueL 15 s = some (v, [])) (hvv : validV v = false) : Calls Tryd.prog 21 #[.string (BA s)] w fun e w' => e = .returned (.tuple #[vNull, .bool false]) ∧ Below w.heap.size w w' := by
  have HT := Lib.hid hT
  clear hT
  obtain ⟨W, hW, hr, hd, hb⟩ := get_start w (BA s)
  have hC := rv_any 15 (by omega) W (w.heap.size + 1) (some s) (fun x hx => by injection hx with hx; rw [← hx]; exact hs) hd
  have H0 := Lib.hid (And.intro hW (And.intro hr (And.intro hC hb)))
  (try unfold vNull)
  have hsz := hd.lt
  clear hW hr hd hb hC
  obtain ⟨S, hS⟩ : ∃ S, BA s = S := ⟨_, rfl⟩
  rw [hS] at H0 ⊢
  go_enter Tryd.func21, Tryd.ntmps21
  go_wp2_with fail
  rw [H0.out.1]
  refine (show Calls _ _ #[_, .int .i64 1] _ _ from H0.out.2.2.1).mono ?_
  rintro e w2 ⟨c, rfl, hsh, hm, hO2⟩
  obtain ⟨q0, q1, q2, q3, q4, q5, q6, q7, q8, rfl⟩ := hsh
  rw [show (some s).bind (rvalueL 15) = rvalueL 15 s from rfl, hres] at hm
  have hr2 := H0.out.2.1.only hO2 (fun e => by omega)
  have hb2 : Below w.heap.size w w2 := H0.out.2.2.2.trans (hO2.below H0.out.2.2.2.size (fun k hk e => by omega))
  have w2s := hr2.lt
  have hW2 := hO2.size
  obtain ⟨P, hP⟩ : ∃ P, w.heap.size = P := ⟨_, rfl⟩
  obtain ⟨M, hM⟩ : ∃ M, w2.heap.size = M := ⟨_, rfl⟩
  have hPM : P + 1 < M := by omega
  rw [hP] at hr2 hb2 hm
  have hr3 : Blk (w2.alloc (.cells #[.int .i64 q0, .int .i64 q1, .string q2, .slice q3 q4 q5, .slice q6 q7 q8] 28)) P 28 [.int .i64 0, .int .i64 0, .string ⟨#[]⟩, .slice none 0 0, .slice none 0 0] := hr2.alloc _
  have hv3 : Blk (w2.alloc (.cells #[.int .i64 q0, .int .i64 q1, .string q2, .slice q3 q4 q5, .slice q6 q7 q8] 28)) w2.heap.size 28 [.int .i64 q0, .int .i64 q1, .string q2, .slice q3 q4 q5, .slice q6 q7 q8] := heap_alloc_new w2 _
  rw [hM] at hv3
  have hb3 : Below P w (w2.alloc (.cells #[.int .i64 q0, .int .i64 q1, .string q2, .slice q3 q4 q5, .slice q6 q7 q8] 28)) := hb2.alloc (by omega) _
  have hWP : W.heap.size ≤ w2.heap.size := hW2
  have hd4 := (show Blk w2 (P + 1) 78 [.string ⟨#[]⟩, .bool false] from hm.2)
  have hd4 := hd4.alloc (.cells #[.int .i64 q0, .int .i64 q1, .string q2, .slice q3 q4 q5, .slice q6 q7 q8] 28)
  have d0 := hd4.cell 0
  have d1 := hd4.cell 1
  have hlv : (keyL v).length ≤ 1000000 := by
    have h1 := (rvalueL_key 15 s v [] hres).1
    rw [List.append_nil] at h1
    rw [← h1]; exact hs
  have hvx := hm.1
  have hbel3 : Below w2.heap.size w2 (w2.alloc (.cells #[.int .i64 q0, .int .i64 q1, .string q2, .slice q3 q4 q5, .slice q6 q7 q8] 28)) := (Below.refl _ w2).alloc (Nat.le_refl _) _
  have hvy := hvx.later hbel3
  have hC := vvalid_any v _ (w2.alloc (.cells #[.int .i64 q0, .int .i64 q1, .string q2, .slice q3 q4 q5, .slice q6 q7 q8] 28)) _ hvy (HT.out.below (by rw [hP]; exact hb3)) hlv
  unfold ValidC at hC
  rw [hvv] at hC
  have hPM1 : ¬ P = M := by omega
  have hPM2 : ¬ M = P := by omega
  have hWsz : P + 2 ≤ W.heap.size := by rw [← H0.out.1, ← hP]; simp
  have H3 := Lib.hid (And.intro hC (And.intro hvy (And.intro hr3 (And.intro hv3 (And.intro hb3 (And.intro hWsz hP))))))
  (try rw [hP])
  clear hr3 hv3 hb3 hPM hd4 hS hsz hm hO2 hr2 hb2 w2s hW2 hWP hC hvy hbel3 hvx hWsz hP
  go_wp2_with fail
  refine (show Calls _ _ _ _ _ from H3.out.1).mono ?_
  rintro e w4 ⟨rfl, hb4⟩
  have hv4 := H3.out.2.2.2.1.below hb4
  have hr4 := H3.out.2.2.1.below hb4
  have hbb4 : Below P w w4 := H3.out.2.2.2.2.1.trans (hb4.mono (by have := H3.out.2.2.1.lt; omega))
  have hvz := H3.out.2.1.later hb4
  have v0 := hv4.cell 0
  have v1 := hv4.cell 1
  have v2 := hv4.cell 2
  have v3 := hv4.cell 3
  have v4 := hv4.cell 4
  have r0 := hr4.cell 0
  have r1 := hr4.cell 1
  have r2 := hr4.cell 2
  have r3 := hr4.cell 3
  have r4 := hr4.cell 4
  have s0 := hr4.frozen 0
  have s1 := hr4.frozen 1
  have s2 := hr4.frozen 2
  have s3 := hr4.frozen 3
  have s4 := hr4.frozen 4
  obtain ⟨W5, hW5⟩ : ∃ W5, (((((w4.setCell ⟨P, 0, none⟩ (.int .i64 0)).setCell ⟨P, 1, none⟩ (.int .i64 0)).setCell ⟨P, 2, none⟩ (.string ⟨#[]⟩)).setCell ⟨P, 3, none⟩ (.slice none 0 0)).setCell ⟨P, 4, none⟩ (.slice none 0 0)) = W5 := ⟨_, rfl⟩
  have hF := get_end hbb4 hr4 hW5
  have hsz4 := hb4.size
  have hms : M ≤ w4.heap.size := by rw [← hM]; have := hb4.size; simp at this; omega
  have HF := Lib.hid (And.intro hW5 (And.intro hF.1 (And.intro (show Below w.heap.size w W5 by rw [H3.out.2.2.2.2.2.2]; exact hF.2.1) hF.2.2)))
  clear d0 d1 hW5 hF hv4 hr4 hbb4 hvz hb4 hM hms hsz4
  go_wp2
  rw [HF.out.1]
  have z0 := HF.out.2.1.cell 0
  have z1 := HF.out.2.1.cell 1
  have z2 := HF.out.2.1.cell 2
  have z3 := HF.out.2.1.cell 3
  have z4 := HF.out.2.1.cell 4
  (try simp only [Exit.inBlock, Exit.then])
  refine bodyPost_ret (v := .tuple #[.agg #[.int .i64 0, .int .i64 0, .string ⟨#[]⟩, .slice none 0 0, .slice none 0 0], .bool false]) ?_ rfl (⟨rfl, HF.out.2.2.1⟩)
  rw [results_cell_tmp rfl]
  go_simp

set_option maxHeartbeats 8000000 in
set_option maxRecDepth 100000 in
theorem get_fine (s : BL) (v : V) (w : World) (hT : Tabs w) (hs : s.length ≤ 1000000) (hres : rvalueL 15 s = some (v, [])) (hvv : validV v = true) : Calls Tryd.prog 21 #[.string (BA s)] w fun e w' => ∃ c, e = .returned (.tuple #[.agg c.toArray, .bool true]) ∧ VAt (fun b => w.heap.size ≤ b ∧ b < w'.heap.size) w' v c ∧ Below w.heap.size w w' := by
  have HT := Lib.hid hT
  clear hT
  obtain ⟨W, hW, hr, hd, hb⟩ := get_start w (BA s)
  have hC := rv_any 15 (by omega) W (w.heap.size + 1) (some s) (fun x hx => by injection hx with hx; rw [← hx]; exact hs) hd
  have H0 := Lib.hid (And.intro hW (And.intro hr (And.intro hC hb)))
  (try unfold vNull)
  have hsz := hd.lt
  clear hW hr hd hb hC
  obtain ⟨S, hS⟩ : ∃ S, BA s = S := ⟨_, rfl⟩
  rw [hS] at H0 ⊢
  go_enter Tryd.func21, Tryd.ntmps21
  go_wp2_with fail
  rw [H0.out.1]
  refine (show Calls _ _ #[_, .int .i64 1] _ _ from H0.out.2.2.1).mono ?_
  rintro e w2 ⟨c, rfl, hsh, hm, hO2⟩
  obtain ⟨q0, q1, q2, q3, q4, q5, q6, q7, q8, rfl⟩ := hsh
  rw [show (some s).bind (rvalueL 15) = rvalueL 15 s from rfl, hres] at hm
  have hr2 := H0.out.2.1.only hO2 (fun e => by omega)
  have hb2 : Below w.heap.size w w2 := H0.out.2.2.2.trans (hO2.below H0.out.2.2.2.size (fun k hk e => by omega))
  have w2s := hr2.lt
  have hW2 := hO2.size
  obtain ⟨P, hP⟩ : ∃ P, w.heap.size = P := ⟨_, rfl⟩
  obtain ⟨M, hM⟩ : ∃ M, w2.heap.size = M := ⟨_, rfl⟩
  have hPM : P + 1 < M := by omega
  rw [hP] at hr2 hb2 hm
  have hr3 : Blk (w2.alloc (.cells #[.int .i64 q0, .int .i64 q1, .string q2, .slice q3 q4 q5, .slice q6 q7 q8] 28)) P 28 [.int .i64 0, .int .i64 0, .string ⟨#[]⟩, .slice none 0 0, .slice none 0 0] := hr2.alloc _
  have hv3 : Blk (w2.alloc (.cells #[.int .i64 q0, .int .i64 q1, .string q2, .slice q3 q4 q5, .slice q6 q7 q8] 28)) w2.heap.size 28 [.int .i64 q0, .int .i64 q1, .string q2, .slice q3 q4 q5, .slice q6 q7 q8] := heap_alloc_new w2 _
  rw [hM] at hv3
  have hb3 : Below P w (w2.alloc (.cells #[.int .i64 q0, .int .i64 q1, .string q2, .slice q3 q4 q5, .slice q6 q7 q8] 28)) := hb2.alloc (by omega) _
  have hWP : W.heap.size ≤ w2.heap.size := hW2
  have hd4 := (show Blk w2 (P + 1) 78 [.string ⟨#[]⟩, .bool false] from hm.2)
  have hd4 := hd4.alloc (.cells #[.int .i64 q0, .int .i64 q1, .string q2, .slice q3 q4 q5, .slice q6 q7 q8] 28)
  have d0 := hd4.cell 0
  have d1 := hd4.cell 1
  have hlv : (keyL v).length ≤ 1000000 := by
    have h1 := (rvalueL_key 15 s v [] hres).1
    rw [List.append_nil] at h1
    rw [← h1]; exact hs
  have hvx := hm.1
  have hbel3 : Below w2.heap.size w2 (w2.alloc (.cells #[.int .i64 q0, .int .i64 q1, .string q2, .slice q3 q4 q5, .slice q6 q7 q8] 28)) := (Below.refl _ w2).alloc (Nat.le_refl _) _
  have hvy := hvx.later hbel3
  have hC := vvalid_any v _ (w2.alloc (.cells #[.int .i64 q0, .int .i64 q1, .string q2, .slice q3 q4 q5, .slice q6 q7 q8] 28)) _ hvy (HT.out.below (by rw [hP]; exact hb3)) hlv
  unfold ValidC at hC
  rw [hvv] at hC
  have hPM1 : ¬ P = M := by omega
  have hPM2 : ¬ M = P := by omega
  have hWsz : P + 2 ≤ W.heap.size := by rw [← H0.out.1, ← hP]; simp
  have H3 := Lib.hid (And.intro hC (And.intro hvy (And.intro hr3 (And.intro hv3 (And.intro hb3 (And.intro hWsz hP))))))
  (try rw [hP])
  clear hr3 hv3 hb3 hPM hd4 hS hsz hm hO2 hr2 hb2 w2s hW2 hWP hC hvy hbel3 hvx hWsz hP
  go_wp2_with fail
  refine (show Calls _ _ _ _ _ from H3.out.1).mono ?_
  rintro e w4 ⟨rfl, hb4⟩
  have hv4 := H3.out.2.2.2.1.below hb4
  have hr4 := H3.out.2.2.1.below hb4
  have hbb4 : Below P w w4 := H3.out.2.2.2.2.1.trans (hb4.mono (by have := H3.out.2.2.1.lt; omega))
  have hvz := H3.out.2.1.later hb4
  have v0 := hv4.cell 0
  have v1 := hv4.cell 1
  have v2 := hv4.cell 2
  have v3 := hv4.cell 3
  have v4 := hv4.cell 4
  have r0 := hr4.cell 0
  have r1 := hr4.cell 1
  have r2 := hr4.cell 2
  have r3 := hr4.cell 3
  have r4 := hr4.cell 4
  have s0 := hr4.frozen 0
  have s1 := hr4.frozen 1
  have s2 := hr4.frozen 2
  have s3 := hr4.frozen 3
  have s4 := hr4.frozen 4
  obtain ⟨W5, hW5⟩ : ∃ W5, (((((w4.setCell ⟨P, 0, none⟩ (.int .i64 q0)).setCell ⟨P, 1, none⟩ (.int .i64 q1)).setCell ⟨P, 2, none⟩ (.string q2)).setCell ⟨P, 3, none⟩ (.slice q3 q4 q5)).setCell ⟨P, 4, none⟩ (.slice q6 q7 q8)) = W5 := ⟨_, rfl⟩
  have hF := get_end hbb4 hr4 hW5
  have hsz4 := hb4.size
  have hms : M ≤ w4.heap.size := by rw [← hM]; have := hb4.size; simp at this; omega
  have hfin : VAt (fun b => w.heap.size ≤ b ∧ b < W5.heap.size) W5 v [.int .i64 q0, .int .i64 q1, .string q2, .slice q3 q4 q5, .slice q6 q7 q8] := hvz.keep (fun b hb => ⟨by have := H3.out.2.2.2.2.2.2; have := H3.out.2.2.2.2.2.1; have := hb.1; omega, by have := hF.2.2.size; have := hb.2; omega⟩)
    (fun b hb k u hu => hF.2.2.cell (fun e => by have e2 : b = P := e; have := H3.out.2.2.2.2.2.1; have := hb.1; omega) hu)
  have HF := Lib.hid (And.intro hW5 (And.intro hF.1 (And.intro (show Below w.heap.size w W5 by rw [H3.out.2.2.2.2.2.2]; exact hF.2.1) hfin)))
  clear hfin
  clear d0 d1 hW5 hF hv4 hr4 hbb4 hvz hb4 hM hms hsz4
  go_wp2
  rw [HF.out.1]
  have z0 := HF.out.2.1.cell 0
  have z1 := HF.out.2.1.cell 1
  have z2 := HF.out.2.1.cell 2
  have z3 := HF.out.2.1.cell 3
  have z4 := HF.out.2.1.cell 4
  (try simp only [Exit.inBlock, Exit.then])
  refine bodyPost_ret (v := .tuple #[.agg #[.int .i64 q0, .int .i64 q1, .string q2, .slice q3 q4 q5, .slice q6 q7 q8], .bool true]) ?_ rfl (⟨[.int .i64 q0, .int .i64 q1, .string q2, .slice q3 q4 q5, .slice q6 q7 q8], rfl, HF.out.2.2.2, HF.out.2.2.1⟩)
  rw [results_cell_tmp rfl]
  go_simp

theorem kget_any (s : BL) (w : World) (hT : Tabs w) (hs : s.length ≤ 1000000) : Calls Tryd.prog 21 #[.string (BA s)] w (GetPost w s) := by
  have e : ∀ o, getL s = o → Calls Tryd.prog 21 #[.string (BA s)] w (match (o : Option V) with | some v => (fun e w' => ∃ c, e = .returned (.tuple #[.agg c.toArray, .bool true]) ∧ VAt (fun b => w.heap.size ≤ b ∧ b < w'.heap.size) w' v c ∧ Below w.heap.size w w') | none => (fun e w' => e = .returned (.tuple #[vNull, .bool false]) ∧ Below w.heap.size w w')) → Calls Tryd.prog 21 #[.string (BA s)] w (GetPost w s) := by
    intro o ho h
    refine h.mono ?_
    intro e w' h
    unfold GetPost
    rw [ho]
    cases o <;> exact h
  cases hres : rvalueL 15 s with
  | none => exact e none (by unfold getL; rw [hres]) (get_bad s w hs hres)
  | some p =>
    obtain ⟨v, r⟩ := p
    cases r with
    | cons k r => exact e none (by unfold getL; rw [hres]) (get_rest s v k r w hs hres)
    | nil =>
      cases hv : validV v with
      | true => exact e (some v) (by unfold getL; rw [hres]; simp [hv]) (get_fine s v w hT hs hres hv)
      | false => exact e none (by unfold getL; rw [hres]; simp [hv]) (get_wrong s v w hT hs hres hv)
end Go.Proofs.YthlioinmeimhoaaDoor