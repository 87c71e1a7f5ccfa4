/- heap.Next: the record behind a number. -/
import Derived.Test.YtecnjifincahaaaGreatDoorIzC
namespace Go.Proofs.YtecnjifincahaaaGreatDoor
open Go.Shelf Go.RowKit Go.Lib

/-- block bh is a heap that reads as the records T. -/
structure HRead (w : World) (bh : Nat) (T : List DocT) (last : Int) : Prop where
  cells : ∃ a cap, Blk w bh 97 [.slice a T.length cap, .int .i64 last] ∧ DCells w (.slice a T.length cap) T
  five : ∀ t ∈ T, ∃ q0 q1 q2 q3 q4 q5 q6 q7 q8, t.c = [.int .i64 q0, .int .i64 q1, .string q2, .slice q3 q4 q5, .slice q6 q7 q8]
  rising : Rising T
  few : T.length ≤ 1000
theorem HRead.later {w w2 : World} {bh : Nat} {T : List DocT} {last : Int} (h : HRead w bh T last) (hb : Below w.heap.size w w2) : HRead w2 bh T last := by
  obtain ⟨⟨a, cap, h1, h2⟩, h3, h4, h5⟩ := h
  exact ⟨⟨a, cap, h1.below hb, h2.later hb⟩, h3, h4, h5⟩
theorem HRep.read {w : World} {bh : Nat} {ob : Option Nat} {S : Nat → Prop} {T : List DocT} {last : Int} (h : HRep w bh ob S T last) (hR : Rising T) (hT : T.length ≤ 1000) : HRead w bh T last := by
  obtain ⟨sv, h1, h2, h3⟩ := h.cells
  obtain ⟨a, cap, rfl, hc, hx⟩ := h2.shape
  exact ⟨⟨a, cap, h1, ⟨a, cap, rfl, hc, hx⟩⟩, fun t ht => (h3 t ht).shape, hR, hT⟩
set_option maxHeartbeats 4000000 in
set_option maxRecDepth 100000 in
theorem find_rec (w : World) (bh : Nat) (T : List DocT) (last g : Int) (h : HRead w bh T last) :
    Calls Tryz.prog 49 #[.pointer (some ⟨bh, 0, none⟩), .int .i64 g] w fun e w' => ∃ k, FindK T g k ∧ e = .returned (.tuple #[.int .i64 (k : Int), .bool (foundB T g k)]) ∧ Below w.heap.size w w' := by
  obtain ⟨⟨a, cap, h1, h2⟩, h3, h4, h5⟩ := h
  have hc := bsearch_any w _ T g h2 h3 h4 h5
  have c0 := h1.cell 0
  have HC := Lib.hid hc
  obtain ⟨n, hn⟩ : ∃ n, T.length = n := ⟨_, rfl⟩
  rw [hn] at HC c0
  clear h1 h2 h3 h4 h5 hc
  go_enter Tryz.func49, Tryz.ntmps49
  go_wp2_with fail
  refine (show Calls _ _ _ _ _ from HC.out).mono ?_
  rintro e w2 ⟨k, hk, rfl, hb⟩
  have HK := Lib.hid (And.intro hk hb)
  clear hk hb
  go_wp2
  go_ret2
  exact ⟨k, HK.out.1, rfl, HK.out.2⟩
/-- what Next tells. -/
def NextR (T : List DocT) (g : Int) (e : Ending) : Prop := ∃ k, k ≤ T.length ∧ (∀ i (h : i < T.length), i < k → T[i].id ≤ g) ∧ (∀ i (h : i < T.length), k ≤ i → g < T[i].id) ∧
  ((∃ h : k < T.length, e = .returned (.tuple #[.agg (.int .i64 T[k].id :: T[k].c).toArray, .bool true])) ∨ (k = T.length ∧ e = .returned (.tuple #[.agg #[.int .i64 0, .int .i64 0, .int .i64 0, .string ⟨#[]⟩, .slice none 0 0, .slice none 0 0], .bool false])))
set_option maxHeartbeats 8000000 in
set_option maxRecDepth 100000 in
theorem next_rec (w : World) (bh : Nat) (T : List DocT) (last g : Int) (h : HRead w bh T last) :
    Calls Tryz.prog 46 #[.pointer (some ⟨bh, 0, none⟩), .int .i64 g] w fun e w' => NextR T g e ∧ Below w.heap.size w w' := by
  obtain ⟨W0, hW0⟩ : ∃ W, w.alloc (.cells #[.int .i64 0, .int .i64 0, .int .i64 0, .string ⟨#[]⟩, .slice none 0 0, .slice none 0 0] 90) = W := ⟨_, rfl⟩
  obtain ⟨P0, hP0⟩ : ∃ P, w.heap.size = P := ⟨_, rfl⟩
  have hb0 : Below w.heap.size w W0 := by rw [← hW0]; exact (Below.refl _ w).alloc (Nat.le_refl _) _
  have hk0 : Blk W0 P0 90 [.int .i64 0, .int .i64 0, .int .i64 0, .string ⟨#[]⟩, .slice none 0 0, .slice none 0 0] := by rw [← hW0, ← hP0]; exact heap_alloc_new w _
  have h0 := h.later hb0
  have hf := find_rec W0 bh T last g h0
  obtain ⟨n, hn⟩ : ∃ n, T.length = n := ⟨_, rfl⟩
  have H0 := Lib.hid (And.intro hW0 (And.intro hP0 (And.intro hb0 (And.intro hk0 (And.intro h0 (And.intro hf hn))))))
  clear hW0 hP0 hb0 hk0 h0 hf hn h
  go_enter Tryz.func46, Tryz.ntmps46
  go_wp2_with fail
  rw [H0.out.1, H0.out.2.1]
  refine (show Calls _ _ _ _ _ from H0.out.2.2.2.2.2.1).mono ?_
  rintro e w2 ⟨k, hfk, rfl, hb2⟩
  have hn := H0.out.2.2.2.2.2.2
  have hT := H0.out.2.2.2.2.1.few
  have hR := H0.out.2.2.2.2.1.rising
  -- the place behind the number
  obtain ⟨k2, hk2, hk2a, hk2b, hk2c⟩ : ∃ k2, (if foundB T g k then k + 1 else k) = k2 ∧ k2 ≤ T.length ∧ (∀ i (h : i < T.length), i < k2 → T[i].id ≤ g) ∧ (∀ i (h : i < T.length), k2 ≤ i → g < T[i].id) := by
    refine ⟨_, rfl, ?_⟩
    obtain ⟨a1, a2, a3⟩ := hfk
    cases hfb : foundB T g k with
    | true =>
      unfold foundB at hfb
      cases hq : T[k]? with
      | none => rw [hq] at hfb; cases hfb
      | some t =>
        rw [hq] at hfb
        obtain ⟨hkl, hkt⟩ := List.getElem?_eq_some_iff.1 hq
        have hid : T[k].id = g := by rw [hkt]; simpa using hfb
        refine ⟨by simp; omega, fun i hi hik => ?_, fun i hi hik => ?_⟩
        · simp only [if_true] at hik
          by_cases h : i < k
          · have := a2 i hi h; omega
          · obtain rfl : i = k := by omega
            omega
        · simp only [if_true] at hik
          have := hR k i hkl hi (by omega)
          omega
    | false =>
      refine ⟨by simpa using a1, fun i hi hik => ?_, fun i hi hik => ?_⟩
      · have := a2 i hi (by simpa using hik); omega
      · have h1 := a3 i hi (by simpa using hik)
        have h2 : T[i].id ≠ g := fun e => by
          by_cases hik2 : i = k
          · subst hik2
            unfold foundB at hfb
            rw [List.getElem?_eq_getElem hi] at hfb
            simp [e] at hfb
          · have hki : k < i := by simp at hik; omega
            have h3 := hR k i (by omega) hi hki
            have h4 := a3 k (by omega) (Nat.le_refl _)
            omega
        omega
  obtain ⟨a, cap, hk1, hD⟩ := (H0.out.2.2.2.2.1.later hb2).cells
  have H2 := Lib.hid (And.intro (H0.out.2.2.1.trans (hb2.mono H0.out.2.2.1.size)) (And.intro (H0.out.2.2.2.1.below hb2) (And.intro hk2a (And.intro hk2b hk2c))))
  obtain ⟨a', cap', heq, hcap, hx⟩ := hD.shape
  injection heq with e1 e2 e3
  subst e1 e3
  rw [hn] at hk1 hcap
  have c0 := hk1.cell 0
  have s0 := H2.out.2.1.frozen 0
  have s1 := H2.out.2.1.frozen 1
  have s2 := H2.out.2.1.frozen 2
  have s3 := H2.out.2.1.frozen 3
  have s4 := H2.out.2.1.frozen 4
  have s5 := H2.out.2.1.frozen 5
  have r0 := H2.out.2.1.cell 0
  have r1 := H2.out.2.1.cell 1
  have r2 := H2.out.2.1.cell 2
  have r3 := H2.out.2.1.cell 3
  have r4 := H2.out.2.1.cell 4
  have r5 := H2.out.2.1.cell 5
  have HX := Lib.hid (And.intro hx H0.out.2.2.2.2.1.five)
  clear hb2 hk1 hD hx hk2a hk2b hk2c hR
  have hk1000 : k ≤ 1000 := by have := hfk.1; omega
  clear hfk
  cases hfb : foundB T g k with
  | true =>
    rw [hfb] at hk2
    clear hfb
    have hk2' : k2 = k + 1 := by rw [← hk2]; simp
    subst hk2'
    clear hk2
    have hwk : IntKind.i64.wrap ((k : Int) + 1) = (k : Int) + 1 := IntWalk.i64_in _ (by omega)
    by_cases hkn : k + 1 < n
    · have hkz : ¬ (n : Int) ≤ (((k : Int) + 1)) := by omega
      have hkz2 : ((k : Int) + 1) < (n : Int) := by omega
      have hk0' : (0 : Int) ≤ ((k : Int) + 1) := by omega
      have htn : ((k : Int) + 1).toNat = k + 1 := by omega
      have hkl : k + 1 < T.length := by omega
      obtain ⟨b, rfl, hbn, hcells⟩ := HX.out.1 (by omega)
      have hc := hcells (k + 1) hkl
      obtain ⟨t, ht⟩ : ∃ t, T[k + 1] = t := ⟨_, rfl⟩
      rw [ht] at hc
      obtain ⟨q0, q1, q2, q3, q4, q5, q6, q7, q8, hq⟩ := HX.out.2 t (by rw [← ht]; exact List.getElem_mem hkl)
      have f0 := hc.1
      have f1 : w2.cell? ⟨b, (k + 1) * 6 + 1, none⟩ = some (.int .i64 q0) := (hc.2 0 (by omega)).trans (by rw [hq]; rfl)
      have f2 : w2.cell? ⟨b, (k + 1) * 6 + 2, none⟩ = some (.int .i64 q1) := (hc.2 1 (by omega)).trans (by rw [hq]; rfl)
      have f3 : w2.cell? ⟨b, (k + 1) * 6 + 3, none⟩ = some (.string q2) := (hc.2 2 (by omega)).trans (by rw [hq]; rfl)
      have f4 : w2.cell? ⟨b, (k + 1) * 6 + 4, none⟩ = some (.slice q3 q4 q5) := (hc.2 3 (by omega)).trans (by rw [hq]; rfl)
      have f5 : w2.cell? ⟨b, (k + 1) * 6 + 5, none⟩ = some (.slice q6 q7 q8) := (hc.2 4 (by omega)).trans (by rw [hq]; rfl)
      obtain ⟨id, hid⟩ : ∃ i, t.id = i := ⟨_, rfl⟩
      rw [hid] at f0
      have HT := Lib.hid (And.intro hkl (And.intro ht (And.intro hid hq)))
      clear hc hcells hq ht hid
      go_wp2
      clear s0 s1 s2 s3 s4 s5 r0 r1 r2 r3 r4 r5 f0 f1 f2 f3 f4 f5 c0
      have hkd := H2.out.2.1
      have hbd := H2.out.1
      obtain ⟨W5, eW5⟩ : ∃ W, ((((((w2.setCell ⟨P0, 0, none⟩ (.int .i64 id)).setCell ⟨P0, 1, none⟩ (.int .i64 q0)).setCell ⟨P0, 2, none⟩ (.int .i64 q1)).setCell ⟨P0, 3, none⟩ (.string q2)).setCell ⟨P0, 4, none⟩ (.slice q3 q4 q5)).setCell ⟨P0, 5, none⟩ (.slice q6 q7 q8)) = W := ⟨_, rfl⟩
      have hk5 : Blk W5 P0 90 [.int .i64 id, .int .i64 q0, .int .i64 q1, .string q2, .slice q3 q4 q5, .slice q6 q7 q8] := by rw [← eW5]; exact ((((((hkd).set 0 _).set 1 _).set 2 _).set 3 _).set 4 _).set 5 _
      have ho5 : Only (fun k => k = P0) w2 W5 := by rw [← eW5]; exact (((((Only.set1 _ P0 0 _).trans (Only.set1 _ P0 1 _)).trans (Only.set1 _ P0 2 _)).trans (Only.set1 _ P0 3 _)).trans (Only.set1 _ P0 4 _)).trans (Only.set1 _ P0 5 _)
      have hb5 := hbd.trans (ho5.below hbd.size (fun k hk e => by have := H0.out.2.1; omega))
      rw [eW5]
      have z0 := hk5.cell 0
      have z1 := hk5.cell 1
      have z2 := hk5.cell 2
      have z3 := hk5.cell 3
      have z4 := hk5.cell 4
      have z5 := hk5.cell 5
      (try simp only [Exit.inBlock, Exit.then])
      refine bodyPost_ret (v := .tuple #[.agg #[.int .i64 id, .int .i64 q0, .int .i64 q1, .string q2, .slice q3 q4 q5, .slice q6 q7 q8], .bool true]) ?_ rfl ⟨?_, hb5⟩
      · rw [results_cell_tmp rfl]
        clear hb5 ho5
        go_simp
      · exact ⟨k + 1, H2.out.2.2.1, H2.out.2.2.2.1, H2.out.2.2.2.2, .inl ⟨HT.out.1, by rw [HT.out.2.1, HT.out.2.2.1, HT.out.2.2.2]⟩⟩
    · have hkz : (n : Int) ≤ (((k : Int) + 1)) := by omega
      go_wp2
      clear s0 s1 s2 s3 s4 s5 r0 r1 r2 r3 r4 r5 c0
      have hkd := H2.out.2.1
      have hbd := H2.out.1
      obtain ⟨W5, eW5⟩ : ∃ W, ((((((w2.setCell ⟨P0, 0, none⟩ (.int .i64 0)).setCell ⟨P0, 1, none⟩ (.int .i64 0)).setCell ⟨P0, 2, none⟩ (.int .i64 0)).setCell ⟨P0, 3, none⟩ (.string ⟨#[]⟩)).setCell ⟨P0, 4, none⟩ (.slice none 0 0)).setCell ⟨P0, 5, none⟩ (.slice none 0 0)) = W := ⟨_, rfl⟩
      have hk5 : Blk W5 P0 90 [.int .i64 0, .int .i64 0, .int .i64 0, .string ⟨#[]⟩, .slice none 0 0, .slice none 0 0] := by rw [← eW5]; exact ((((((hkd).set 0 _).set 1 _).set 2 _).set 3 _).set 4 _).set 5 _
      have ho5 : Only (fun k => k = P0) w2 W5 := by rw [← eW5]; exact (((((Only.set1 _ P0 0 _).trans (Only.set1 _ P0 1 _)).trans (Only.set1 _ P0 2 _)).trans (Only.set1 _ P0 3 _)).trans (Only.set1 _ P0 4 _)).trans (Only.set1 _ P0 5 _)
      have hb5 := hbd.trans (ho5.below hbd.size (fun k hk e => by have := H0.out.2.1; omega))
      rw [eW5]
      have z0 := hk5.cell 0
      have z1 := hk5.cell 1
      have z2 := hk5.cell 2
      have z3 := hk5.cell 3
      have z4 := hk5.cell 4
      have z5 := hk5.cell 5
      (try simp only [Exit.inBlock, Exit.then])
      refine bodyPost_ret (v := .tuple #[.agg #[.int .i64 0, .int .i64 0, .int .i64 0, .string ⟨#[]⟩, .slice none 0 0, .slice none 0 0], .bool false]) ?_ rfl ⟨?_, hb5⟩
      · rw [results_cell_tmp rfl]
        clear hb5 ho5
        go_simp
      · exact ⟨k + 1, H2.out.2.2.1, H2.out.2.2.2.1, H2.out.2.2.2.2, .inr ⟨by have := H2.out.2.2.1; omega, rfl⟩⟩
  | false =>
    rw [hfb] at hk2
    clear hfb
    have hk2' : k2 = k := by rw [← hk2]; simp
    subst hk2'
    clear hk2
    have hwk : IntKind.i64.wrap ((k2 : Int) + 1) = (k2 : Int) + 1 := IntWalk.i64_in _ (by omega)
    by_cases hkn : k2 < n
    · have hkz : ¬ (n : Int) ≤ (((k2 : Int))) := by omega
      have hkz2 : ((k2 : Int)) < (n : Int) := by omega
      have hk0' : (0 : Int) ≤ ((k2 : Int)) := by omega
      have htn : ((k2 : Int)).toNat = k2 := by omega
      have hkl : k2 < T.length := by omega
      obtain ⟨b, rfl, hbn, hcells⟩ := HX.out.1 (by omega)
      have hc := hcells (k2) hkl
      obtain ⟨t, ht⟩ : ∃ t, T[k2] = t := ⟨_, rfl⟩
      rw [ht] at hc
      obtain ⟨q0, q1, q2, q3, q4, q5, q6, q7, q8, hq⟩ := HX.out.2 t (by rw [← ht]; exact List.getElem_mem hkl)
      have f0 := hc.1
      have f1 : w2.cell? ⟨b, (k2) * 6 + 1, none⟩ = some (.int .i64 q0) := (hc.2 0 (by omega)).trans (by rw [hq]; rfl)
      have f2 : w2.cell? ⟨b, (k2) * 6 + 2, none⟩ = some (.int .i64 q1) := (hc.2 1 (by omega)).trans (by rw [hq]; rfl)
      have f3 : w2.cell? ⟨b, (k2) * 6 + 3, none⟩ = some (.string q2) := (hc.2 2 (by omega)).trans (by rw [hq]; rfl)
      have f4 : w2.cell? ⟨b, (k2) * 6 + 4, none⟩ = some (.slice q3 q4 q5) := (hc.2 3 (by omega)).trans (by rw [hq]; rfl)
      have f5 : w2.cell? ⟨b, (k2) * 6 + 5, none⟩ = some (.slice q6 q7 q8) := (hc.2 4 (by omega)).trans (by rw [hq]; rfl)
      obtain ⟨id, hid⟩ : ∃ i, t.id = i := ⟨_, rfl⟩
      rw [hid] at f0
      have HT := Lib.hid (And.intro hkl (And.intro ht (And.intro hid hq)))
      clear hc hcells hq ht hid
      go_wp2
      clear s0 s1 s2 s3 s4 s5 r0 r1 r2 r3 r4 r5 f0 f1 f2 f3 f4 f5 c0
      have hkd := H2.out.2.1
      have hbd := H2.out.1
      obtain ⟨W5, eW5⟩ : ∃ W, ((((((w2.setCell ⟨P0, 0, none⟩ (.int .i64 id)).setCell ⟨P0, 1, none⟩ (.int .i64 q0)).setCell ⟨P0, 2, none⟩ (.int .i64 q1)).setCell ⟨P0, 3, none⟩ (.string q2)).setCell ⟨P0, 4, none⟩ (.slice q3 q4 q5)).setCell ⟨P0, 5, none⟩ (.slice q6 q7 q8)) = W := ⟨_, rfl⟩
      have hk5 : Blk W5 P0 90 [.int .i64 id, .int .i64 q0, .int .i64 q1, .string q2, .slice q3 q4 q5, .slice q6 q7 q8] := by rw [← eW5]; exact ((((((hkd).set 0 _).set 1 _).set 2 _).set 3 _).set 4 _).set 5 _
      have ho5 : Only (fun k => k = P0) w2 W5 := by rw [← eW5]; exact (((((Only.set1 _ P0 0 _).trans (Only.set1 _ P0 1 _)).trans (Only.set1 _ P0 2 _)).trans (Only.set1 _ P0 3 _)).trans (Only.set1 _ P0 4 _)).trans (Only.set1 _ P0 5 _)
      have hb5 := hbd.trans (ho5.below hbd.size (fun k hk e => by have := H0.out.2.1; omega))
      rw [eW5]
      have z0 := hk5.cell 0
      have z1 := hk5.cell 1
      have z2 := hk5.cell 2
      have z3 := hk5.cell 3
      have z4 := hk5.cell 4
      have z5 := hk5.cell 5
      (try simp only [Exit.inBlock, Exit.then])
      refine bodyPost_ret (v := .tuple #[.agg #[.int .i64 id, .int .i64 q0, .int .i64 q1, .string q2, .slice q3 q4 q5, .slice q6 q7 q8], .bool true]) ?_ rfl ⟨?_, hb5⟩
      · rw [results_cell_tmp rfl]
        clear hb5 ho5
        go_simp
      · exact ⟨k2, H2.out.2.2.1, H2.out.2.2.2.1, H2.out.2.2.2.2, .inl ⟨HT.out.1, by rw [HT.out.2.1, HT.out.2.2.1, HT.out.2.2.2]⟩⟩
    · have hkz : (n : Int) ≤ (((k2 : Int))) := by omega
      go_wp2
      clear s0 s1 s2 s3 s4 s5 r0 r1 r2 r3 r4 r5 c0
      have hkd := H2.out.2.1
      have hbd := H2.out.1
      obtain ⟨W5, eW5⟩ : ∃ W, ((((((w2.setCell ⟨P0, 0, none⟩ (.int .i64 0)).setCell ⟨P0, 1, none⟩ (.int .i64 0)).setCell ⟨P0, 2, none⟩ (.int .i64 0)).setCell ⟨P0, 3, none⟩ (.string ⟨#[]⟩)).setCell ⟨P0, 4, none⟩ (.slice none 0 0)).setCell ⟨P0, 5, none⟩ (.slice none 0 0)) = W := ⟨_, rfl⟩
      have hk5 : Blk W5 P0 90 [.int .i64 0, .int .i64 0, .int .i64 0, .string ⟨#[]⟩, .slice none 0 0, .slice none 0 0] := by rw [← eW5]; exact ((((((hkd).set 0 _).set 1 _).set 2 _).set 3 _).set 4 _).set 5 _
      have ho5 : Only (fun k => k = P0) w2 W5 := by rw [← eW5]; exact (((((Only.set1 _ P0 0 _).trans (Only.set1 _ P0 1 _)).trans (Only.set1 _ P0 2 _)).trans (Only.set1 _ P0 3 _)).trans (Only.set1 _ P0 4 _)).trans (Only.set1 _ P0 5 _)
      have hb5 := hbd.trans (ho5.below hbd.size (fun k hk e => by have := H0.out.2.1; omega))
      rw [eW5]
      have z0 := hk5.cell 0
      have z1 := hk5.cell 1
      have z2 := hk5.cell 2
      have z3 := hk5.cell 3
      have z4 := hk5.cell 4
      have z5 := hk5.cell 5
      (try simp only [Exit.inBlock, Exit.then])
      refine bodyPost_ret (v := .tuple #[.agg #[.int .i64 0, .int .i64 0, .int .i64 0, .string ⟨#[]⟩, .slice none 0 0, .slice none 0 0], .bool false]) ?_ rfl ⟨?_, hb5⟩
      · rw [results_cell_tmp rfl]
        clear hb5 ho5
        go_simp
      · exact ⟨k2, H2.out.2.2.1, H2.out.2.2.2.1, H2.out.2.2.2.2, .inr ⟨by have := H2.out.2.2.1; omega, rfl⟩⟩
end Go.Proofs.YtecnjifincahaaaGreatDoor
