/- heap.Len, Get, Set; law08's Same. -/
import Derived.Test.YtecnjifincahaaaGreatDoorIzG
namespace Go.Proofs.YtecnjifincahaaaGreatDoor
open Go.Shelf Go.RowKit Go.Lib

set_option maxRecDepth 100000 in
theorem len_rec (w : World) (bh : Nat) (T : List DocT) (last : Int) (h : HRead w bh T last) : Calls Tryz.prog 22 #[.pointer (some ⟨bh, 0, none⟩)] w fun e w' => e = .returned (.int .i64 (T.length : Int)) ∧ w' = w := by
  obtain ⟨⟨a, cap, h1, h2⟩, h3, h4, h5⟩ := h
  have c0 := h1.cell 0
  obtain ⟨n, hn⟩ : ∃ n, T.length = n := ⟨_, rfl⟩
  rw [hn] at c0 ⊢
  clear h1 h2 h3 h4 h5 hn
  go_enter Tryz.func22, Tryz.ntmps22
  go_wp2
  go_ret
  exact ⟨rfl, rfl⟩
theorem find_at {T : List DocT} {g : Int} {k j : Nat} (hR : Rising T) (h : FindK T g k) (hj : j < T.length) (hg : T[j].id = g) : k = j ∧ foundB T g k = true := by
  obtain ⟨h1, h2, h3⟩ := h
  have hk : k = j := by
    rcases Nat.lt_trichotomy k j with h | h | h
    · have := hR k j (by omega) hj h
      have := h3 k (by omega) (Nat.le_refl _)
      omega
    · exact h
    · have := h2 j hj h
      omega
  refine ⟨hk, ?_⟩
  subst hk
  unfold foundB
  rw [List.getElem?_eq_getElem hj]
  simp [hg]
set_option maxHeartbeats 8000000 in
set_option maxRecDepth 100000 in
theorem get_rec (w : World) (bh : Nat) (T : List DocT) (last : Int) (h : HRead w bh T last) (j : Nat) (hj : j < T.length) : Calls Tryz.prog 23 #[.pointer (some ⟨bh, 0, none⟩), .int .i64 T[j].id] w fun e w' => e = .returned (.tuple #[.agg T[j].c.toArray, .bool true]) ∧ Below w.heap.size w w' := by
  obtain ⟨t, ht⟩ : ∃ t, T[j] = t := ⟨_, rfl⟩
  obtain ⟨g, hg⟩ : ∃ g, t.id = g := ⟨_, rfl⟩
  obtain ⟨q0, q1, q2, q3, q4, q5, q6, q7, q8, hq⟩ := h.five t (by rw [← ht]; exact List.getElem_mem hj)
  rw [ht, hg, hq]
  obtain ⟨W0, hW0⟩ : ∃ W, w.alloc (.cells #[.int .i64 0, .int .i64 0, .string ⟨#[]⟩, .slice none 0 0, .slice none 0 0] 40) = W := ⟨_, rfl⟩
  obtain ⟨P0, hP0⟩ : ∃ P, w.heap.size = P := ⟨_, rfl⟩
  have hb0 : Below w.heap.size w W0 := by rw [← hW0]; exact (Below.refl _ w).alloc (Nat.le_refl _) _
  have hk0 : Blk W0 P0 40 [.int .i64 0, .int .i64 0, .string ⟨#[]⟩, .slice none 0 0, .slice none 0 0] := by rw [← hW0, ← hP0]; exact heap_alloc_new w _
  have h0 := h.later hb0
  have hf : Calls Tryz.prog 49 #[.pointer (some ⟨bh, 0, none⟩), .int .i64 g] W0 fun e w' => e = .returned (.tuple #[.int .i64 (j : Int), .bool true]) ∧ Below W0.heap.size W0 w' := by
    refine (find_rec W0 bh T last g h0).mono ?_
    rintro e w' ⟨k, hk, rfl, hb⟩
    obtain ⟨rfl, h2⟩ := find_at h.rising hk hj (by rw [ht, hg])
    rw [h2]
    exact ⟨rfl, hb⟩
  obtain ⟨n, hn⟩ : ∃ n, T.length = n := ⟨_, rfl⟩
  have H0 := Lib.hid (And.intro hW0 (And.intro hP0 (And.intro hb0 (And.intro hk0 (And.intro h0 (And.intro hf hn))))))
  have HT := Lib.hid (And.intro ht (And.intro hg hq))
  clear hW0 hP0 hb0 hk0 h0 hf hn h ht hg hq
  go_enter Tryz.func23, Tryz.ntmps23
  go_wp2_with fail
  rw [H0.out.1, H0.out.2.1]
  refine (show Calls _ _ _ _ _ from H0.out.2.2.2.2.2.1).mono ?_
  rintro e w2 ⟨rfl, hb2⟩
  have hn := H0.out.2.2.2.2.2.2
  obtain ⟨a, cap, hk1, hD⟩ := (H0.out.2.2.2.2.1.later hb2).cells
  have H2 := Lib.hid (And.intro (H0.out.2.2.1.trans (hb2.mono H0.out.2.2.1.size)) (H0.out.2.2.2.1.below hb2))
  obtain ⟨a', cap', heq, hcap, hx⟩ := hD.shape
  injection heq with e1 e2 e3
  subst e1 e3
  obtain ⟨b, rfl, hbn, hcells⟩ := hx (by omega)
  have hc := hcells j hj
  rw [HT.out.1] at hc
  have f1 : w2.cell? ⟨b, j * 6 + 1, none⟩ = some (.int .i64 q0) := (hc.2 0 (by omega)).trans (by rw [HT.out.2.2]; rfl)
  have f2 : w2.cell? ⟨b, j * 6 + 1 + 1, none⟩ = some (.int .i64 q1) := (hc.2 1 (by omega)).trans (by rw [HT.out.2.2]; rfl)
  have f3 : w2.cell? ⟨b, j * 6 + 1 + 2, none⟩ = some (.string q2) := (hc.2 2 (by omega)).trans (by rw [HT.out.2.2]; rfl)
  have f4 : w2.cell? ⟨b, j * 6 + 1 + 3, none⟩ = some (.slice q3 q4 q5) := (hc.2 3 (by omega)).trans (by rw [HT.out.2.2]; rfl)
  have f5 : w2.cell? ⟨b, j * 6 + 1 + 4, none⟩ = some (.slice q6 q7 q8) := (hc.2 4 (by omega)).trans (by rw [HT.out.2.2]; rfl)
  rw [hn] at hk1 hcap
  have c0 := hk1.cell 0
  have s0 := H2.out.2.frozen 0
  have s1 := H2.out.2.frozen 1
  have s2 := H2.out.2.frozen 2
  have s3 := H2.out.2.frozen 3
  have s4 := H2.out.2.frozen 4
  have r0 := H2.out.2.cell 0
  have r1 := H2.out.2.cell 1
  have r2 := H2.out.2.cell 2
  have r3 := H2.out.2.cell 3
  have r4 := H2.out.2.cell 4
  have hjz : (j : Int) < (n : Int) := by omega
  have hjn : j < n := by omega
  clear hb2 hk1 hD hx hc hcells hbn
  go_wp2
  clear s0 s1 s2 s3 s4 r0 r1 r2 r3 r4 f1 f2 f3 f4 f5 c0
  obtain ⟨W5, eW5⟩ : ∃ W, (((((w2.setCell ⟨P0, 0, none⟩ (.int .i64 q0)).setCell ⟨P0, 1, none⟩ (.int .i64 q1)).setCell ⟨P0, 2, none⟩ (.string q2)).setCell ⟨P0, 3, none⟩ (.slice q3 q4 q5)).setCell ⟨P0, 4, none⟩ (.slice q6 q7 q8)) = W := ⟨_, rfl⟩
  obtain ⟨hk5, ho5⟩ := five_set H2.out.2 eW5
  have hb5 := H2.out.1.trans (ho5.below H2.out.1.size (fun k hk e => by have := H0.out.2.1; omega))
  rw [eW5]
  have z0 := hk5.cell 0
  have z1 := hk5.cell 1
  have z2 := hk5.cell 2
  have z3 := hk5.cell 3
  have z4 := hk5.cell 4
  (try simp only [Exit.inBlock, Exit.then])
  refine bodyPost_ret (v := .tuple #[.agg #[.int .i64 q0, .int .i64 q1, .string q2, .slice q3 q4 q5, .slice q6 q7 q8], .bool true]) ?_ rfl ⟨rfl, hb5⟩
  rw [results_cell_tmp rfl]
  clear hb5 ho5
  go_simp

set_option maxHeartbeats 8000000 in
set_option maxRecDepth 100000 in
theorem same_true (nb : Nat) (w : World) (v1 v2 : Value) (l : List Ent) (hl : l.length ≤ 1000000) (h1 : ERead nb w v1 l) (h2 : ERead nb w v2 l) (hnb : nb ≤ w.heap.size) : Calls Tryz.prog 26 #[v1, v2] w fun e w' => e = .returned (.bool true) ∧ Below w.heap.size w w' := by
  obtain ⟨a1, cap1, rfl, hc1, hx1⟩ := h1
  obtain ⟨a2, cap2, rfl, hc2, hx2⟩ := h2
  obtain ⟨n, hn⟩ : ∃ n, l.length = n := ⟨_, rfl⟩
  have HX := Lib.hid (And.intro hx1 (And.intro hx2 (And.intro hn hnb)))
  rw [hn] at hl hc1 hc2 ⊢
  clear hx1 hx2 hn hnb
  go_enter Tryz.func26, Tryz.ntmps26
  go_wp2_with fail
  go_loopg [13] n (fun gk iv wr => ∃ (i : Nat), gk + i = n ∧ iv = .int .i64 (i : Int) ∧ Below w.heap.size w wr)
  case atStart => exact ⟨0, by omega, rfl, Below.refl _ _⟩
  case round =>
    obtain ⟨i, hgi, rfl, hbw⟩ := hrel
    have HB := Lib.hid hbw
    clear hbw
    have hnn := HX.out.2.2.1
    by_cases hi : i < n
    · have hil : i < l.length := by omega
      have hiz : (i : Int) < (n : Int) := by omega
      have hwK : IntKind.i64.wrap ((i : Int) + 1) = (i : Int) + 1 := IntWalk.i64_in _ (by omega)
      obtain ⟨b1, o1, rfl, hb1, hx1⟩ := HX.out.1 (by omega)
      obtain ⟨b2, o2, rfl, hb2, hx2⟩ := HX.out.2.1 (by omega)
      have hbw2 := HB.out.mono HX.out.2.2.2
      have f0 := (World.cell?_of_block (a := ⟨b1, o1 + i * 2, none⟩) (hbw2.block b1 hb1)).trans (hx1 i hil).1
      have f1 := (World.cell?_of_block (a := ⟨b1, o1 + i * 2 + 1, none⟩) (hbw2.block b1 hb1)).trans (hx1 i hil).2
      have g0 := (World.cell?_of_block (a := ⟨b2, o2 + i * 2, none⟩) (hbw2.block b2 hb2)).trans (hx2 i hil).1
      have g1 := (World.cell?_of_block (a := ⟨b2, o2 + i * 2 + 1, none⟩) (hbw2.block b2 hb2)).trans (hx2 i hil).2
      obtain ⟨⟨xk, xi⟩, hxd⟩ : ∃ x, l[i] = x := ⟨_, rfl⟩
      rw [hxd] at f0 f1 g0 g1
      simp only at f0 f1 g0 g1
      clear hx1 hx2 hbw2 hxd hb1 hb2
      go_wp2
      go_quiet (fail)
      go_wp2
      go_roundg (gk - 1)
      case rel => exact ⟨i + 1, by omega, by first | rfl | (push_cast; rfl), HB.out.trans ((bel_drewN wr nq).mono HB.out.size)⟩
      case measure => omega
    · have hiz : ¬ (i : Int) < (n : Int) := by omega
      go_wp2
      go_ret
      exact ⟨rfl, HB.out⟩

theorem docsC_set : ∀ (T : List DocT) (j : Nat) (hj : j < T.length) (v : V) (q0 q1 : Int) (q2 : ByteArray) (q3 : Option Addr) (q4 q5 : Nat) (q6 : Option Addr) (q7 q8 : Nat), (∀ t ∈ T, t.c.length = 5) →
    (((((docsC T).set (j * 6 + 1) (.int .i64 q0)).set (j * 6 + 1 + 1) (.int .i64 q1)).set (j * 6 + 1 + 2) (.string q2)).set (j * 6 + 1 + 3) (.slice q3 q4 q5)).set (j * 6 + 1 + 4) (.slice q6 q7 q8) = docsC (T.set j (DocT.mk T[j].id v [.int .i64 q0, .int .i64 q1, .string q2, .slice q3 q4 q5, .slice q6 q7 q8]))
  | [], j, hj, _, _, _, _, _, _, _, _, _, _, _ => absurd hj (by simp)
  | t :: T, 0, _, v, q0, q1, q2, q3, q4, q5, q6, q7, q8, h => by
    have h5 := h t (List.mem_cons_self ..)
    match hc : t.c, h5 with
    | [c0, c1, c2, c3, c4], _ => simp [docsC, hc]
  | t :: T, j + 1, hj, v, q0, q1, q2, q3, q4, q5, q6, q7, q8, h => by
    have ih := docsC_set T j (by simpa using hj) v q0 q1 q2 q3 q4 q5 q6 q7 q8 (fun x hx => h x (List.mem_cons_of_mem _ hx))
    have h5 := h t (List.mem_cons_self ..)
    match hc : t.c, h5 with
    | [c0, c1, c2, c3, c4], _ =>
      have e : ∀ m, (j + 1) * 6 + 1 + m = (j * 6 + 1 + m) + 1 + 1 + 1 + 1 + 1 + 1 := fun m => by omega
      have e0 : (j + 1) * 6 + 1 = (j * 6 + 1) + 1 + 1 + 1 + 1 + 1 + 1 := by omega
      rw [e 1, e 2, e 3, e 4, e0]
      simp only [docsC, hc, List.cons_append, List.nil_append, List.set_cons_succ, List.getElem_cons_succ]
      rw [ih]
set_option maxHeartbeats 8000000 in
set_option maxRecDepth 100000 in
theorem set_any (w : World) (bh : Nat) (ob : Option Nat) (S : Nat → Prop) (T : List DocT) (last : Int) (j : Nat) (hj : j < T.length) (v : V) (c : List Value) (hH : HRep w bh ob S T last) (hR : Rising T) (hT : T.length ≤ 1000) (hv : VAt S w v c) :
    Calls Tryz.prog 25 #[.pointer (some ⟨bh, 0, none⟩), .int .i64 T[j].id, .agg c.toArray] w fun e w' => e = .returned (.bool true) ∧ HRep w' bh ob S (T.set j (DocT.mk T[j].id v c)) last ∧ Only (fun k => ob = some k) w w' := by
  obtain ⟨q0, q1, q2, q3, q4, q5, q6, q7, q8, rfl⟩ := hv.shape
  have hrd := hH.read hR hT
  obtain ⟨B, hB⟩ : ∃ B, w.heap.size = B := ⟨_, rfl⟩
  obtain ⟨W0, hW0⟩ : ∃ W, w.alloc (.cells #[.int .i64 q0, .int .i64 q1, .string q2, .slice q3 q4 q5, .slice q6 q7 q8] 40) = W := ⟨_, rfl⟩
  have hb0 : Below w.heap.size w W0 := by rw [← hW0]; exact (Below.refl _ w).alloc (Nat.le_refl _) _
  have hx0 : Blk W0 B 40 [.int .i64 q0, .int .i64 q1, .string q2, .slice q3 q4 q5, .slice q6 q7 q8] := by rw [← hW0, ← hB]; exact heap_alloc_new w _
  obtain ⟨g, hg⟩ : ∃ g, T[j].id = g := ⟨_, rfl⟩
  have hf : Calls Tryz.prog 49 #[.pointer (some ⟨bh, 0, none⟩), .int .i64 g] W0 fun e w' => e = .returned (.tuple #[.int .i64 (j : Int), .bool true]) ∧ Below W0.heap.size W0 w' := by
    refine (find_rec W0 bh T last g (hrd.later hb0)).mono ?_
    rintro e w' ⟨k, hk, rfl, hb⟩
    obtain ⟨rfl, h2⟩ := find_at hR hk hj hg
    rw [h2]
    exact ⟨rfl, hb⟩
  have H0 := Lib.hid (And.intro hW0 (And.intro hB (And.intro hb0 (And.intro hx0 (And.intro hf (And.intro hH (And.intro hv hg)))))))
  rw [hg]
  clear hW0 hB hb0 hx0 hf hH hv hg hrd hR
  go_enter Tryz.func25, Tryz.ntmps25
  go_wp2_with fail
  rw [H0.out.1, H0.out.2.1]
  refine (show Calls _ _ _ _ _ from H0.out.2.2.2.2.1).mono ?_
  rintro e w2 ⟨rfl, hb2⟩
  have hH2 := (H0.out.2.2.2.2.2.1.later H0.out.2.2.1).later hb2
  have hv2 := (H0.out.2.2.2.2.2.2.1.later H0.out.2.2.1).later hb2
  have hx2 := H0.out.2.2.2.1.below hb2
  have hbw2 := H0.out.2.2.1.trans (hb2.mono H0.out.2.2.1.size)
  obtain ⟨ov, hk, hob, hown, hvs, hS, hne⟩ := hH2
  rcases ownsRow_cases hown with ⟨_, h0, _⟩ | ⟨gb, cap, rfl⟩
  · omega
  obtain ⟨n, hn⟩ : ∃ n, T.length = n := ⟨_, rfl⟩
  have hcap : n ≤ cap := by
    rcases hown.2 with ⟨h1, _⟩ | ⟨g2, c2, cur, h1, _, _, h2, _⟩
    · cases h1
    · injection h1 with _ _ h3; rw [← hn, h3]; exact h2
  have hobg : ob = some gb := by rw [← hob]; rfl
  have hc5 : ∀ t ∈ T, t.c.length = 5 := fun t ht => vat_five (hvs t ht)
  have hgB : gb ≠ B := by have := hx2.lt; have h1 := H0.out.2.2.2.2.2.1.lt.2 gb hobg; have := H0.out.2.1; omega
  obtain ⟨w3, hw3⟩ : ∃ W, ((((((w2.setCell ⟨gb, j * 6 + 1, none⟩ (.int .i64 q0)).setCell ⟨gb, j * 6 + 1 + 1, none⟩ (.int .i64 q1)).setCell ⟨gb, j * 6 + 1 + 2, none⟩ (.string q2)).setCell ⟨gb, j * 6 + 1 + 3, none⟩ (.slice q3 q4 q5)).setCell ⟨gb, j * 6 + 1 + 4, none⟩ (.slice q6 q7 q8))).drew = W := ⟨_, rfl⟩
  have ho3 : Only (fun k => k = gb) w2 w3 := by rw [← hw3]; exact (((((Only.set1 _ gb _ _).trans (Only.set1 _ gb _ _)).trans (Only.set1 _ gb _ _)).trans (Only.set1 _ gb _ _)).trans (Only.set1 _ gb _ _)).trans (Only.drew _ _)
  have hown3 : w3.ownsRow 0 90 6 (.slice (some ⟨gb, 0, none⟩) T.length cap) T.length (docsC (T.set j (DocT.mk T[j].id v [.int .i64 q0, .int .i64 q1, .string q2, .slice q3 q4 q5, .slice q6 q7 q8]))) := by
    rw [← docsC_set T j hj v q0 q1 q2 q3 q4 q5 q6 q7 q8 hc5, ← hw3]
    exact (((((hown.stored _ _).1.stored _ _).1.stored _ _).1.stored _ _).1.stored _ _).1.drew
  have hfin : HRep w3 bh ob S (T.set j (DocT.mk T[j].id v [.int .i64 q0, .int .i64 q1, .string q2, .slice q3 q4 q5, .slice q6 q7 q8])) last := by
    refine ⟨_, hk.only ho3 (fun e => hne (by rw [hobg, e])), hob, by rw [List.length_set]; exact hown3, fun t ht => ?_, fun b hb => ⟨Nat.lt_of_lt_of_le (hS b hb).1 ho3.size, (hS b hb).2⟩, hne⟩
    have hkp : ∀ x y, VAt S w2 x y → VAt S w3 x y := fun x y hx => VAt.keep (fun b hb => hb) (fun b hb k u hu => ho3.cell (fun e => (hS b hb).2.2 (by rw [hobg, ← e])) hu) hx
    rcases List.mem_or_eq_of_mem_set ht with h | h
    · exact hkp _ _ (hvs t h)
    · rw [h]; exact hkp _ _ hv2
  have hall : Only (fun k => ob = some k) w w3 := (Only.ofBelow hbw2 _).trans (ho3.mono (fun k _ e => by rw [e]; exact hobg))
  have HF := Lib.hid (And.intro hw3 (And.intro hfin hall))
  have HS := Lib.hid (And.intro hk hx2)
  have f1 := hown.frozenAt (j * 6 + 1)
  have f2 := hown.frozenAt (j * 6 + 1 + 1)
  have f3 := hown.frozenAt (j * 6 + 1 + 2)
  have f4 := hown.frozenAt (j * 6 + 1 + 3)
  have f5 := hown.frozenAt (j * 6 + 1 + 4)
  have hat := docsC_at T hc5 j hj
  have h5 := hc5 _ (List.getElem_mem hj)
  have some5 : ∀ m, m < 5 → ∃ u, w2.cell? ⟨gb, j * 6 + 1 + m, none⟩ = some u := fun m hm => ⟨T[j].c[m]'(by omega), (hown.cellAt (j * 6 + 1 + m) (by omega)).trans ((hat.2 m hm).trans (List.getElem?_eq_getElem _))⟩
  obtain ⟨u1, g1⟩ := some5 0 (by omega)
  obtain ⟨u2, g2⟩ := some5 1 (by omega)
  obtain ⟨u3, g3⟩ := some5 2 (by omega)
  obtain ⟨u4, g4⟩ := some5 3 (by omega)
  obtain ⟨u5, g5⟩ := some5 4 (by omega)
  rw [Nat.add_zero] at g1
  rw [hn] at HS
  have hjn : j < n := by omega
  have hjz : (j : Int) < (n : Int) := by omega
  have HG := Lib.hid H0.out.2.2.2.2.2.2.2
  clear hk hob hown hvs hS hne hobg hc5 hgB hw3 ho3 hown3 hfin hall hat h5 some5 hv2 hx2 hbw2 hb2
  go_wp2_with fail
  refine AnyP.begin (J := fun j => Nat.ble j 7) (S := fun W => Blk W bh 97 [.slice (some ⟨gb, 0, none⟩) n cap, .int .i64 last] ∧ Blk W B 40 [.int .i64 q0, .int .i64 q1, .string q2, .slice q3 q4 q5, .slice q6 q7 q8]) (by kernel_rfl) rfl rfl ?_
  refine AnyP.takeP (i := 0) (v := .pointer (some ⟨bh, 0, none⟩)) rfl rfl (by kernel_rfl) (by kernel_rfl) (by kernel_rfl) (fun _ _ _ h => h) (by rfl) ?_ ?_
  · intro W
    go_simp
    try (with_reducible rfl)
  simp only [Act.put, List.setIfInBounds_toArray, List.set_cons_zero, List.set_cons_succ]
  refine AnyP.takeP (i := 1) (v := .pointer (some ⟨bh, 0, none⟩)) rfl rfl (by kernel_rfl) (by kernel_rfl) (by kernel_rfl) (fun _ _ _ h => h) (by rfl) ?_ ?_
  · intro W
    go_simp
    try (with_reducible rfl)
  simp only [Act.put, List.setIfInBounds_toArray, List.set_cons_zero, List.set_cons_succ]
  refine AnyP.takeP (i := 2) (v := .pointer (some ⟨bh, 0, none⟩)) rfl rfl (by kernel_rfl) (by kernel_rfl) (by kernel_rfl) (fun _ _ _ h => h) (by rfl) ?_ ?_
  · intro W
    go_simp
    try (with_reducible rfl)
  simp only [Act.put, List.setIfInBounds_toArray, List.set_cons_zero, List.set_cons_succ]
  refine AnyP.takeP (i := 4) (v := .int .i64 (j : Int)) rfl rfl (by kernel_rfl) (by kernel_rfl) (by kernel_rfl) (fun _ _ _ h => h) (by rfl) ?_ ?_
  · intro W
    go_simp
    try (with_reducible rfl)
  simp only [Act.put, List.setIfInBounds_toArray, List.set_cons_zero, List.set_cons_succ]
  refine AnyP.takeT [3] (by rfl) (i := 5) (v := .agg #[.int .i64 q0, .int .i64 q1, .string q2, .slice q3 q4 q5, .slice q6 q7 q8]) rfl rfl (by kernel_rfl) (by kernel_rfl) (by kernel_rfl) (by kernel_rfl) (fun _ _ _ h => h) (by rfl) ?_ ⟨HS.out.1.drew, HS.out.2.drew⟩ ?_
  · intro W hW
    have n0 := hW.1.cell 0
    have m0 := hW.2.cell 0
    have m1 := hW.2.cell 1
    have m2 := hW.2.cell 2
    have m3 := hW.2.cell 3
    have m4 := hW.2.cell 4
    go_simp
    try (with_reducible rfl)
  simp only [Act.put, List.setIfInBounds_toArray, List.set_cons_zero, List.set_cons_succ]
  refine AnyP.takeT [] (by rfl) (i := 3) (v := .slice (some ⟨gb, 0, none⟩) n cap) rfl rfl (by kernel_rfl) (by kernel_rfl) (by kernel_rfl) (by kernel_rfl) (fun _ _ _ h => h) (by rfl) ?_ ⟨HS.out.1.drew, HS.out.2.drew⟩ ?_
  · intro W hW
    have n0 := hW.1.cell 0
    have m0 := hW.2.cell 0
    have m1 := hW.2.cell 1
    have m2 := hW.2.cell 2
    have m3 := hW.2.cell 3
    have m4 := hW.2.cell 4
    go_simp
    try (with_reducible rfl)
  simp only [Act.put, List.setIfInBounds_toArray, List.set_cons_zero, List.set_cons_succ]
  refine AnyP.takeP (i := 6) (v := .pointer (some ⟨gb, j * 6, none⟩)) rfl rfl (by kernel_rfl) (by kernel_rfl) (by kernel_rfl) (fun _ _ _ h => h) (by rfl) ?_ ?_
  · intro W
    go_simp
    try (with_reducible rfl)
  simp only [Act.put, List.setIfInBounds_toArray, List.set_cons_zero, List.set_cons_succ]
  refine AnyP.takeP (i := 7) (v := .pointer (some ⟨gb, j * 6 + 1, none⟩)) rfl rfl (by kernel_rfl) (by kernel_rfl) (by kernel_rfl) (fun _ _ _ h => h) (by rfl) ?_ ?_
  · intro W
    go_simp
    try (with_reducible rfl)
  simp only [Act.put, List.setIfInBounds_toArray, List.set_cons_zero, List.set_cons_succ]
  refine AnyP.oneL (i := 8) (by kernel_rfl) rfl (fun K hK => ?_)
  go_simp
  refine hK.out _ _ (fun h => by cases h) ?_
  clear hK K
  (try simp only [Act.put, List.setIfInBounds_toArray, List.set_cons_zero, List.set_cons_succ])
  refine AnyP.done (by kernel_rfl) ?_
  rw [HF.out.1]
  clear f1 f2 f3 f4 f5 g1 g2 g3 g4 g5
  go_wp2
  go_ret
  rw [← HG.out]
  exact ⟨rfl, HF.out.2.1, HF.out.2.2⟩
end Go.Proofs.YtecnjifincahaaaGreatDoor
