/- Records by their numbers: heap.New, Insert. -/
import Derived.Test.YtecnjifincahaaaGreatDoorIyD
import Derived.Test.YtecnjifincahaaaGreatDoorIMap
import Derived.Test.YtecnjifincahaaaGreatDoorIJp
namespace Go.Proofs.YtecnjifincahaaaGreatDoor
open Go.Shelf Go.RowKit Go.Lib

/-- a record: its number, its value, the value's cells. -/
structure DocT where
  id : Int
  v : V
  c : List Value
def docsC : List DocT → List Value
  | [] => []
  | t :: l => (.int .i64 t.id :: t.c) ++ docsC l
theorem docsC_append : ∀ (l m : List DocT), docsC (l ++ m) = docsC l ++ docsC m
  | [], _ => rfl
  | e :: l, m => by rw [List.cons_append, docsC, docsC, docsC_append l m, List.append_assoc]
/-- block bh is a heap of the records T; ob: the block of their row. -/
def HRep (w : World) (bh : Nat) (ob : Option Nat) (S : Nat → Prop) (T : List DocT) (last : Int) : Prop :=
  ∃ ov, Blk w bh 97 [ov, .int .i64 last] ∧ ov.ownBlock = ob ∧ w.ownsRow 0 90 6 ov T.length (docsC T) ∧ (∀ t ∈ T, VAt S w t.v t.c) ∧ (∀ b, S b → b < w.heap.size ∧ b ≠ bh ∧ ob ≠ some b) ∧ ob ≠ some bh
theorem own_only {w w2 : World} {R : Nat → Prop} {B : Nat} {e : TypeId} {k : Nat} {v : Value} {n : Nat} {xs : List Value} (h : w.ownsRow B e k v n xs) (ho : Only R w w2) (hr : ∀ b, v.ownBlock = some b → ¬ R b) : w2.ownsRow B e k v n xs := by
  rcases h.2 with h1 | ⟨g, c, cur, h1, h2, h3, h4, h5, h6⟩
  · exact ⟨h.1, .inl h1⟩
  · exact ⟨h.1, .inr ⟨g, c, cur, h1, h2, (ho.block g (Array.getElem?_eq_some_iff.1 h3).1 (hr g (by rw [h1]; rfl))).trans h3, h4, h5, h6⟩⟩
theorem HRep.keep {w w2 : World} {bh : Nat} {ob : Option Nat} {S R : Nat → Prop} {T : List DocT} {last : Int} (h : HRep w bh ob S T last) (ho : Only R w w2) (h1 : ¬ R bh) (h2 : ∀ k, ob = some k → ¬ R k) (h3 : ∀ b, S b → ¬ R b) : HRep w2 bh ob S T last := by
  obtain ⟨ov, hk, ho1, hown, hv, hS, hne⟩ := h
  refine ⟨ov, hk.only ho h1, ho1, own_only hown ho (fun b hb => h2 b (ho1.symm.trans hb)), fun t ht => ?_, fun b hb => ?_, hne⟩
  · exact VAt.keep (fun b hb => hb) (fun b hb k u hu => ho.cell (h3 b hb) hu) (hv t ht)
  · exact ⟨Nat.lt_of_lt_of_le (hS b hb).1 ho.size, (hS b hb).2⟩
theorem HRep.later {w w2 : World} {bh : Nat} {ob : Option Nat} {S : Nat → Prop} {T : List DocT} {last : Int} (h : HRep w bh ob S T last) (hb : Below w.heap.size w w2) : HRep w2 bh ob S T last := h.keep (Only.ofBelow hb (fun _ => False)) (fun h => h) (fun _ _ h => h) (fun _ _ h => h)
theorem HRep.widen {w : World} {bh : Nat} {ob : Option Nat} {S S2 : Nat → Prop} {T : List DocT} {last : Int} (h : HRep w bh ob S T last) (h1 : ∀ b, S b → S2 b) (h2 : ∀ b, S2 b → b < w.heap.size ∧ b ≠ bh ∧ ob ≠ some b) : HRep w bh ob S2 T last := by
  obtain ⟨ov, hk, ho1, hown, hv, _, hne⟩ := h
  refine ⟨ov, hk, ho1, hown, fun t ht => ?_, h2, hne⟩
  exact VAt.keep h1 (fun b hb k u hu => hu) (hv t ht)
theorem HRep.lt {w : World} {bh : Nat} {ob : Option Nat} {S : Nat → Prop} {T : List DocT} {last : Int} (h : HRep w bh ob S T last) : bh < w.heap.size ∧ ∀ k, ob = some k → k < w.heap.size := by
  obtain ⟨ov, hk, ho1, hown, _, _, _⟩ := h
  exact ⟨hk.lt, fun k hk => (hown.lt k (ho1.trans hk)).2⟩
theorem infoDoc : (Tryz.prog.info? 90).map (fun i => (i.zero, i.size, i.bytes)) = some (some (.agg #[.int .i64 0, .int .i64 0, .int .i64 0, .string ⟨#[]⟩, .slice none 0 0, .slice none 0 0]), 6, 88) := by kernel_rfl
theorem doc_append {base : Nat} {w : World} {v : Value} {l : List DocT} (h : w.ownsRow base 90 6 v l.length (docsC l)) (id : Int) (x : V) (q0 q1 : Int) (q2 : ByteArray) (q3 : Option Addr) (q4 q5 : Nat) (q6 : Option Addr) (q7 q8 : Nat) (hl : l.length ≤ 1000000) (hb : base ≤ w.heap.size) :
    ∃ v' w', (∀ ty, (Builtin.append_ #[95, 95] ty #[v, .slice (some ⟨w.heap.size, 0, none⟩) 1 1]).run Tryz.prog (w.alloc (.cells #[.int .i64 id, .int .i64 q0, .int .i64 q1, .string q2, .slice q3 q4 q5, .slice q6 q7 q8] 90)) = .ok v' w') ∧ w'.ownsRow base 90 6 v' (l ++ [DocT.mk id x [.int .i64 q0, .int .i64 q1, .string q2, .slice q3 q4 q5, .slice q6 q7 q8]]).length (docsC (l ++ [DocT.mk id x [.int .i64 q0, .int .i64 q1, .string q2, .slice q3 q4 q5, .slice q6 q7 q8]])) ∧
      Only (fun k => v.ownBlock = some k) w w' ∧ (v'.ownBlock = v.ownBlock ∨ v'.ownBlock = some (w.heap.size + 1)) := by
  obtain ⟨inf, hi, hii⟩ := Option.map_eq_some_iff.1 infoDoc
  simp only [Prod.mk.injEq] at hii
  obtain ⟨i1, i2, i3⟩ := hii
  have hnew : Blk (w.alloc (.cells #[.int .i64 id, .int .i64 q0, .int .i64 q1, .string q2, .slice q3 q4 q5, .slice q6 q7 q8] 90)) w.heap.size 90 [.int .i64 id, .int .i64 q0, .int .i64 q1, .string q2, .slice q3 q4 q5, .slice q6 q7 q8] := heap_alloc_new w _
  have key := fun ty => run_append_own_at (P := Tryz.prog) (w.alloc (.cells #[.int .i64 id, .int .i64 q0, .int .i64 q1, .string q2, .slice q3 q4 q5, .slice q6 q7 q8] 90)) base 95 ty 90 inf _ 6 88 Tryz.underlying95 hi i1 i2 i3 rfl (by decide) v l.length (docsC l) (h.alloc _)
    ⟨w.heap.size, 0, none⟩ 1 1 [.int .i64 id, .int .i64 q0, .int .i64 q1, .string q2, .slice q3 q4 q5, .slice q6 q7 q8] (by simp) (fun j u hu => by
      rw [show ((⟨w.heap.size, 0, none⟩ : Addr).add j) = ⟨w.heap.size, j, none⟩ by rw [add_at], hnew.cell j]
      exact hu) (by
      intro u hu
      simp at hu
      rcases hu with rfl | rfl | rfl | rfl | rfl | rfl <;> rfl) (by unfold maxLen; omega) (by omega) (by simp; omega)
  obtain ⟨v', w', hr, ho, hg, _, hat⟩ := key 0
  refine ⟨v', w', fun ty => hr, ?_, (Only.alloc _ w _).trans (Only.ofGrown hg (fun k hk => hk)), ?_⟩
  · rw [List.length_append, docsC_append]
    simpa [docsC] using ho
  · simpa using hat

set_option maxRecDepth 100000 in
theorem new_any (w : World) : Calls Tryz.prog 27 #[] w fun e w' => e = .returned (.pointer (some ⟨w.heap.size, 0, none⟩)) ∧ HRep w' w.heap.size none (fun _ => False) [] 0 ∧ Below w.heap.size w w' ∧ w'.heap.size = w.heap.size + 1 := by
  have h : HRep (w.alloc (.cells #[.slice none 0 0, .int .i64 0] 97)) w.heap.size none (fun _ => False) [] 0 := ⟨.slice none 0 0, heap_alloc_new w _, rfl, World.ownsRow_nil _ _ _ _, fun t ht => absurd ht (by simp), fun _ h => h.elim, by simp⟩
  have hb : Below w.heap.size w (w.alloc (.cells #[.slice none 0 0, .int .i64 0] 97)) := (Below.refl _ w).alloc (Nat.le_refl _) _
  have HR := Lib.hid (And.intro h (And.intro hb (show (w.alloc (.cells #[.slice none 0 0, .int .i64 0] 97)).heap.size = w.heap.size + 1 by simp)))
  clear h hb
  go_enter Tryz.func27, Tryz.ntmps27
  go_wp2
  go_ret
  exact ⟨rfl, HR.out.1, HR.out.2.1, HR.out.2.2⟩

set_option maxHeartbeats 8000000 in
set_option maxRecDepth 100000 in
theorem insert_any (w : World) (bh : Nat) (ob : Option Nat) (S : Nat → Prop) (T : List DocT) (last : Int) (v : V) (c : List Value) (hH : HRep w bh ob S T last) (hv : VAt S w v c) (hT : T.length ≤ 400) (hl : 0 ≤ last ∧ last ≤ 1000000) :
    Calls Tryz.prog 45 #[.pointer (some ⟨bh, 0, none⟩), .agg c.toArray] w fun e w' => e = .returned (.tuple #[.int .i64 (last + 1), .bool true]) ∧ ∃ ob', HRep w' bh ob' S (T ++ [DocT.mk (last + 1) v c]) (last + 1) ∧ (ob' = ob ∨ ∃ k, ob' = some k ∧ w.heap.size ≤ k) ∧ Only (fun k => k = bh ∨ ob = some k) w w' := by
  obtain ⟨q0, q1, q2, q3, q4, q5, q6, q7, q8, rfl⟩ := hv.shape
  obtain ⟨ov, hk, hob, hown, hvs, hS, hne⟩ := hH
  obtain ⟨op, oc, rfl⟩ := slice_of_own hown
  obtain ⟨B, hB⟩ : ∃ B, w.heap.size = B := ⟨_, rfl⟩
  obtain ⟨W0, hW0⟩ : ∃ W, w.alloc (.cells #[.int .i64 q0, .int .i64 q1, .string q2, .slice q3 q4 q5, .slice q6 q7 q8] 40) = W := ⟨_, rfl⟩
  have hbB : bh < B := by rw [← hB]; exact hk.lt
  have hk0 : Blk W0 bh 97 [.slice op T.length oc, .int .i64 last] := by rw [← hW0]; exact hk.alloc _
  have hx0 : Blk W0 B 40 [.int .i64 q0, .int .i64 q1, .string q2, .slice q3 q4 q5, .slice q6 q7 q8] := by rw [← hW0, ← hB]; exact heap_alloc_new w _
  have hsz0 : W0.heap.size = B + 1 := by rw [← hW0, ← hB]; simp
  have ho0 : Only (fun k => k = bh ∨ ob = some k) w W0 := by rw [← hW0]; exact Only.alloc _ w _
  obtain ⟨W1, hW1⟩ : ∃ W, W0.setCell ⟨bh, 1, none⟩ (.int .i64 (last + 1)) = W := ⟨_, rfl⟩
  have hk1 : Blk W1 bh 97 [.slice op T.length oc, .int .i64 (last + 1)] := by rw [← hW1]; exact hk0.set 1 _
  have ho1 : Only (fun k => k = bh) W0 W1 := by rw [← hW1]; exact Only.set1 _ bh 1 _
  have hx1 : Blk W1 B 40 [.int .i64 q0, .int .i64 q1, .string q2, .slice q3 q4 q5, .slice q6 q7 q8] := hx0.only ho1 (fun h => by omega)
  have hnb : (Value.slice op T.length oc).ownBlock ≠ some bh := by rw [hob]; exact hne
  have hown1 : W1.ownsRow 0 90 6 (.slice op T.length oc) T.length (docsC T) := own_only (by rw [← hW0]; exact hown.alloc _) ho1 (fun b hb h => hnb (by rw [hb, h]))
  have hsz1 : W1.heap.size = B + 1 := by rw [← hW1]; simpa using hsz0
  obtain ⟨v2, w2, hrun, ho2, hon, hat⟩ := doc_append hown1.drew (last + 1) v q0 q1 q2 q3 q4 q5 q6 q7 q8 (by omega) (Nat.zero_le _)
  obtain ⟨vp, vc, rfl⟩ := slice_of_own ho2
  have hk2 : Blk w2 bh 97 [.slice op T.length oc, .int .i64 (last + 1)] := hk1.drew.only hon (fun h => hnb h)
  obtain ⟨W3, hW3⟩ : ∃ W, w2.setCell ⟨bh, 0, none⟩ (.slice vp (T ++ [DocT.mk (last + 1) v [.int .i64 q0, .int .i64 q1, .string q2, .slice q3 q4 q5, .slice q6 q7 q8]]).length vc) = W := ⟨_, rfl⟩
  have hk3 : Blk W3 bh 97 [.slice vp (T ++ [DocT.mk (last + 1) v [.int .i64 q0, .int .i64 q1, .string q2, .slice q3 q4 q5, .slice q6 q7 q8]]).length vc, .int .i64 (last + 1)] := by rw [← hW3]; exact hk2.set 0 _
  have ho3 : Only (fun k => k = bh) w2 W3 := by rw [← hW3]; exact Only.set1 _ bh 0 _
  have hnv : ∀ k, (Value.slice vp (T ++ [DocT.mk (last + 1) v [.int .i64 q0, .int .i64 q1, .string q2, .slice q3 q4 q5, .slice q6 q7 q8]]).length vc).ownBlock = some k → ob = some k ∨ B ≤ k := fun k hk => by
    rcases hat with h | h
    · rw [← hob]; exact .inl (h.symm.trans hk)
    · have := Option.some.inj (hk.symm.trans h)
      rw [show W1.drew.heap.size = W1.heap.size from rfl, hsz1] at this
      exact .inr (by omega)
  have hon' : Only (fun k => k = bh ∨ ob = some k) W1.drew w2 := hon.mono (fun k _ h => .inr (hob ▸ h))
  have hall : Only (fun k => k = bh ∨ ob = some k) w W3 := (((ho0.trans (ho1.mono (fun k _ h => .inl h))).trans (Only.drew _ _)).trans hon').trans (ho3.mono (fun k _ h => .inl h))
  have hfin : HRep W3 bh (Value.slice vp (T ++ [DocT.mk (last + 1) v [.int .i64 q0, .int .i64 q1, .string q2, .slice q3 q4 q5, .slice q6 q7 q8]]).length vc).ownBlock S (T ++ [DocT.mk (last + 1) v [.int .i64 q0, .int .i64 q1, .string q2, .slice q3 q4 q5, .slice q6 q7 q8]]) (last + 1) := by
    refine ⟨_, hk3, rfl, own_only ho2 ho3 (fun b hb h => ?_), fun t ht => ?_, fun b hb => ⟨Nat.lt_of_lt_of_le (hS b hb).1 hall.size, (hS b hb).2.1, fun h => ?_⟩, fun h => ?_⟩
    · rcases hnv b hb with h2 | h2
      · rw [h] at h2; exact hne h2
      · omega
    · have hk : ∀ x y, VAt S w x y → VAt S W3 x y := fun x y hx => VAt.keep (fun b hb => hb) (fun b hb k u hu => hall.cell (fun h => h.elim (fun h => (hS b hb).2.1 h) (fun h => (hS b hb).2.2 h)) hu) hx
      rcases List.mem_append.1 ht with h | h
      · exact hk _ _ (hvs t h)
      · rw [List.mem_singleton] at h; rw [h]; exact hk _ _ hv
    · rcases hnv b h with h2 | h2
      · exact (hS b hb).2.2 h2
      · have := (hS b hb).1; omega
    · rcases hnv bh h with h2 | h2
      · exact hne h2
      · omega
  have hob' : (Value.slice vp (T ++ [DocT.mk (last + 1) v [.int .i64 q0, .int .i64 q1, .string q2, .slice q3 q4 q5, .slice q6 q7 q8]]).length vc).ownBlock = ob ∨ ∃ k, (Value.slice vp (T ++ [DocT.mk (last + 1) v [.int .i64 q0, .int .i64 q1, .string q2, .slice q3 q4 q5, .slice q6 q7 q8]]).length vc).ownBlock = some k ∧ w.heap.size ≤ k := by
    rcases hat with h | h
    · exact .inl (by rw [← hob]; exact h)
    · refine .inr ⟨_, h, ?_⟩
      rw [show W1.drew.heap.size = W1.heap.size from rfl, hsz1, hB]; omega
  have H0 := Lib.hid (And.intro hW0 (And.intro hB (And.intro hW1 (And.intro hW3 (And.intro hrun (And.intro hfin (And.intro hall hob')))))))
  have HS := Lib.hid (And.intro hk1 hx1)
  have HK := Lib.hid hk2
  obtain ⟨n, hn⟩ : ∃ n, T.length = n := ⟨_, rfl⟩
  obtain ⟨n1, hn1⟩ : ∃ n, (T ++ [DocT.mk (last + 1) v [.int .i64 q0, .int .i64 q1, .string q2, .slice q3 q4 q5, .slice q6 q7 q8]]).length = n := ⟨_, rfl⟩
  rw [hn1, hn] at H0
  rw [hn] at HS HK hT
  have g0 := hk0.cell 0
  have g1 := hk0.cell 1
  have g2 := hk0.frozen 1
  rw [hn] at g0
  have hwl : IntKind.i64.wrap (last + 1) = last + 1 := IntWalk.i64_in _ (by omega)
  have hT5 : ¬ (500 : Int) ≤ (n : Int) := by omega
  rw [← hW0] at g0 g1 g2
  clear hW0 hB hW1 hW3 hrun hfin hall hob' hk hob hown hvs hS hne hbB hk0 hx0 hsz0 ho0 hk1 ho1 hx1 hnb hown1 hsz1 ho2 hon hat hk2 hk3 ho3 hnv hon' hv hn hn1
  go_enter Tryz.func45, Tryz.ntmps45
  go_wp2_with fail
  rw [H0.out.1, H0.out.2.1, H0.out.2.2.1]
  refine AnyP.begin (J := fun j => Nat.ble j 11) (S := fun W => Blk W bh 97 [.slice op n oc, .int .i64 (last + 1)] ∧ Blk W B 40 [.int .i64 q0, .int .i64 q1, .string q2, .slice q3 q4 q5, .slice q6 q7 q8]) (by kernel_rfl) rfl rfl ?_
  refine AnyP.takeP (i := 0) (v := .pointer (some ⟨bh, 0, none⟩)) rfl rfl (by kernel_rfl) (by kernel_rfl) (by kernel_rfl) (fun _ _ _ h => h) (by rfl) ?_ ?_
  · intro W
    go_simp
    try (with_reducible rfl)
  simp only [Act.put, List.setIfInBounds_toArray, List.set_cons_zero, List.set_cons_succ]
  refine AnyP.takeP (i := 1) (v := .pointer (some ⟨bh, 0, none⟩)) rfl rfl (by kernel_rfl) (by kernel_rfl) (by kernel_rfl) (fun _ _ _ h => h) (by rfl) ?_ ?_
  · intro W
    go_simp
    try (with_reducible rfl)
  simp only [Act.put, List.setIfInBounds_toArray, List.set_cons_zero, List.set_cons_succ]
  refine AnyP.takeP (i := 2) (v := .pointer (some ⟨bh, 0, none⟩)) rfl rfl (by kernel_rfl) (by kernel_rfl) (by kernel_rfl) (fun _ _ _ h => h) (by rfl) ?_ ?_
  · intro W
    go_simp
    try (with_reducible rfl)
  simp only [Act.put, List.setIfInBounds_toArray, List.set_cons_zero, List.set_cons_succ]
  refine AnyP.takeP (i := 3) (v := .pointer (some ⟨bh, 0, none⟩)) rfl rfl (by kernel_rfl) (by kernel_rfl) (by kernel_rfl) (fun _ _ _ h => h) (by rfl) ?_ ?_
  · intro W
    go_simp
    try (with_reducible rfl)
  simp only [Act.put, List.setIfInBounds_toArray, List.set_cons_zero, List.set_cons_succ]
  refine AnyP.takeP (i := 5) (v := .pointer (some ⟨bh, 0, none⟩)) rfl rfl (by kernel_rfl) (by kernel_rfl) (by kernel_rfl) (fun _ _ _ h => h) (by rfl) ?_ ?_
  · intro W
    go_simp
    try (with_reducible rfl)
  simp only [Act.put, List.setIfInBounds_toArray, List.set_cons_zero, List.set_cons_succ]
  refine AnyP.takeP (i := 6) (v := .pointer (some ⟨bh, 0, none⟩)) rfl rfl (by kernel_rfl) (by kernel_rfl) (by kernel_rfl) (fun _ _ _ h => h) (by rfl) ?_ ?_
  · intro W
    go_simp
    try (with_reducible rfl)
  simp only [Act.put, List.setIfInBounds_toArray, List.set_cons_zero, List.set_cons_succ]
  refine AnyP.takeP (i := 7) (v := .pointer (some ⟨bh, 1, none⟩)) rfl rfl (by kernel_rfl) (by kernel_rfl) (by kernel_rfl) (fun _ _ _ h => h) (by rfl) ?_ ?_
  · intro W
    go_simp
    try (with_reducible rfl)
  simp only [Act.put, List.setIfInBounds_toArray, List.set_cons_zero, List.set_cons_succ]
  refine AnyP.takeT [4, 9] (by rfl) (i := 8) (v := .int .i64 (last + 1)) rfl rfl (by kernel_rfl) (by kernel_rfl) (by kernel_rfl) (by kernel_rfl) (fun _ _ _ h => h) (by rfl) ?_ ⟨HS.out.1.drew, HS.out.2.drew⟩ ?_
  · intro W hW
    have n0 := hW.1.cell 0
    have n1 := hW.1.cell 1
    have m0 := hW.2.cell 0
    have m1 := hW.2.cell 1
    have m2 := hW.2.cell 2
    have m3 := hW.2.cell 3
    have m4 := hW.2.cell 4
    go_simp
    try (with_reducible rfl)
  simp only [Act.put, List.setIfInBounds_toArray, List.set_cons_zero, List.set_cons_succ]
  refine AnyP.takeT [4] (by rfl) (i := 9) (v := .agg #[.int .i64 q0, .int .i64 q1, .string q2, .slice q3 q4 q5, .slice q6 q7 q8]) rfl rfl (by kernel_rfl) (by kernel_rfl) (by kernel_rfl) (by kernel_rfl) (fun _ _ _ h => h) (by rfl) ?_ ⟨HS.out.1.drew, HS.out.2.drew⟩ ?_
  · intro W hW
    have n0 := hW.1.cell 0
    have n1 := hW.1.cell 1
    have m0 := hW.2.cell 0
    have m1 := hW.2.cell 1
    have m2 := hW.2.cell 2
    have m3 := hW.2.cell 3
    have m4 := hW.2.cell 4
    go_simp
    try (with_reducible rfl)
  simp only [Act.put, List.setIfInBounds_toArray, List.set_cons_zero, List.set_cons_succ]
  refine AnyP.takeT [10, 11] (by rfl) (i := 4) (v := .slice op n oc) rfl rfl (by kernel_rfl) (by kernel_rfl) (by kernel_rfl) (by kernel_rfl) (fun _ _ _ h => h) (by rfl) ?_ ⟨HS.out.1.drew, HS.out.2.drew⟩ ?_
  · intro W hW
    have n0 := hW.1.cell 0
    have n1 := hW.1.cell 1
    have m0 := hW.2.cell 0
    have m1 := hW.2.cell 1
    have m2 := hW.2.cell 2
    have m3 := hW.2.cell 3
    have m4 := hW.2.cell 4
    go_simp
    try (with_reducible rfl)
  simp only [Act.put, List.setIfInBounds_toArray, List.set_cons_zero, List.set_cons_succ]
  refine AnyP.takeP (i := 10) (v := .agg #[.int .i64 (last + 1), .int .i64 q0, .int .i64 q1, .string q2, .slice q3 q4 q5, .slice q6 q7 q8]) rfl rfl (by kernel_rfl) (by kernel_rfl) (by kernel_rfl) (fun _ _ _ h => h) (by rfl) ?_ ?_
  · intro W
    go_simp
    try (with_reducible rfl)
  simp only [Act.put, List.setIfInBounds_toArray, List.set_cons_zero, List.set_cons_succ]
  refine AnyP.oneL (i := 11) (by kernel_rfl) rfl (fun K hK => ?_)
  go_simp
  refine hK.out _ _ (fun _ h => ⟨h.1.alloc _, h.2.alloc _⟩) ?_
  clear hK K
  (try simp only [Act.put, List.setIfInBounds_toArray, List.set_cons_zero, List.set_cons_succ])
  refine AnyP.oneL (i := 12) (by kernel_rfl) rfl (fun K hK => ?_)
  refine step_append_run rfl (.tmp 23) (.tmp 30) 95 rfl (.slice op n oc) (.slice (some ⟨W1.heap.size, 0, none⟩) 1 1) rfl rfl (.slice vp n1 vc) w2 H0.out.2.2.2.2.1 ?_
  refine hK.out _ _ (fun h => by cases h) ?_
  clear hK K
  (try simp only [Act.put, List.setIfInBounds_toArray, List.set_cons_zero, List.set_cons_succ])
  refine AnyP.takeP (i := 13) (v := .pointer (some ⟨bh, 0, none⟩)) rfl rfl (by kernel_rfl) (by kernel_rfl) (by kernel_rfl) (fun _ _ _ h => h) (by rfl) ?_ ?_
  · intro W
    go_simp
    try (with_reducible rfl)
  simp only [Act.put, List.setIfInBounds_toArray, List.set_cons_zero, List.set_cons_succ]
  refine AnyP.takeP (i := 14) (v := .pointer (some ⟨bh, 0, none⟩)) rfl rfl (by kernel_rfl) (by kernel_rfl) (by kernel_rfl) (fun _ _ _ h => h) (by rfl) ?_ ?_
  · intro W
    go_simp
    try (with_reducible rfl)
  simp only [Act.put, List.setIfInBounds_toArray, List.set_cons_zero, List.set_cons_succ]
  have n0 := HK.out.cell 0
  have n1' := HK.out.cell 1
  have n2 := HK.out.frozen 0
  refine AnyP.oneL (i := 15) (by kernel_rfl) rfl (fun K hK => ?_)
  go_simp
  refine hK.out _ _ (fun h => by cases h) ?_
  clear hK K
  (try simp only [Act.put, List.setIfInBounds_toArray, List.set_cons_zero, List.set_cons_succ])
  refine AnyP.done (by kernel_rfl) ?_
  clear g0 g1 g2
  go_wp2
  rw [H0.out.2.2.2.1]
  go_ret2
  exact ⟨rfl, _, H0.out.2.2.2.2.2.1, H0.out.2.2.2.2.2.2.2, H0.out.2.2.2.2.2.2.1⟩
end Go.Proofs.YtecnjifincahaaaGreatDoor
