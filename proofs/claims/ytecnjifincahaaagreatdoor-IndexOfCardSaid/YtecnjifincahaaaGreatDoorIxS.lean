/- The law's Doc: the document of bytes. -/
import Derived.Test.YtecnjifincahaaaGreatDoorIxR
import Derived.Laws.OwnMore
namespace Go.Proofs.YtecnjifincahaaaGreatDoor
open Go.Shelf Go.RowKit Go.Lib

theorem wpList_append_run {P : Program} {ops : Array Oper} {rest : List Oper} {o : Oper} {a : Act} {w : World} {Q : Exit → Act → World → Prop}
    (hg : o.guard = none) (s x : Operand) (t : TypeId) (hop : o.op = Op.call { callee := Callee.builtin Builtin.append, args := #[s, x], argTypes := #[t, t] })
    (v u : Value) (hs : a.eval s = v) (hx : a.eval x = u) (v2 : Value) (w2 : World) (hrun : ∀ ty, (Builtin.append_ #[t, t] ty #[v, u]).run P w = .ok v2 w2)
    (hK : wpList P ops Q rest (a.put o.dst v2) w2) : wpList P ops Q (o :: rest) a w := by
  refine wpList_plain hg fun K hK' => ?_
  unfold Oper.wp
  simp [execOp, hop, resolve, invoke, builtin, hs, hx, hrun, Result.andThen]
  exact hK' _ _ hK
def u8s (l : BL) : List Value := l.map fun b => Value.int .u8 b.toNat
theorem u8s_one {l : BL} : ∀ u ∈ u8s l, u.oneCell' = true := by
  intro u hu
  obtain ⟨x, _, rfl⟩ := List.mem_map.1 hu
  rfl
theorem infoU8 : (Tryz.prog.info? 5).map (fun i => (i.zero, i.size, i.bytes)) = some (some (.int .u8 0), 1, 1) := by kernel_rfl
theorem run_append_zero {b1 : Nat} {w : World} {v1 : Value} {n : Nat} {xs : List Value} {i : TypeInfo} (hi : Tryz.prog.info? 5 = some i) (h1 : w.ownsRow b1 5 1 v1 n xs) (a : Option Addr) (c : Nat) (ty : TypeId) :
    (Builtin.append_ #[24, 24] ty #[v1, .slice a 0 c]).run Tryz.prog w = .ok v1 w := by
  rcases a with _ | a <;> rcases h1.2 with ⟨rfl, rfl⟩ | ⟨g, cap, cur, rfl, _, _, hnc, _⟩
  · simp [Builtin.append_, run_underlying Tryz.underlying24, sizeOf, typeInfo, hi, Builtin.lenOf, Builtin.firstCells]
  · simp [Builtin.append_, run_underlying Tryz.underlying24, sizeOf, typeInfo, hi, Builtin.lenOf, Builtin.firstCells, hnc, storeCells]
  · simp [Builtin.append_, run_underlying Tryz.underlying24, sizeOf, typeInfo, hi, Builtin.lenOf, Builtin.firstCells, loadCells, loadCellsFrom]
  · simp [Builtin.append_, run_underlying Tryz.underlying24, sizeOf, typeInfo, hi, Builtin.lenOf, Builtin.firstCells, hnc, storeCells, loadCells, loadCellsFrom]
/-- append of bytes that are read, to a row of the call's own. -/
theorem run_append_bytes {b1 : Nat} {w : World} {v1 U : Value} {l1 l2 : BL} (h1 : w.ownsRow b1 5 1 v1 l1.length (u8s l1))
    (hU : (l2 = [] ∧ ∃ a c, U = .slice a 0 c) ∨ ∃ b off c, U = .slice (some ⟨b, off, none⟩) l2.length c ∧ ∀ i u, l2[i]? = some u → w.cell? ⟨b, off + i, none⟩ = some (.int .u8 u.toNat))
    (hb : b1 ≤ w.heap.size) (hl : l1.length + l2.length ≤ 4000000) :
    ∃ v w', (∀ ty, (Builtin.append_ #[24, 24] ty #[v1, U]).run Tryz.prog w = .ok v w') ∧ w'.ownsRow b1 5 1 v (l1 ++ l2).length (u8s (l1 ++ l2)) ∧ w.grownBy w' v1.ownBlock ∧ (v.ownBlock = v1.ownBlock ∨ v.ownBlock = some w.heap.size) := by
  obtain ⟨i, hi, hii⟩ := Option.map_eq_some_iff.1 infoU8
  simp only [Prod.mk.injEq] at hii
  obtain ⟨i1, i2, i3⟩ := hii
  rcases hU with ⟨rfl, a, c, rfl⟩ | ⟨b, off, c, rfl, hc⟩
  · refine ⟨v1, w, fun ty => run_append_zero hi h1 a c ty, by simpa using h1, ⟨rfl, rfl, rfl, Nat.le_refl _, fun _ _ _ => rfl⟩, .inl rfl⟩
  · have key := fun ty => run_append_own_at (P := Tryz.prog) w b1 24 ty 5 i (.int .u8 0) 1 1 Tryz.underlying24 hi i1 i2 i3 rfl (by decide) v1 l1.length (u8s l1) h1
      ⟨b, off, none⟩ l2.length c (u8s l2) (by simp [u8s]) (fun j u hu => by
        unfold u8s at hu
        rw [List.getElem?_map] at hu
        obtain ⟨x, hx, rfl⟩ := Option.map_eq_some_iff.1 hu
        have e : (⟨b, off, none⟩ : Addr).add j = ⟨b, off + j, none⟩ := by unfold Addr.add; split <;> simp_all
        rw [e]
        exact hc j x hx) u8s_one (by unfold maxLen; omega) (by omega) hb
    obtain ⟨v, w', hr, ho, hg, _, hat⟩ := key 0
    refine ⟨v, w', fun ty => hr, ?_, hg, hat⟩
    rw [List.length_append, show u8s (l1 ++ l2) = u8s l1 ++ u8s l2 by simp [u8s]]; exact ho
/-- what Doc's value is made of. -/
def maskL (l : BL) : BL := UInt8.ofNat (5 + 6 * ((l.head?.getD 0).toNat % 16)) :: (l.take 60).drop 1
def docL (l : BL) : V := (madeL 3 (maskL l)).1

theorem bread_of_own {w : World} {B : Nat} {v : Value} {l : BL} (h : w.ownsRow B 5 1 v l.length (u8s l)) (hp : l.length ≤ 1000000) : BRead w.heap.size w v l := by
  rcases ownsRow_cases h with ⟨rfl, h0, hx⟩ | ⟨g, cap, rfl⟩
  · have : l = [] := List.eq_nil_of_length_eq_zero h0
    subst this
    exact BRead.nil _ _
  · have hc := h.cells rfl
    have hcap : l.length ≤ cap := by
      rcases h.2 with ⟨h1, _⟩ | ⟨g2, c2, cur, h1, _, _, h2, _⟩
      · cases h1
      · injection h1 with _ _ h3; rw [h3]; exact h2
    have hh : ∀ i u, l[i]? = some u → w.cell? ⟨g, 0 + i, none⟩ = some (.int .u8 u.toNat) := fun i u hu => by
      have := hc i (.int .u8 u.toNat) (by unfold u8s; rw [List.getElem?_map, hu]; rfl)
      rw [add_at] at this
      rw [Nat.zero_add]
      exact this
    refine ⟨by omega, some ⟨g, 0, none⟩, cap, rfl, hcap, fun hl => ⟨g, 0, rfl, ?_, hh⟩⟩
    exact World.block_lt_of_cell? w _ (hh 0 l[0] (List.getElem?_eq_getElem hl))
set_option maxHeartbeats 8000000 in
set_option maxRecDepth 100000 in
theorem doc_nil (w : World) (hW : Words w) (cap : Nat) :
    Calls Tryz.prog 14 #[.slice none 0 cap] w fun e w' => ∃ c, e = .returned (.agg c.toArray) ∧ VNew w w' (madeL 3 [5]).1 c ∧ Below w.heap.size w w' := by
  obtain ⟨W0, hW0⟩ : ∃ W0, w.alloc (.cells #[.int .i64 0, .int .i64 0, .string ⟨#[]⟩, .slice none 0 0, .slice none 0 0] 40) = W0 := ⟨_, rfl⟩
  obtain ⟨P, hP⟩ : ∃ P, w.heap.size = P := ⟨_, rfl⟩
  have hb0 : Below w.heap.size w W0 := by rw [← hW0]; exact (Below.refl _ w).alloc (Nat.le_refl _) _
  have hk0 : Blk W0 P 40 [.int .i64 0, .int .i64 0, .string ⟨#[]⟩, .slice none 0 0, .slice none 0 0] := by rw [← hW0, ← hP]; exact heap_alloc_new w _
  obtain ⟨w4, hW1⟩ : ∃ W, W0.alloc (.cells #[.int .u8 5] 5) = W := ⟨_, rfl⟩
  have hP1 : W0.heap.size = P + 1 := by rw [← hW0, ← hP]; simp
  have hb1 : Below W0.heap.size W0 w4 := by rw [← hW1]; exact (Below.refl _ W0).alloc (Nat.le_refl _) _
  have hk1 : Blk w4 (P + 1) 5 (u8s [5]) := by rw [← hW1, ← hP1]; exact heap_alloc_new W0 _
  have hown : w4.ownsRow (P + 1) 5 1 (.slice (some ⟨P + 1, 0, none⟩) 1 1) ([5] : BL).length (u8s [5]) := ⟨rfl, .inr ⟨P + 1, 1, #[.int .u8 5], rfl, Nat.le_refl _, hk1, by simp, by unfold maxLen; omega, rfl, rfl⟩⟩
  have hb4 := hb0.trans (hb1.mono hb0.size)
  have hkP4 : Blk w4 P 40 [.int .i64 0, .int .i64 0, .string ⟨#[]⟩, .slice none 0 0, .slice none 0 0] := hk0.below hb1
  have hmade := made_any w4.heap.size 3 (by omega) w4 (.slice (some ⟨P + 1, 0, none⟩) 1 1) [5] (Nat.le_refl _) (bread_of_own hown (by simp)) (hW.later hb4)
  have H := Lib.hid (And.intro hW0 (And.intro hP (And.intro hb0 (And.intro hk0 (And.intro hW1 hP1)))))
  have H4 := Lib.hid (And.intro hb4 hkP4)
  have hm1 : min (0 : Int) 1 = 0 := rfl
  have hm2 : min (0 : Int) 60 = 0 := rfl
  clear hW0 hP hb0 hk0 hW1 hP1 hb1 hk1 hown hb4 hkP4 hW
  go_enter Tryz.func14, Tryz.ntmps14
  go_wp2_with fail
  rw [H.out.1, H.out.2.1]
  go_wp2_with fail
  rw [H.out.2.2.2.2.1]
  unfold MadeC at hmade
  have HM := Lib.hid hmade
  clear hmade
  refine (show Calls _ _ _ _ _ from HM.out).mono ?_
  rintro e w2 ⟨qc, rv, rfl, hx, hrv, hbel⟩
  obtain ⟨q0, q1, q2, q3, q4, q5, q6, q7, q8, rfl⟩ := VAt.shape hx
  obtain ⟨ra, rc, rfl⟩ : ∃ a b, rv = .slice a (madeL 3 ([5])).2.length b := by obtain ⟨_, a, b, e, _⟩ := hrv; exact ⟨a, b, e⟩
  obtain ⟨W3, hW3⟩ : ∃ W3, w2.alloc (.cells #[.int .i64 q0, .int .i64 q1, .string q2, .slice q3 q4 q5, .slice q6 q7 q8] 40) = W3 := ⟨_, rfl⟩
  have hb3 : Below w2.heap.size w2 W3 := by rw [← hW3]; exact (Below.refl _ w2).alloc (Nat.le_refl _) _
  have hk3 : Blk W3 w2.heap.size 40 [.int .i64 q0, .int .i64 q1, .string q2, .slice q3 q4 q5, .slice q6 q7 q8] := by rw [← hW3]; exact heap_alloc_new w2 _
  have hkP : Blk W3 P 40 [.int .i64 0, .int .i64 0, .string ⟨#[]⟩, .slice none 0 0, .slice none 0 0] := (H4.out.2.below hbel).below hb3
  have hP0 : P < w4.heap.size := H4.out.2.lt
  have hsz2 := hbel.size
  obtain ⟨W5, hW5⟩ : ∃ W5, (((((W3.setCell ⟨P, 0, none⟩ (.int .i64 q0)).setCell ⟨P, 1, none⟩ (.int .i64 q1)).setCell ⟨P, 2, none⟩ (.string q2)).setCell ⟨P, 3, none⟩ (.slice q3 q4 q5)).setCell ⟨P, 4, none⟩ (.slice q6 q7 q8)) = W5 := ⟨_, rfl⟩
  obtain ⟨hR5, ho5⟩ := five_set hkP hW5
  have hbb3 : Below w.heap.size w W3 := (H4.out.1.trans (hbel.mono H4.out.1.size)).trans (hb3.mono (by have := H4.out.1.size; omega))
  have hbb5 : Below w.heap.size w W5 := hbb3.trans (ho5.below hbb3.size (fun k hk e => by have := H.out.2.1; omega))
  have hvn : VNew w W5 (madeL 3 ([5])).1 [.int .i64 q0, .int .i64 q1, .string q2, .slice q3 q4 q5, .slice q6 q7 q8] :=
    VAt.keep (S := fun b => w4.heap.size ≤ b ∧ b < w2.heap.size) (fun b hb => ⟨by have := H4.out.1.size; omega, by have := hb3.size; have := ho5.size; omega⟩) (fun b hb k u hu => ho5.cell (by show ¬ b = P; omega) (bcell hb3 hu)) hx
  have HF := Lib.hid (And.intro hW3 (And.intro hW5 (And.intro hR5 (And.intro hvn hbb5))))
  have v0 := hk3.cell 0
  have v1 := hk3.cell 1
  have v2 := hk3.cell 2
  have v3 := hk3.cell 3
  have v4 := hk3.cell 4
  have r0 := hkP.cell 0
  have r1 := hkP.cell 1
  have r2 := hkP.cell 2
  have r3 := hkP.cell 3
  have r4 := hkP.cell 4
  have s0 := hkP.frozen 0
  have s1 := hkP.frozen 1
  have s2 := hkP.frozen 2
  have s3 := hkP.frozen 3
  have s4 := hkP.frozen 4
  clear hW5 hR5 hvn hbb5 ho5 hbb3 hkP hk3 hb3 hsz2 hP0 hx hrv hbel
  go_wp2
  rw [HF.out.2.1]
  (try simp only [Exit.inBlock, Exit.then])
  refine bodyPost_ret (v := .agg #[.int .i64 q0, .int .i64 q1, .string q2, .slice q3 q4 q5, .slice q6 q7 q8]) ?_ rfl ⟨[.int .i64 q0, .int .i64 q1, .string q2, .slice q3 q4 q5, .slice q6 q7 q8], rfl, HF.out.2.2.2.1, HF.out.2.2.2.2⟩
  exact results_cell_row rfl _ W5 P 40 _ (0, 0) _ rfl HF.out.2.2.1 Tryz.underlying40 rfl (by kernel_rfl)
set_option maxHeartbeats 8000000 in
set_option maxRecDepth 100000 in
theorem doc_zero (w : World) (hW : Words w) (A : Addr) (cap : Nat) :
    Calls Tryz.prog 14 #[.slice (some A) 0 cap] w fun e w' => ∃ c, e = .returned (.agg c.toArray) ∧ VNew w w' (madeL 3 [5]).1 c ∧ Below w.heap.size w w' := by
  obtain ⟨W0, hW0⟩ : ∃ W0, w.alloc (.cells #[.int .i64 0, .int .i64 0, .string ⟨#[]⟩, .slice none 0 0, .slice none 0 0] 40) = W0 := ⟨_, rfl⟩
  obtain ⟨P, hP⟩ : ∃ P, w.heap.size = P := ⟨_, rfl⟩
  have hb0 : Below w.heap.size w W0 := by rw [← hW0]; exact (Below.refl _ w).alloc (Nat.le_refl _) _
  have hk0 : Blk W0 P 40 [.int .i64 0, .int .i64 0, .string ⟨#[]⟩, .slice none 0 0, .slice none 0 0] := by rw [← hW0, ← hP]; exact heap_alloc_new w _
  obtain ⟨w4, hW1⟩ : ∃ W, W0.alloc (.cells #[.int .u8 5] 5) = W := ⟨_, rfl⟩
  have hP1 : W0.heap.size = P + 1 := by rw [← hW0, ← hP]; simp
  have hb1 : Below W0.heap.size W0 w4 := by rw [← hW1]; exact (Below.refl _ W0).alloc (Nat.le_refl _) _
  have hk1 : Blk w4 (P + 1) 5 (u8s [5]) := by rw [← hW1, ← hP1]; exact heap_alloc_new W0 _
  have hown : w4.ownsRow (P + 1) 5 1 (.slice (some ⟨P + 1, 0, none⟩) 1 1) ([5] : BL).length (u8s [5]) := ⟨rfl, .inr ⟨P + 1, 1, #[.int .u8 5], rfl, Nat.le_refl _, hk1, by simp, by unfold maxLen; omega, rfl, rfl⟩⟩
  have hb4 := hb0.trans (hb1.mono hb0.size)
  have hkP4 : Blk w4 P 40 [.int .i64 0, .int .i64 0, .string ⟨#[]⟩, .slice none 0 0, .slice none 0 0] := hk0.below hb1
  have hmade := made_any w4.heap.size 3 (by omega) w4 (.slice (some ⟨P + 1, 0, none⟩) 1 1) [5] (Nat.le_refl _) (bread_of_own hown (by simp)) (hW.later hb4)
  have H := Lib.hid (And.intro hW0 (And.intro hP (And.intro hb0 (And.intro hk0 (And.intro hW1 hP1)))))
  have H4 := Lib.hid (And.intro hb4 hkP4)
  have hm1 : min (0 : Int) 1 = 0 := rfl
  have hm2 : min (0 : Int) 60 = 0 := rfl
  clear hW0 hP hb0 hk0 hW1 hP1 hb1 hk1 hown hb4 hkP4 hW
  go_enter Tryz.func14, Tryz.ntmps14
  go_wp2_with fail
  rw [H.out.1, H.out.2.1]
  go_wp2_with fail
  rw [H.out.2.2.2.2.1]
  unfold MadeC at hmade
  have HM := Lib.hid hmade
  clear hmade
  refine (show Calls _ _ _ _ _ from HM.out).mono ?_
  rintro e w2 ⟨qc, rv, rfl, hx, hrv, hbel⟩
  obtain ⟨q0, q1, q2, q3, q4, q5, q6, q7, q8, rfl⟩ := VAt.shape hx
  obtain ⟨ra, rc, rfl⟩ : ∃ a b, rv = .slice a (madeL 3 ([5])).2.length b := by obtain ⟨_, a, b, e, _⟩ := hrv; exact ⟨a, b, e⟩
  obtain ⟨W3, hW3⟩ : ∃ W3, w2.alloc (.cells #[.int .i64 q0, .int .i64 q1, .string q2, .slice q3 q4 q5, .slice q6 q7 q8] 40) = W3 := ⟨_, rfl⟩
  have hb3 : Below w2.heap.size w2 W3 := by rw [← hW3]; exact (Below.refl _ w2).alloc (Nat.le_refl _) _
  have hk3 : Blk W3 w2.heap.size 40 [.int .i64 q0, .int .i64 q1, .string q2, .slice q3 q4 q5, .slice q6 q7 q8] := by rw [← hW3]; exact heap_alloc_new w2 _
  have hkP : Blk W3 P 40 [.int .i64 0, .int .i64 0, .string ⟨#[]⟩, .slice none 0 0, .slice none 0 0] := (H4.out.2.below hbel).below hb3
  have hP0 : P < w4.heap.size := H4.out.2.lt
  have hsz2 := hbel.size
  obtain ⟨W5, hW5⟩ : ∃ W5, (((((W3.setCell ⟨P, 0, none⟩ (.int .i64 q0)).setCell ⟨P, 1, none⟩ (.int .i64 q1)).setCell ⟨P, 2, none⟩ (.string q2)).setCell ⟨P, 3, none⟩ (.slice q3 q4 q5)).setCell ⟨P, 4, none⟩ (.slice q6 q7 q8)) = W5 := ⟨_, rfl⟩
  obtain ⟨hR5, ho5⟩ := five_set hkP hW5
  have hbb3 : Below w.heap.size w W3 := (H4.out.1.trans (hbel.mono H4.out.1.size)).trans (hb3.mono (by have := H4.out.1.size; omega))
  have hbb5 : Below w.heap.size w W5 := hbb3.trans (ho5.below hbb3.size (fun k hk e => by have := H.out.2.1; omega))
  have hvn : VNew w W5 (madeL 3 ([5])).1 [.int .i64 q0, .int .i64 q1, .string q2, .slice q3 q4 q5, .slice q6 q7 q8] :=
    VAt.keep (S := fun b => w4.heap.size ≤ b ∧ b < w2.heap.size) (fun b hb => ⟨by have := H4.out.1.size; omega, by have := hb3.size; have := ho5.size; omega⟩) (fun b hb k u hu => ho5.cell (by show ¬ b = P; omega) (bcell hb3 hu)) hx
  have HF := Lib.hid (And.intro hW3 (And.intro hW5 (And.intro hR5 (And.intro hvn hbb5))))
  have v0 := hk3.cell 0
  have v1 := hk3.cell 1
  have v2 := hk3.cell 2
  have v3 := hk3.cell 3
  have v4 := hk3.cell 4
  have r0 := hkP.cell 0
  have r1 := hkP.cell 1
  have r2 := hkP.cell 2
  have r3 := hkP.cell 3
  have r4 := hkP.cell 4
  have s0 := hkP.frozen 0
  have s1 := hkP.frozen 1
  have s2 := hkP.frozen 2
  have s3 := hkP.frozen 3
  have s4 := hkP.frozen 4
  clear hW5 hR5 hvn hbb5 ho5 hbb3 hkP hk3 hb3 hsz2 hP0 hx hrv hbel
  go_wp2
  rw [HF.out.2.1]
  (try simp only [Exit.inBlock, Exit.then])
  refine bodyPost_ret (v := .agg #[.int .i64 q0, .int .i64 q1, .string q2, .slice q3 q4 q5, .slice q6 q7 q8]) ?_ rfl ⟨[.int .i64 q0, .int .i64 q1, .string q2, .slice q3 q4 q5, .slice q6 q7 q8], rfl, HF.out.2.2.2.1, HF.out.2.2.2.2⟩
  exact results_cell_row rfl _ W5 P 40 _ (0, 0) _ rfl HF.out.2.2.1 Tryz.underlying40 rfl (by kernel_rfl)
set_option maxHeartbeats 8000000 in
set_option maxRecDepth 100000 in
theorem doc_one (nb : Nat) (w : World) (_hnb : nb ≤ w.heap.size) (hW : Words w) (b off n cap : Nat) (l : BL) (c0 : UInt8) (hl : l.length = n) (h0 : l[0]? = some c0) (hnc : n ≤ cap) (hmx : n ≤ 9223372036854775807) (_hb : b < nb)
    (hr : ∀ i u, l[i]? = some u → w.cell? ⟨b, off + i, none⟩ = some (.int .u8 u.toNat)) (hc1 : cap = 1) (x : UInt8) (hx : (x.toNat : Int) = 5 + 6 * ((c0.toNat : Int) % 16)) :
    Calls Tryz.prog 14 #[.slice (some ⟨b, off, none⟩) n cap] w fun e w' => ∃ c, e = .returned (.agg c.toArray) ∧ VNew w w' (madeL 3 [x]).1 c ∧ Below w.heap.size w w' := by
  obtain ⟨W0, hW0⟩ : ∃ W0, w.alloc (.cells #[.int .i64 0, .int .i64 0, .string ⟨#[]⟩, .slice none 0 0, .slice none 0 0] 40) = W0 := ⟨_, rfl⟩
  obtain ⟨P, hP⟩ : ∃ P, w.heap.size = P := ⟨_, rfl⟩
  have hb0 : Below w.heap.size w W0 := by rw [← hW0]; exact (Below.refl _ w).alloc (Nat.le_refl _) _
  have hk0 : Blk W0 P 40 [.int .i64 0, .int .i64 0, .string ⟨#[]⟩, .slice none 0 0, .slice none 0 0] := by rw [← hW0, ← hP]; exact heap_alloc_new w _
  have hn1 : 1 ≤ n := by
    cases l with
    | nil => simp at h0
    | cons => simp at hl; omega
  have hc0 := hr 0 c0 h0
  rw [Nat.add_zero] at hc0
  have h0a : (w.alloc (.cells #[.int .i64 0, .int .i64 0, .string ⟨#[]⟩, .slice none 0 0, .slice none 0 0] 40)).cell? ⟨b, off, none⟩ = some (.int .u8 c0.toNat) := by rw [hW0]; exact bcell hb0 hc0
  obtain rfl : n = 1 := by omega
  subst hc1
  obtain ⟨w4, hW1⟩ : ∃ W, W0.alloc (.cells #[.int .u8 (x.toNat : Int)] 5) = W := ⟨_, rfl⟩
  have hP1 : W0.heap.size = P + 1 := by rw [← hW0, ← hP]; simp
  have hb1 : Below W0.heap.size W0 w4 := by rw [← hW1]; exact (Below.refl _ W0).alloc (Nat.le_refl _) _
  have hk1 : Blk w4 (P + 1) 5 (u8s [x]) := by rw [← hW1, ← hP1]; exact heap_alloc_new W0 _
  have hown : w4.ownsRow (P + 1) 5 1 (.slice (some ⟨P + 1, 0, none⟩) 1 1) ([x] : BL).length (u8s [x]) := ⟨rfl, .inr ⟨P + 1, 1, #[.int .u8 (x.toNat : Int)], rfl, Nat.le_refl _, hk1, by simp, by unfold maxLen; omega, rfl, rfl⟩⟩
  have hb4 := hb0.trans (hb1.mono hb0.size)
  have hkP4 : Blk w4 P 40 [.int .i64 0, .int .i64 0, .string ⟨#[]⟩, .slice none 0 0, .slice none 0 0] := hk0.below hb1
  have hmade := made_any w4.heap.size 3 (by omega) w4 (.slice (some ⟨P + 1, 0, none⟩) 1 1) [x] (Nat.le_refl _) (bread_of_own hown (by simp)) (hW.later hb4)
  have H := Lib.hid (And.intro hW0 (And.intro hP (And.intro hb0 (And.intro hk0 (And.intro hW1 hP1)))))
  have H4 := Lib.hid (And.intro hb4 hkP4)
  have hm1 : min (1 : Int) 1 = 1 := rfl
  have hm2 : min (1 : Int) 60 = 1 := rfl
  clear hW0 hP hb0 hk0 hW1 hP1 hb1 hk1 hown hb4 hkP4 hW hr h0 hl
  have HX := Lib.hid hx
  clear hx hc0
  go_enter Tryz.func14, Tryz.ntmps14
  go_wp2_with fail
  rw [H.out.1, H.out.2.1, ← HX.out, H.out.2.2.2.2.1]
  unfold MadeC at hmade
  have HM := Lib.hid hmade
  clear hmade
  refine (show Calls _ _ _ _ _ from HM.out).mono ?_
  rintro e w2 ⟨qc, rv, rfl, hx, hrv, hbel⟩
  obtain ⟨q0, q1, q2, q3, q4, q5, q6, q7, q8, rfl⟩ := VAt.shape hx
  obtain ⟨ra, rc, rfl⟩ : ∃ a b, rv = .slice a (madeL 3 ([x])).2.length b := by obtain ⟨_, a, b, e, _⟩ := hrv; exact ⟨a, b, e⟩
  obtain ⟨W3, hW3⟩ : ∃ W3, w2.alloc (.cells #[.int .i64 q0, .int .i64 q1, .string q2, .slice q3 q4 q5, .slice q6 q7 q8] 40) = W3 := ⟨_, rfl⟩
  have hb3 : Below w2.heap.size w2 W3 := by rw [← hW3]; exact (Below.refl _ w2).alloc (Nat.le_refl _) _
  have hk3 : Blk W3 w2.heap.size 40 [.int .i64 q0, .int .i64 q1, .string q2, .slice q3 q4 q5, .slice q6 q7 q8] := by rw [← hW3]; exact heap_alloc_new w2 _
  have hkP : Blk W3 P 40 [.int .i64 0, .int .i64 0, .string ⟨#[]⟩, .slice none 0 0, .slice none 0 0] := (H4.out.2.below hbel).below hb3
  have hP0 : P < w4.heap.size := H4.out.2.lt
  have hsz2 := hbel.size
  obtain ⟨W5, hW5⟩ : ∃ W5, (((((W3.setCell ⟨P, 0, none⟩ (.int .i64 q0)).setCell ⟨P, 1, none⟩ (.int .i64 q1)).setCell ⟨P, 2, none⟩ (.string q2)).setCell ⟨P, 3, none⟩ (.slice q3 q4 q5)).setCell ⟨P, 4, none⟩ (.slice q6 q7 q8)) = W5 := ⟨_, rfl⟩
  obtain ⟨hR5, ho5⟩ := five_set hkP hW5
  have hbb3 : Below w.heap.size w W3 := (H4.out.1.trans (hbel.mono H4.out.1.size)).trans (hb3.mono (by have := H4.out.1.size; omega))
  have hbb5 : Below w.heap.size w W5 := hbb3.trans (ho5.below hbb3.size (fun k hk e => by have := H.out.2.1; omega))
  have hvn : VNew w W5 (madeL 3 ([x])).1 [.int .i64 q0, .int .i64 q1, .string q2, .slice q3 q4 q5, .slice q6 q7 q8] :=
    VAt.keep (S := fun b => w4.heap.size ≤ b ∧ b < w2.heap.size) (fun b hb => ⟨by have := H4.out.1.size; omega, by have := hb3.size; have := ho5.size; omega⟩) (fun b hb k u hu => ho5.cell (by show ¬ b = P; omega) (bcell hb3 hu)) hx
  have HF := Lib.hid (And.intro hW3 (And.intro hW5 (And.intro hR5 (And.intro hvn hbb5))))
  have v0 := hk3.cell 0
  have v1 := hk3.cell 1
  have v2 := hk3.cell 2
  have v3 := hk3.cell 3
  have v4 := hk3.cell 4
  have r0 := hkP.cell 0
  have r1 := hkP.cell 1
  have r2 := hkP.cell 2
  have r3 := hkP.cell 3
  have r4 := hkP.cell 4
  have s0 := hkP.frozen 0
  have s1 := hkP.frozen 1
  have s2 := hkP.frozen 2
  have s3 := hkP.frozen 3
  have s4 := hkP.frozen 4
  clear hW5 hR5 hvn hbb5 ho5 hbb3 hkP hk3 hb3 hsz2 hP0 hx hrv hbel
  go_wp2
  rw [HF.out.2.1]
  (try simp only [Exit.inBlock, Exit.then])
  refine bodyPost_ret (v := .agg #[.int .i64 q0, .int .i64 q1, .string q2, .slice q3 q4 q5, .slice q6 q7 q8]) ?_ rfl ⟨[.int .i64 q0, .int .i64 q1, .string q2, .slice q3 q4 q5, .slice q6 q7 q8], rfl, HF.out.2.2.2.1, HF.out.2.2.2.2⟩
  exact results_cell_row rfl _ W5 P 40 _ (0, 0) _ rfl HF.out.2.2.1 Tryz.underlying40 rfl (by kernel_rfl)
set_option maxHeartbeats 8000000 in
set_option maxRecDepth 100000 in
theorem doc_more (nb : Nat) (w : World) (_hnb : nb ≤ w.heap.size) (hW : Words w) (b off n cap : Nat) (l : BL) (c0 : UInt8) (hl : l.length = n) (h0 : l[0]? = some c0) (hnc : n ≤ cap) (hmx : n ≤ 9223372036854775807) (_hb : b < nb)
    (hr : ∀ i u, l[i]? = some u → w.cell? ⟨b, off + i, none⟩ = some (.int .u8 u.toNat)) (hc1 : ¬ cap = 1) (x : UInt8) (hx : (x.toNat : Int) = 5 + 6 * ((c0.toNat : Int) % 16)) :
    Calls Tryz.prog 14 #[.slice (some ⟨b, off, none⟩) n cap] w fun e w' => ∃ c, e = .returned (.agg c.toArray) ∧ VNew w w' (madeL 3 (x :: (l.take 60).drop 1)).1 c ∧ Below w.heap.size w w' := by
  obtain ⟨W0, hW0⟩ : ∃ W0, w.alloc (.cells #[.int .i64 0, .int .i64 0, .string ⟨#[]⟩, .slice none 0 0, .slice none 0 0] 40) = W0 := ⟨_, rfl⟩
  obtain ⟨P, hP⟩ : ∃ P, w.heap.size = P := ⟨_, rfl⟩
  have hb0 : Below w.heap.size w W0 := by rw [← hW0]; exact (Below.refl _ w).alloc (Nat.le_refl _) _
  have hk0 : Blk W0 P 40 [.int .i64 0, .int .i64 0, .string ⟨#[]⟩, .slice none 0 0, .slice none 0 0] := by rw [← hW0, ← hP]; exact heap_alloc_new w _
  have hn1 : 1 ≤ n := by
    cases l with
    | nil => simp at h0
    | cons => simp at hl; omega
  have hc0 := hr 0 c0 h0
  rw [Nat.add_zero] at hc0
  have h0a : (w.alloc (.cells #[.int .i64 0, .int .i64 0, .string ⟨#[]⟩, .slice none 0 0, .slice none 0 0] 40)).cell? ⟨b, off, none⟩ = some (.int .u8 c0.toNat) := by rw [hW0]; exact bcell hb0 hc0
  obtain ⟨W1, hW1⟩ : ∃ W, W0.alloc (.cells #[.int .u8 (x.toNat : Int)] 5) = W := ⟨_, rfl⟩
  have hP1 : W0.heap.size = P + 1 := by rw [← hW0, ← hP]; simp
  have hb1 : Below W0.heap.size W0 W1 := by rw [← hW1]; exact (Below.refl _ W0).alloc (Nat.le_refl _) _
  have hk1 : Blk W1 (P + 1) 5 (u8s [x]) := by rw [← hW1, ← hP1]; exact heap_alloc_new W0 _
  have hown : W1.ownsRow (P + 1) 5 1 (.slice (some ⟨P + 1, 0, none⟩) 1 1) ([x] : BL).length (u8s [x]) := ⟨rfl, .inr ⟨P + 1, 1, #[.int .u8 (x.toNat : Int)], rfl, Nat.le_refl _, hk1, by simp, by unfold maxLen; omega, rfl, rfl⟩⟩
  have hbw := hb0.trans (hb1.mono hb0.size)
  have hll : ((l.take 60).drop 1).length = min n 60 - 1 := by rw [List.length_drop, List.length_take]; omega
  obtain ⟨v4, w4, hrun, ho4, hg4, hat4⟩ := run_append_bytes (b1 := P + 1) (l2 := (l.take 60).drop 1) (U := .slice (some ⟨b, off + 1, none⟩) ((l.take 60).drop 1).length (cap - 1)) hown
    (.inr ⟨b, off + 1, cap - 1, rfl, fun i u hu => by
      have h1 : l[i + 1]? = some u := by
        rw [List.getElem?_drop, List.getElem?_take] at hu
        split at hu
        · rw [Nat.add_comm i 1]; exact hu
        · cases hu
      rw [show off + 1 + i = off + (i + 1) by omega]
      exact bcell hbw (hr _ _ h1)⟩) (by have := hk1.lt; omega) (by rw [hll]; simp; omega)
  obtain ⟨k, hk⟩ : ∃ k, min n 60 = k := ⟨_, rfl⟩
  rw [hk] at hll
  rw [hll] at hrun
  have hrun0 : ∀ ty, (Builtin.append_ #[24, 24] ty #[.slice (some ⟨w.heap.size + 1, 0, none⟩) 1 1, .slice (some ⟨b, off + 1, none⟩) (k - 1) (cap - 1)]).run Tryz.prog ((w.alloc (.cells #[.int .i64 0, .int .i64 0, .string ⟨#[]⟩, .slice none 0 0, .slice none 0 0] 40)).alloc (.cells #[.int .u8 (5 + 6 * ((c0.toNat : Int) % 16))] 5)) = .ok v4 w4 := by rw [hW0, hP, ← hx, hW1]; exact hrun
  have ho := Only.ofGrown (S := fun k => k = P + 1) hg4 (fun k hk => (Option.some.inj (show some (P + 1) = some k from hk)).symm)
  have hb4 : Below w.heap.size w w4 := hbw.trans (ho.below hbw.size (fun k hk e => by omega))
  have hkP4 : Blk w4 P 40 [.int .i64 0, .int .i64 0, .string ⟨#[]⟩, .slice none 0 0, .slice none 0 0] := (hk0.below hb1).only ho (by omega)
  have hmade := made_any w4.heap.size 3 (by omega) w4 v4 (x :: (l.take 60).drop 1) (Nat.le_refl _) (bread_of_own ho4 (by simp; omega)) (hW.later hb4)
  have H := Lib.hid (And.intro hW0 (And.intro hP (And.intro hb0 (And.intro hk0 (And.intro hW1 hP1)))))
  have H4 := Lib.hid (And.intro hb4 hkP4)
  have HA := Lib.hid hrun0
  have hm1 : min (n : Int) 1 = 1 := by omega
  have hm2 : min (n : Int) 60 = (k : Int) := by omega
  have hk1 : 1 ≤ k := by omega
  have hkn : k ≤ n := by omega
  have hkc : k ≤ cap := by omega
  have hkz1 : (1 : Int) ≤ (k : Int) := by omega
  have hkz2 : (k : Int) ≤ (cap : Int) := by omega
  have hnz : (0 : Int) < (n : Int) := by omega
  have hnn : 0 < n := by omega
  clear hW0 hP hb0 hk0 hW1 hP1 hb1 hown hb4 hkP4 hW hr h0 hl hrun hrun0 ho4 hg4 hat4 ho hbw hll hk
  have HX := Lib.hid hx
  clear hx hc0
  go_enter Tryz.func14, Tryz.ntmps14
  go_wp2_with (at_builtin; refine wpList_append_run rfl (.tmp 17) (.tmp 25) 24 rfl (.slice (some ⟨w.heap.size + 1, 0, none⟩) 1 1) (.slice (some ⟨b, off + 1, none⟩) (k - 1) (cap - 1)) rfl rfl v4 w4 HA.out ?_)
  rw [H.out.2.1]
  unfold MadeC at hmade
  have HM := Lib.hid hmade
  clear hmade
  refine (show Calls _ _ _ _ _ from HM.out).mono ?_
  rintro e w2 ⟨qc, rv, rfl, hx, hrv, hbel⟩
  obtain ⟨q0, q1, q2, q3, q4, q5, q6, q7, q8, rfl⟩ := VAt.shape hx
  obtain ⟨ra, rc, rfl⟩ : ∃ a b, rv = .slice a (madeL 3 ((x :: (l.take 60).drop 1))).2.length b := by obtain ⟨_, a, b, e, _⟩ := hrv; exact ⟨a, b, e⟩
  obtain ⟨W3, hW3⟩ : ∃ W3, w2.alloc (.cells #[.int .i64 q0, .int .i64 q1, .string q2, .slice q3 q4 q5, .slice q6 q7 q8] 40) = W3 := ⟨_, rfl⟩
  have hb3 : Below w2.heap.size w2 W3 := by rw [← hW3]; exact (Below.refl _ w2).alloc (Nat.le_refl _) _
  have hk3 : Blk W3 w2.heap.size 40 [.int .i64 q0, .int .i64 q1, .string q2, .slice q3 q4 q5, .slice q6 q7 q8] := by rw [← hW3]; exact heap_alloc_new w2 _
  have hkP : Blk W3 P 40 [.int .i64 0, .int .i64 0, .string ⟨#[]⟩, .slice none 0 0, .slice none 0 0] := (H4.out.2.below hbel).below hb3
  have hP0 : P < w4.heap.size := H4.out.2.lt
  have hsz2 := hbel.size
  obtain ⟨W5, hW5⟩ : ∃ W5, (((((W3.setCell ⟨P, 0, none⟩ (.int .i64 q0)).setCell ⟨P, 1, none⟩ (.int .i64 q1)).setCell ⟨P, 2, none⟩ (.string q2)).setCell ⟨P, 3, none⟩ (.slice q3 q4 q5)).setCell ⟨P, 4, none⟩ (.slice q6 q7 q8)) = W5 := ⟨_, rfl⟩
  obtain ⟨hR5, ho5⟩ := five_set hkP hW5
  have hbb3 : Below w.heap.size w W3 := (H4.out.1.trans (hbel.mono H4.out.1.size)).trans (hb3.mono (by have := H4.out.1.size; omega))
  have hbb5 : Below w.heap.size w W5 := hbb3.trans (ho5.below hbb3.size (fun k hk e => by have := H.out.2.1; omega))
  have hvn : VNew w W5 (madeL 3 ((x :: (l.take 60).drop 1))).1 [.int .i64 q0, .int .i64 q1, .string q2, .slice q3 q4 q5, .slice q6 q7 q8] :=
    VAt.keep (S := fun b => w4.heap.size ≤ b ∧ b < w2.heap.size) (fun b hb => ⟨by have := H4.out.1.size; omega, by have := hb3.size; have := ho5.size; omega⟩) (fun b hb k u hu => ho5.cell (by show ¬ b = P; omega) (bcell hb3 hu)) hx
  have HF := Lib.hid (And.intro hW3 (And.intro hW5 (And.intro hR5 (And.intro hvn hbb5))))
  have v0 := hk3.cell 0
  have v1 := hk3.cell 1
  have v2 := hk3.cell 2
  have v3 := hk3.cell 3
  have v4 := hk3.cell 4
  have r0 := hkP.cell 0
  have r1 := hkP.cell 1
  have r2 := hkP.cell 2
  have r3 := hkP.cell 3
  have r4 := hkP.cell 4
  have s0 := hkP.frozen 0
  have s1 := hkP.frozen 1
  have s2 := hkP.frozen 2
  have s3 := hkP.frozen 3
  have s4 := hkP.frozen 4
  clear hW5 hR5 hvn hbb5 ho5 hbb3 hkP hk3 hb3 hsz2 hP0 hx hrv hbel
  go_wp2
  rw [HF.out.2.1]
  (try simp only [Exit.inBlock, Exit.then])
  refine bodyPost_ret (v := .agg #[.int .i64 q0, .int .i64 q1, .string q2, .slice q3 q4 q5, .slice q6 q7 q8]) ?_ rfl ⟨[.int .i64 q0, .int .i64 q1, .string q2, .slice q3 q4 q5, .slice q6 q7 q8], rfl, HF.out.2.2.2.1, HF.out.2.2.2.2⟩
  exact results_cell_row rfl _ W5 P 40 _ (0, 0) _ rfl HF.out.2.2.1 Tryz.underlying40 rfl (by kernel_rfl)
theorem mask_byte (c0 : UInt8) : ((UInt8.ofNat (5 + 6 * (c0.toNat % 16))).toNat : Int) = 5 + 6 * ((c0.toNat : Int) % 16) := by
  rw [UInt8.toNat_ofNat']
  omega
theorem doc_any (nb : Nat) (w : World) (sv : Value) (l : BL) (hnb : nb ≤ w.heap.size) (h : BRead nb w sv l) (hW : Words w) :
    Calls Tryz.prog 14 #[sv] w fun e w' => ∃ c, e = .returned (.agg c.toArray) ∧ VNew w w' (docL l) c ∧ Below w.heap.size w w' := by
  obtain ⟨hm, a, cap, rfl, hcap, hx⟩ := h
  cases l with
  | nil =>
    rw [show docL [] = (madeL 3 [5]).1 from rfl]
    cases a with
    | none => exact doc_nil w hW cap
    | some A => exact doc_zero w hW A cap
  | cons c0 l =>
    obtain ⟨b, off, rfl, hbn, hr⟩ := hx (by simp)
    by_cases hc1 : cap = 1
    · have hl0 : l = [] := List.eq_nil_of_length_eq_zero (by simp at hcap; omega)
      subst hl0
      exact doc_one nb w hnb hW b off _ cap [c0] c0 rfl rfl hcap hm hbn hr hc1 _ (mask_byte c0)
    · exact doc_more nb w hnb hW b off _ cap (c0 :: l) c0 rfl rfl hcap hm hbn hr hc1 _ (mask_byte c0)
end Go.Proofs.YtecnjifincahaaaGreatDoor
