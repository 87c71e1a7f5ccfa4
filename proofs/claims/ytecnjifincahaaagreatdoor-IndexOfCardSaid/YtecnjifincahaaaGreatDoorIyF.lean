/- The law's filled: records of bytes, one after another, as a heap and as a map. -/
import Derived.Test.YtecnjifincahaaaGreatDoorIyE
import Derived.Test.YtecnjifincahaaaGreatDoorIyK
namespace Go.Proofs.YtecnjifincahaaaGreatDoor
open Go.Shelf Go.RowKit Go.Lib

/-- v is a slice of slices that read as the bytes of L. -/
def LRead (n : Nat) (w : World) (v : Value) (L : List BL) : Prop :=
  ∃ a cap, v = .slice a L.length cap ∧ L.length ≤ cap ∧ (0 < L.length → ∃ b off, a = some ⟨b, off, none⟩ ∧ b < n ∧ ∀ i (h : i < L.length), ∃ sv, w.cell? ⟨b, off + i, none⟩ = some sv ∧ BRead n w sv L[i])
theorem LRead.later {n : Nat} {w w2 : World} {v : Value} {l : List BL} (h : LRead n w v l) (hb : Below n w w2) : LRead n w2 v l := by
  obtain ⟨a, cap, rfl, hc, h⟩ := h
  refine ⟨a, cap, rfl, hc, fun hl => ?_⟩
  obtain ⟨b, off, rfl, hbn, hx⟩ := h hl
  refine ⟨b, off, rfl, hbn, fun i hi => ?_⟩
  obtain ⟨sv, h1, h2⟩ := hx i hi
  exact ⟨sv, (World.cell?_of_block (hb.block b hbn)).trans h1, h2.later hb⟩
def lookC (T : List DocT) (k : Int) : Option Value := (T.find? (fun t => t.id == k)).map fun t => .agg t.c.toArray
def recs : List BL → Int → List (Int × V)
  | [], _ => []
  | b :: l, k => (k, docL b) :: recs l (k + 1)
theorem recs_append : ∀ (l : List BL) (b : BL) (k : Int), recs (l ++ [b]) k = recs l k ++ [(k + l.length, docL b)]
  | [], b, k => by simp [recs]
  | x :: l, b, k => by
    rw [List.cons_append, recs, recs, recs_append l b (k + 1), List.cons_append, List.length_cons]
    rw [show k + 1 + (l.length : Int) = k + ((l.length + 1 : Nat) : Int) by push_cast; omega]
theorem recs_len : ∀ (l : List BL) (k : Int), (recs l k).length = l.length
  | [], _ => rfl
  | _ :: l, k => by rw [recs, List.length_cons, List.length_cons, recs_len l]
theorem recs_ids : ∀ (l : List BL) (k : Int), ∀ p ∈ recs l k, k ≤ p.1 ∧ p.1 < k + l.length
  | [], _, p, h => by simp [recs] at h
  | b :: l, k, p, h => by
    rw [recs] at h
    rw [List.length_cons]
    rcases List.mem_cons.1 h with h | h
    · rw [h]; push_cast; show k ≤ k ∧ k < _; omega
    · have := recs_ids l (k + 1) p h
      push_cast
      omega
def prT (t : DocT) : Int × V := (t.id, t.v)
theorem lookC_push (T : List DocT) (t : DocT) (h : ∀ x ∈ T, x.id ≠ t.id) (k : Int) : lookC (T ++ [t]) k = if k = t.id then some (.agg t.c.toArray) else lookC T k := by
  unfold lookC
  rw [List.find?_append]
  by_cases hk : k = t.id
  · have hn : T.find? (fun x => x.id == k) = none := by
      rw [List.find?_eq_none]
      intro x hx
      have := h x hx
      simp only [beq_iff_eq]
      omega
    rw [if_pos hk, hn]
    simp [hk]
  · rw [if_neg hk]
    have : (t.id == k) = false := by rw [beq_eq_false_iff_ne]; omega
    simp [this]
/-- a heap in block bh and a map in the next one hold the records T. -/
def FRep (w : World) (bh : Nat) (ob : Option Nat) (T : List DocT) (last : Int) : Prop :=
  HRep w bh ob (fun b => bh + 1 < b ∧ b < w.heap.size ∧ ob ≠ some b) T last ∧ MapS i64V w (bh + 1) (lookC T) ∧ ob ≠ some (bh + 1) ∧ ∀ k, ob = some k → bh < k
theorem FRep.later {w w2 : World} {bh : Nat} {ob : Option Nat} {T : List DocT} {last : Int} (h : FRep w bh ob T last) (hb : Below w.heap.size w w2) : FRep w2 bh ob T last := by
  obtain ⟨h1, h2, h3⟩ := h
  have h4 := h1.lt
  have hs := hb.size
  refine ⟨(h1.later hb).widen (fun b hb => ⟨hb.1, by omega, hb.2.2⟩) (fun b hb => ⟨hb.2.1, by omega, hb.2.2⟩), h2.only (Only.ofBelow hb (fun _ => False)) (fun h => h), h3⟩
/-- one more record. -/
theorem FRep.push {w0 w4 : World} {bh : Nat} {ob ob' : Option Nat} {S : Nat → Prop} {T : List DocT} {t : DocT} {last : Int} (hm : MapS i64V w0 (bh + 1) (lookC T)) (hob : ob ≠ some (bh + 1) ∧ ∀ k, ob = some k → bh < k) (hH : HRep w4 bh ob' S (T ++ [t]) last) (hS : ∀ b, S b → bh + 1 < b ∧ b < w0.heap.size ∧ ob ≠ some b)
    (h1 : ob' = ob ∨ ∃ k, ob' = some k ∧ w0.heap.size ≤ k) (ho : Only (fun k => k = bh ∨ ob = some k) w0 w4) (hid : ∀ x ∈ T, x.id ≠ t.id) :
    ∃ w5, (Instr.mapUpdate 48 (.map (some (bh + 1))) (.int .i64 t.id) (.agg t.c.toArray)).run Tryz.prog w4 = .ok () w5 ∧ FRep w5 bh ob' (T ++ [t]) last ∧ Only (fun k => k = bh + 1) w4 w5 := by
  have hm4 := hm.only ho (fun h => by rcases h with h | h; omega; exact hob.1 h)
  obtain ⟨w5, hup, hm5, ho5, _⟩ := hm4.update keyI64 Tryz.underlying48 t.id (.agg t.c.toArray)
  have hs1 := ho.size
  have hs2 := ho5.size
  have hlt := hm.lt
  have hob' : ob' ≠ some (bh + 1) := by
    rcases h1 with h | ⟨k, h, hk⟩
    · rw [h]; exact hob.1
    · rw [h]; intro e; have := Option.some.inj e; omega
  have hob2 : ∀ k, ob' = some k → bh < k := fun k hk => by
    rcases h1 with h | ⟨k2, h, hk2⟩
    · exact hob.2 k (by rw [← h]; exact hk)
    · have := Option.some.inj (h.symm.trans hk); omega
  refine ⟨w5, hup, ⟨?_, hm5.congr (fun k => lookC_push T t hid k), hob', hob2⟩, ho5⟩
  refine (hH.keep ho5 (by omega) (fun k hk e => hob' (by rw [hk, e])) (fun b hb e => by have := hS b hb; omega)).widen (fun b hb => ?_) (fun b hb => ⟨hb.2.1, by omega, hb.2.2⟩)
  obtain ⟨a1, a2, a3⟩ := hS b hb
  refine ⟨a1, by omega, ?_⟩
  rcases h1 with h | ⟨k, h, hk⟩
  · rw [h]; exact a3
  · rw [h]; intro e; have := Option.some.inj e; omega

set_option maxHeartbeats 8000000 in
set_option maxRecDepth 100000 in
theorem filled_any (nb : Nat) (w : World) (sv : Value) (L : List BL) (hnb : nb ≤ w.heap.size) (hL : LRead nb w sv L) (hW : Words w) :
    Calls Tryz.prog 18 #[sv] w fun e w' => ∃ T ob, e = .returned (.tuple #[.pointer (some ⟨w.heap.size, 0, none⟩), .map (some (w.heap.size + 1))]) ∧ FRep w' w.heap.size ob T (T.length : Int) ∧ T.map prT = recs (L.take 30) 1 ∧ Below w.heap.size w w' := by
  obtain ⟨sa, cap, rfl, hcap, hx⟩ := hL
  obtain ⟨n, hn⟩ : ∃ n, L.length = n := ⟨_, rfl⟩
  obtain ⟨m, hm⟩ : ∃ m, min n 30 = m := ⟨_, rfl⟩
  have hcall := new_any w
  rw [hn] at hcap ⊢
  obtain ⟨bh, hbh⟩ : ∃ b, w.heap.size = b := ⟨_, rfl⟩
  have hmz : min (n : Int) 30 = (m : Int) := by omega
  have hmn : m ≤ n := by omega
  have hmc : m ≤ cap := by omega
  have hm30 : m ≤ 30 := by omega
  have hmn' : (m : Int) ≤ (n : Int) := by omega
  have hmc' : (m : Int) ≤ (cap : Int) := by omega
  have hmm := @run_makeMap Tryz.prog
  have H0 := Lib.hid (And.intro hcall (And.intro hx (And.intro hn (And.intro hm (And.intro hW (And.intro hnb hbh))))))
  clear hcall hx hn hm hW hnb
  rw [hbh]
  clear hbh
  go_enter Tryz.func18, Tryz.ntmps18
  go_wp2_with fail
  refine (show Calls _ _ _ _ _ from H0.out.1).mono ?_
  rintro e w1 ⟨rfl, hH1, hb1, hs1⟩
  rw [H0.out.2.2.2.2.2.2] at hH1 hs1
  have HN := Lib.hid (And.intro hH1 (And.intro hb1 hs1))
  clear hH1 hb1 hs1
  go_wp2_with fail
  rw [HN.out.2.2, H0.out.2.2.2.2.2.2]
  obtain ⟨w2, hw2⟩ : ∃ W, w1.alloc (.map #[] 0) = W := ⟨_, rfl⟩
  have hF2 : FRep w2 bh none [] 0 := by
    have hb : Below w1.heap.size w1 w2 := by rw [← hw2]; exact (Below.refl _ _).alloc (Nat.le_refl _) _
    refine ⟨(HN.out.1.later hb).widen (fun _ h => h.elim) (fun b hb => ⟨hb.2.1, by omega, by simp⟩), ?_, by simp, fun k h => by cases h⟩
    rw [← hw2, ← HN.out.2.2]
    exact (MapS.made w1).congr (fun k => rfl)
  have hb2 : Below w.heap.size w w2 := by rw [← hw2]; exact HN.out.2.1.alloc HN.out.2.1.size _
  have HF := Lib.hid (And.intro hF2 hb2)
  rw [hw2]
  clear hw2 hF2 hb2
  go_loopg [17] m (fun gk iv wr => ∃ (i : Nat) (T : List DocT) (ob : Option Nat), gk + i = m ∧ iv = .int .i64 (i : Int) ∧ FRep wr bh ob T (i : Int) ∧ T.map prT = recs (L.take i) 1 ∧ Below w.heap.size w wr)
  case atStart => exact ⟨0, [], none, by omega, rfl, HF.out.1, rfl, HF.out.2⟩
  case round =>
    obtain ⟨i, T, ob, hgi, rfl, hF, hT, hbw⟩ := hrel
    have hTl : T.length = i ∨ ¬ i ≤ n := by
      by_cases h : i ≤ n
      · left
        have h1 := congrArg List.length hT
        rw [List.length_map, recs_len, List.length_take, H0.out.2.2.1] at h1
        omega
      · exact .inr h
    have HS := Lib.hid (And.intro hF (And.intro hT hbw))
    clear hF hT hbw
    by_cases hi : i < m
    · have hTi : T.length = i := by rcases hTl with h | h <;> omega
      have hil : i < L.length := by rw [H0.out.2.2.1]; omega
      have hiz : (i : Int) < (m : Int) := by omega
      have hwK : IntKind.i64.wrap ((i : Int) + 1) = (i : Int) + 1 := IntWalk.i64_in _ (by omega)
      obtain ⟨b, off, rfl, hbn, hcells⟩ := H0.out.2.1 (by have := H0.out.2.2.1; omega)
      obtain ⟨cv, hc1, hc2⟩ := hcells i hil
      have hbb : b < w.heap.size := by have := H0.out.2.2.2.2.2.1; have := H0.out.2.2.2.2.2.2; omega
      have f0 : wr.cell? ⟨b, off + i, none⟩ = some cv := (World.cell?_of_block (HS.out.2.2.block b hbb)).trans hc1
      have hrd : BRead nb wr cv L[i] := hc2.later (HS.out.2.2.mono H0.out.2.2.2.2.2.1)
      obtain ⟨l, hli⟩ : ∃ l, L[i] = l := ⟨_, rfl⟩
      rw [hli] at hrd
      have hdoc := doc_any nb wr cv l (by have := HS.out.2.2.size; have := H0.out.2.2.2.2.2.1; omega) hrd (H0.out.2.2.2.2.1.later HS.out.2.2)
      obtain ⟨ca, cl, cc, rfl⟩ : ∃ a n c, cv = .slice a n c := by obtain ⟨_, a, c, h, _⟩ := hrd; exact ⟨a, _, c, h⟩
      have HD := Lib.hid (And.intro hdoc (And.intro hli hTi))
      clear hdoc hrd hc1 hc2 hcells hbn hbb hli hTl hTi
      go_wp2_with fail
      refine (show Calls _ _ _ _ _ from HD.out.1).mono ?_
      rintro e w2 ⟨c, rfl, hv, hb2⟩
      obtain ⟨q0, q1, q2, q3, q4, q5, q6, q7, q8, rfl⟩ := VAt.shape hv
      obtain ⟨B, hB⟩ : ∃ B, w2.heap.size = B := ⟨_, rfl⟩
      obtain ⟨w3, hw3⟩ : ∃ W, w2.alloc (.cells #[.int .i64 q0, .int .i64 q1, .string q2, .slice q3 q4 q5, .slice q6 q7 q8] 40) = W := ⟨_, rfl⟩
      have hb3 : Below w2.heap.size w2 w3 := by rw [← hw3]; exact (Below.refl _ _).alloc (Nat.le_refl _) _
      have hb23 := hb2.trans (hb3.mono hb2.size)
      have hbx : Blk w3 B 40 [.int .i64 q0, .int .i64 q1, .string q2, .slice q3 q4 q5, .slice q6 q7 q8] := by rw [← hw3, ← hB]; exact heap_alloc_new w2 _
      have hs3 : w3.heap.size = B + 1 := by rw [← hw3, ← hB]; simp
      have hwB : wr.heap.size ≤ B := by rw [← hB]; exact hb2.size
      have hlt := HS.out.1.1.lt
      have hml := HS.out.1.2.1.lt
      have hH3 : HRep w3 bh ob (fun b => bh + 1 < b ∧ b < w3.heap.size ∧ ob ≠ some b) T (i : Int) := (HS.out.1.1.later hb23).widen (fun b hb => ⟨hb.1, by have := hb.2.1; omega, hb.2.2⟩) (fun b hb => ⟨hb.2.1, by omega, hb.2.2⟩)
      have hv3 : VAt (fun b => bh + 1 < b ∧ b < w3.heap.size ∧ ob ≠ some b) w3 (docL l) [.int .i64 q0, .int .i64 q1, .string q2, .slice q3 q4 q5, .slice q6 q7 q8] := VAt.keep (fun b hb => ⟨by omega, by omega, fun h => by have := hlt.2 b h; omega⟩) (fun b hb k u hu => bcell hb3 hu) hv
      have hins := insert_any w3 bh ob _ T (i : Int) (docL l) _ hH3 hv3 (by have := HD.out.2.2; omega) (by omega)
      have HI := Lib.hid (And.intro hB (And.intro hw3 (And.intro hbx (And.intro hins (And.intro hb23 (And.intro hs3 (And.intro hlt hwB)))))))
      rw [← hB] at hbx
      have x0 := hbx.cell 0
      have x1 := hbx.cell 1
      have x2 := hbx.cell 2
      have x3 := hbx.cell 3
      have x4 := hbx.cell 4
      clear hins hb3 hb23 hbx hs3 hwB hlt hml hH3 hv3 hB hv hb2 f0
      go_wp2_with fail
      refine (show Calls _ _ _ _ _ from HI.out.2.2.2.1).mono ?_
      rintro e w4 ⟨rfl, ob', hH4, hob', ho4⟩
      have hx4 := HI.out.2.2.1.only ho4 (fun h => by have := HI.out.2.2.2.2.2.2; rcases h with h | h; omega; have := HI.out.2.2.2.2.2.2.1.2 _ h; omega)
      have hob := HS.out.1.2.2
      have hm3 : MapS i64V w3 (bh + 1) (lookC T) := HS.out.1.2.1.only (Only.ofBelow HI.out.2.2.2.2.1 (fun _ => False)) (fun h => h)
      obtain ⟨w5, hup, hF5, ho5⟩ := FRep.push (t := DocT.mk ((i : Int) + 1) (docL l) [.int .i64 q0, .int .i64 q1, .string q2, .slice q3 q4 q5, .slice q6 q7 q8]) hm3 hob hH4 (fun b hb => hb) hob' ho4 (fun x hx => by
        have h1 : prT x ∈ recs (L.take i) 1 := by rw [← HS.out.2.1]; exact List.mem_map_of_mem hx
        have h2 := recs_ids _ _ _ h1
        rw [List.length_take] at h2
        show x.id ≠ (i : Int) + 1
        have h3 : (prT x).1 = x.id := rfl
        rw [h3] at h2
        omega)
      have hb5 : Below w.heap.size w w5 := by
        have h1 := HS.out.2.2.trans (HI.out.2.2.2.2.1.mono HS.out.2.2.size)
        have h2 := H0.out.2.2.2.2.2.2
        have h5 := h1.trans (ho4.below h1.size (fun k hk e => by
          rcases e with e | e
          · omega
          · have := hob.2 k e; omega))
        exact h5.trans (ho5.below h5.size (fun k hk e => by omega))
      have hup2 : (Instr.mapUpdate 48 (.map (some (bh + 1))) (.int .i64 ((i : Int) + 1)) (.agg #[.int .i64 q0, .int .i64 q1, .string q2, .slice q3 q4 q5, .slice q6 q7 q8])).run Tryz.prog w4 = .ok () w5 := hup
      have HU := Lib.hid (And.intro hF5 hb5)
      rw [← HI.out.1] at hx4
      have y0 := hx4.cell 0
      have y1 := hx4.cell 1
      have y2 := hx4.cell 2
      have y3 := hx4.cell 3
      have y4 := hx4.cell 4
      clear x0 x1 x2 x3 x4 hx4 hm3 hob hH4 hob' ho4 hup hF5 ho5 hb5
      go_wp2
      go_roundg (gk - 1)
      case rel =>
        refine ⟨i + 1, T ++ [DocT.mk ((i : Int) + 1) (docL l) [.int .i64 q0, .int .i64 q1, .string q2, .slice q3 q4 q5, .slice q6 q7 q8]], ob', by omega, by push_cast; rfl, by push_cast; exact HU.out.1, ?_, HU.out.2⟩
        rw [List.map_append, HS.out.2.1, List.take_succ_eq_append_getElem hil, recs_append, HD.out.2.1, List.length_take, Nat.min_eq_left (by omega)]
        show _ ++ [((i : Int) + 1, docL l)] = _
        rw [Int.add_comm]
      case measure => omega
    · have hiz : ¬ (i : Int) < (m : Int) := by omega
      have him : i = m := by omega
      have hTi : T.length = i := by rcases hTl with h | h <;> omega
      have hTm : T.map prT = recs (L.take 30) 1 := by
        rw [HS.out.2.1]
        congr 1
        have h1 := H0.out.2.2.1
        have h2 := H0.out.2.2.2.1
        rw [him, ← h2, ← h1]
        by_cases h : L.length ≤ 30
        · rw [Nat.min_eq_left h, List.take_of_length_le (Nat.le_refl _), List.take_of_length_le h]
        · rw [Nat.min_eq_right (by omega)]
      have HR := Lib.hid (And.intro HS.out.1 (And.intro hTm (And.intro HS.out.2.2 hTi)))
      clear hTm him hTi hTl
      go_wp2
      go_ret2
      exact ⟨rfl, T, ⟨ob, by rw [HR.out.2.2.2]; exact HR.out.1⟩, HR.out.2.1, by rw [← H0.out.2.2.2.2.2.2]; exact HR.out.2.2.1⟩
end Go.Proofs.YtecnjifincahaaaGreatDoor
