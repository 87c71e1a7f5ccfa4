/- index.Of: all that stands in an index of records. -/
import Derived.Test.YtecnjifincahaaaGreatDoorIzD
namespace Go.Proofs.YtecnjifincahaaaGreatDoor
open Go.Shelf Go.RowKit Go.Lib

def docCells (T : List DocT) (i : Nat) : List Value := match T[i]? with
  | some t => .int .i64 t.id :: t.c
  | none => [.int .i64 0, .int .i64 0, .int .i64 0, .string ⟨#[]⟩, .slice none 0 0, .slice none 0 0]
theorem next_val {T : List DocT} {g : Int} {e : Ending} {m : Nat} (h : NextR T g e) (hm : m ≤ T.length) (h1 : ∀ i (h : i < T.length), i < m → T[i].id ≤ g) (h2 : ∀ i (h : i < T.length), m ≤ i → g < T[i].id) :
    e = .returned (.tuple #[.agg (docCells T m).toArray, .bool (decide (m < T.length))]) := by
  obtain ⟨k, a1, a2, a3, a4⟩ := h
  have hkm : k = m := by
    rcases Nat.lt_trichotomy k m with h | h | h
    · have := a3 k (by omega) (Nat.le_refl _)
      have := h1 k (by omega) h
      omega
    · exact h
    · have := a2 m (by omega) h
      have := h2 m (by omega) (Nat.le_refl _)
      omega
  subst hkm
  unfold docCells
  rcases a4 with ⟨h, rfl⟩ | ⟨h, rfl⟩
  · rw [List.getElem?_eq_getElem h]; simp [h]
  · rw [List.getElem?_eq_none (by omega)]; simp [h]
theorem docCells_shape {T : List DocT} (h : ∀ t ∈ T, ∃ q0 q1 q2 q3 q4 q5 q6 q7 q8, t.c = [.int .i64 q0, .int .i64 q1, .string q2, .slice q3 q4 q5, .slice q6 q7 q8]) (m : Nat) : ∃ pi p0 p1 p2 p3 p4 p5 p6 p7 p8, docCells T m = [.int .i64 pi, .int .i64 p0, .int .i64 p1, .string p2, .slice p3 p4 p5, .slice p6 p7 p8] := by
  unfold docCells
  cases hq : T[m]? with
  | none => exact ⟨_, _, _, _, _, _, _, _, _, _, rfl⟩
  | some t =>
    obtain ⟨q0, q1, q2, q3, q4, q5, q6, q7, q8, hc⟩ := h t (List.mem_of_getElem? hq)
    exact ⟨t.id, q0, q1, q2, q3, q4, q5, q6, q7, q8, by show _ :: t.c = _; rw [hc]⟩
def entOf (k : Nat) (t : DocT) : Option Ent := (findP placeK t.v (partS k)).map fun x => (keyL x, t.id)
def entsOf (k : Nat) (T : List DocT) : List Ent := T.filterMap (entOf k)
theorem entsOf_take (k : Nat) (T : List DocT) (i : Nat) (h : i < T.length) : entsOf k (T.take (i + 1)) = entsOf k (T.take i) ++ (entOf k T[i]).toList := by
  unfold entsOf
  rw [List.take_succ_eq_append_getElem h, List.filterMap_append]
  congr 1
theorem entsOf_len (k : Nat) (T : List DocT) : (entsOf k T).length ≤ T.length := List.length_filterMap_le _ _
theorem six_set {w : World} {P : Nat} {e : TypeId} {a0 a1 a2 a3 a4 a5 b0 b1 b2 b3 b4 b5 : Value} (h : Blk w P e [a0, a1, a2, a3, a4, a5]) {W : World}
    (hW : ((((((w.setCell ⟨P, 0, none⟩ b0).setCell ⟨P, 1, none⟩ b1).setCell ⟨P, 2, none⟩ b2).setCell ⟨P, 3, none⟩ b3).setCell ⟨P, 4, none⟩ b4).setCell ⟨P, 5, none⟩ b5) = W) : Blk W P e [b0, b1, b2, b3, b4, b5] ∧ Only (fun x => x = P) w W := by
  subst hW
  exact ⟨(((((h.set 0 b0).set 1 b1).set 2 b2).set 3 b3).set 4 b4).set 5 b5, (((((Only.set1 w P 0 _).trans (Only.set1 _ P 1 _)).trans (Only.set1 _ P 2 _)).trans (Only.set1 _ P 3 _)).trans (Only.set1 _ P 4 _)).trans (Only.set1 _ P 5 _)⟩
/-- an index's walk, at the record i. -/
structure OfAt (w wr : World) (P0 B bh k : Nat) (T : List DocT) (last : Int) (spec : List Value) (ov : Value) (i : Nat) : Prop where
  below : Below w.heap.size w wr
  spec : Blk wr P0 23 spec
  box : Blk wr B 90 (docCells T i)
  own : wr.ownsRow (P0 + 1) 53 2 ov (entsOf k (T.take i)).length (entsC (entsOf k (T.take i)))
  ne : ov.ownBlock ≠ some B
  lt : P0 < B
set_option maxHeartbeats 8000000 in
set_option maxRecDepth 100000 in
theorem iof_any (N : ByteArray) (u : Bool) (k : Nat) (hk : k < 5) (w : World) (bh : Nat) (T : List DocT) (last : Int) (S : Nat → Prop) (hH : HRead w bh T last) (hpos : ∀ t ∈ T, 0 < t.id) (hv : ∀ t ∈ T, VAt S w t.v t.c) (hS : ∀ b, S b → b < w.heap.size)
    (hsm : ∀ t ∈ T, smallV t.v ∧ (keyL t.v).length ≤ 1000000) (hI : IxW w) :
    Calls Tryz.prog 21 #[.agg #[.string N, .string (BA (pathS k)), .bool u], .pointer (some ⟨bh, 0, none⟩)] w fun e w' => ∃ v, e = .returned v ∧ ERead w'.heap.size w' v (sortE (entsOf k T)) ∧ Below w.heap.size w w' := by
  obtain ⟨P0, hP0⟩ : ∃ P, w.heap.size = P := ⟨_, rfl⟩
  obtain ⟨W0, hW0⟩ : ∃ W, w.alloc (.cells #[.string N, .string (BA (pathS k)), .bool u] 23) = W := ⟨_, rfl⟩
  have hb0 : Below w.heap.size w W0 := by rw [← hW0]; exact (Below.refl _ w).alloc (Nat.le_refl _) _
  have hk0 : Blk W0 P0 23 [.string N, .string (BA (pathS k)), .bool u] := by rw [← hW0, ← hP0]; exact heap_alloc_new w _
  have hnx := next_rec W0 bh T last 0 (hH.later hb0)
  obtain ⟨n, hn⟩ : ∃ n, T.length = n := ⟨_, rfl⟩
  have hn1000 : n ≤ 1000 := by rw [← hn]; exact hH.few
  have hcall : ∀ W c (i : Nat) (h : i < T.length), Below w.heap.size w W → T[i].c = c → Calls Tryz.prog 13 #[.agg #[.string N, .string (BA (pathS k)), .bool u], .agg c.toArray] W fun e w' => e = .returned (OptK (findP placeK T[i].v (partS k))) ∧ Below W.heap.size W w' := fun W c i h hb hc => by
    have ht := List.getElem_mem h
    rw [← hc]
    exact ikey_any N u (pathS k) (partS k) (path_five k hk) T[i].v (hsm _ ht).1 S W _ ((hv _ ht).later hb) (fun b hb2 => Nat.lt_of_lt_of_le (hS b hb2) hb.size) (hI.errv.later hb) (hI.tabs.below hb) (hI.ml.later hb) (fun x hx => by have := find_key hx; have := (hsm _ ht).2; omega)
  have hnext : ∀ W (i : Nat) (h : i < T.length), Below w.heap.size w W → Calls Tryz.prog 46 #[.pointer (some ⟨bh, 0, none⟩), .int .i64 T[i].id] W fun e w' => e = .returned (.tuple #[.agg (docCells T (i + 1)).toArray, .bool (decide (i + 1 < n))]) ∧ Below W.heap.size W w' := fun W i h hb => by
    rw [← hn]
    refine (next_rec W bh T last _ (hH.later hb)).mono ?_
    rintro e w' ⟨hr, hb2⟩
    refine ⟨next_val hr (by omega) (fun j hj hji => ?_) (fun j hj hji => hH.rising i j h hj (by omega)), hb2⟩
    by_cases e : j = i
    · subst e; exact Int.le_refl _
    · exact Int.le_of_lt (hH.rising j i hj h (by omega))
  have hfirst : ∀ e, NextR T 0 e → e = .returned (.tuple #[.agg (docCells T 0).toArray, .bool (decide (0 < T.length))]) := fun e hr => next_val hr (by omega) (fun j hj hji => by omega) (fun j hj _ => hpos _ (List.getElem_mem hj))
  obtain ⟨PS, hPS⟩ : ∃ s, BA (pathS k) = s := ⟨_, rfl⟩
  rw [hPS] at hk0 hW0 ⊢
  rw [hPS] at hcall
  rw [hn] at hfirst
  have H0 := Lib.hid (And.intro hW0 (And.intro hP0 (And.intro hb0 (And.intro hk0 (And.intro hnx (And.intro hn (And.intro hcall (And.intro hnext (And.intro hfirst (And.intro hH.five hn1000))))))))))
  clear hW0 hP0 hb0 hk0 hnx hcall hnext hfirst hPS hv hS hsm hI hpos
  go_enter Tryz.func21, Tryz.ntmps21
  go_wp2_with fail
  rw [H0.out.1, H0.out.2.1]
  refine (show Calls _ _ _ _ _ from H0.out.2.2.2.2.1).mono ?_
  rintro e w1 ⟨hr, hb1⟩
  have he := H0.out.2.2.2.2.2.2.2.2.1 e hr
  subst he
  obtain ⟨pi, p0, p1, p2, p3, p4, p5, p6, p7, p8, hdc⟩ := docCells_shape H0.out.2.2.2.2.2.2.2.2.2.1 0
  rw [hdc]
  obtain ⟨w2, hw2⟩ : ∃ W, w1.alloc (.cells #[.int .i64 pi, .int .i64 p0, .int .i64 p1, .string p2, .slice p3 p4 p5, .slice p6 p7 p8] 90) = W := ⟨_, rfl⟩
  have hb12 : Below w1.heap.size w1 w2 := by rw [← hw2]; exact (Below.refl _ _).alloc (Nat.le_refl _) _
  have hst : OfAt w w2 P0 w1.heap.size bh k T last [.string N, .string PS, .bool u] (.slice none 0 0) 0 := by
    have hb01 := H0.out.2.2.1.trans (hb1.mono H0.out.2.2.1.size)
    refine ⟨hb01.trans (hb12.mono hb01.size), (H0.out.2.2.2.1.below hb1).below hb12, ?_, ?_, by simp [Value.ownBlock], ?_⟩
    · rw [hdc, ← hw2]; exact heap_alloc_new w1 _
    · exact World.ownsRow_nil _ _ _ _
    · have := H0.out.2.2.2.1.lt; have := hb1.size; omega
  have HST := Lib.hid (And.intro hst hw2)
  clear hst hw2 hb12 hb1 hr hdc hH
  go_wp2_with fail
  (try rw [HST.out.2])
  go_loopg [5, 6, 7] n (fun gk ov pv bv wr => ∃ (i B : Nat), gk + i = n ∧ pv = .pointer (some ⟨B, 0, none⟩) ∧ bv = .bool (decide (i < n)) ∧ OfAt w wr P0 B bh k T last [.string N, .string PS, .bool u] ov i)
  case atStart => exact ⟨0, w1.heap.size, by omega, rfl, rfl, HST.out.1⟩
  case round =>
    obtain ⟨i, B, hgi, rfl, rfl, hat⟩ := hrel
    have HA := Lib.hid hat
    clear hat
    have hnn := H0.out.2.2.2.2.2.1
    by_cases hi : i < n
    · rw [show decide (i < n) = true from decide_eq_true hi]
      have hil : i < T.length := by omega
      obtain ⟨t, ht⟩ : ∃ t, T[i] = t := ⟨_, rfl⟩
      obtain ⟨q0, q1, q2, q3, q4, q5, q6, q7, q8, hq⟩ := H0.out.2.2.2.2.2.2.2.2.2.1 t (by rw [← ht]; exact List.getElem_mem hil)
      have hdi : docCells T i = [.int .i64 t.id, .int .i64 q0, .int .i64 q1, .string q2, .slice q3 q4 q5, .slice q6 q7 q8] := by unfold docCells; rw [List.getElem?_eq_getElem hil, ht]; show _ :: t.c = _; rw [hq]
      have hbx := HA.out.box
      rw [hdi] at hbx
      have c0 := HA.out.spec.cell 0
      have c1 := HA.out.spec.cell 1
      have c2 := HA.out.spec.cell 2
      have x0 := hbx.cell 0
      have x1 := hbx.cell 1
      have x2 := hbx.cell 2
      have x3 := hbx.cell 3
      have x4 := hbx.cell 4
      have x5 := hbx.cell 5
      have hcall := H0.out.2.2.2.2.2.2.1 wr [.int .i64 q0, .int .i64 q1, .string q2, .slice q3 q4 q5, .slice q6 q7 q8] i hil HA.out.below (by rw [ht, hq])
      rw [ht] at hcall
      have hnext := fun W hb => H0.out.2.2.2.2.2.2.2.1 W i hil hb
      rw [ht] at hnext
      obtain ⟨id, hid⟩ : ∃ x, t.id = x := ⟨_, rfl⟩
      rw [hid] at x0 hnext hbx
      have HT := Lib.hid (And.intro hcall (And.intro hnext (And.intro ht (And.intro hid hbx))))
      clear hcall hnext ht hid hq hdi hbx
      go_wp2_with fail
      refine (show Calls _ _ _ _ _ from HT.out.1).mono ?_
      rintro e w3 ⟨rfl, hb3⟩
      have H3 := Lib.hid (And.intro (HA.out.below.trans (hb3.mono HA.out.below.size)) (And.intro (HA.out.spec.below hb3) (And.intro (HT.out.2.2.2.2.below hb3) (And.intro (own_below HA.out.own hb3) hb3.size))))
      clear hb3 c0 c1 c2 x0 x1 x2 x3 x4 x5
      cases hr : findP placeK t.v (partS k) with
      | none =>
        have hen : entsOf k (T.take (i + 1)) = entsOf k (T.take i) := by rw [entsOf_take k T i hil, HT.out.2.2.1]; unfold entOf; rw [hr]; simp
        have HW := Lib.hid (And.intro H3.out.1 (And.intro H3.out.2.1 (And.intro H3.out.2.2.1 (And.intro H3.out.2.2.2.1 HA.out.ne))))
        unfold OptK
        have y0 := HW.out.2.2.1.cell 0
        have y1 := HW.out.2.2.1.cell 1
        have y2 := HW.out.2.2.1.cell 2
        have y3 := HW.out.2.2.1.cell 3
        have y4 := HW.out.2.2.1.cell 4
        have y5 := HW.out.2.2.1.cell 5
        obtain ⟨B2, hB2⟩ : ∃ b, w3.heap.size = b := ⟨_, rfl⟩
        obtain ⟨w6, hw6⟩ : ∃ x, w3.alloc (.cells #[.int .i64 id, .int .i64 q0, .int .i64 q1, .string q2, .slice q3 q4 q5, .slice q6 q7 q8] 90) = x := ⟨_, rfl⟩
        have hb6 : Below w3.heap.size w3 w6 := by rw [← hw6]; exact (Below.refl _ _).alloc (Nat.le_refl _) _
        have hk6 : Blk w6 w3.heap.size 90 [.int .i64 id, .int .i64 q0, .int .i64 q1, .string q2, .slice q3 q4 q5, .slice q6 q7 q8] := by rw [← hw6]; exact heap_alloc_new w3 _
        have hbw6 := HW.out.1.trans (hb6.mono HW.out.1.size)
        have H6 := Lib.hid (And.intro hbw6 (And.intro (HW.out.2.1.below hb6) (And.intro hk6 (And.intro (own_below HW.out.2.2.2.1 hb6) (And.intro hB2 hw6)))))
        have z0 := hk6.cell 0
        clear hb6 hk6 hbw6 hB2
        go_wp2_with fail
        refine (show Calls _ _ _ _ _ from HT.out.2.1 w6 H6.out.1).mono ?_
        rintro e w7 ⟨rfl, hb7⟩
        obtain ⟨pi, p0, p1, p2, p3, p4, p5, p6, p7, p8, hdc⟩ := docCells_shape H0.out.2.2.2.2.2.2.2.2.2.1 (i + 1)
        rw [hdc]
        have hk7 := H6.out.2.2.1.below hb7
        have s0 := hk7.frozen 0
        have s1 := hk7.frozen 1
        have s2 := hk7.frozen 2
        have s3 := hk7.frozen 3
        have s4 := hk7.frozen 4
        have s5 := hk7.frozen 5
        have r0 := hk7.cell 0
        have r1 := hk7.cell 1
        have r2 := hk7.cell 2
        have r3 := hk7.cell 3
        have r4 := hk7.cell 4
        have r5 := hk7.cell 5
        obtain ⟨w8, hw8⟩ : ∃ x, ((((((w7.setCell ⟨w3.heap.size, 0, none⟩ (.int .i64 pi)).setCell ⟨w3.heap.size, 1, none⟩ (.int .i64 p0)).setCell ⟨w3.heap.size, 2, none⟩ (.int .i64 p1)).setCell ⟨w3.heap.size, 3, none⟩ (.string p2)).setCell ⟨w3.heap.size, 4, none⟩ (.slice p3 p4 p5)).setCell ⟨w3.heap.size, 5, none⟩ (.slice p6 p7 p8)) = x := ⟨_, rfl⟩
        obtain ⟨hk8, ho8⟩ := six_set hk7 hw8
        have hbw7 := H6.out.1.trans (hb7.mono H6.out.1.size)
        have hPW : P0 < w3.heap.size := HW.out.2.1.lt
        have hlt8 : ∀ b, (u5).ownBlock = some b → b < w3.heap.size := fun b hb => (HW.out.2.2.2.1.lt b hb).2
        have hat : OfAt w w8 P0 w3.heap.size bh k T last [.string N, .string PS, .bool u] u5 (i + 1) := by
          refine ⟨hbw7.trans (ho8.below hbw7.size (fun b hb e => by have := HW.out.1.size; omega)), ((H6.out.2.1.below hb7).only ho8 (fun e => by omega)), by rw [hdc]; exact hk8, ?_, fun e => by have := hlt8 _ e; omega, hPW⟩
          rw [hen]
          exact own_only (own_below H6.out.2.2.2.1 hb7) ho8 (fun b hb e => by have := hlt8 b hb; omega)
        have HAT := Lib.hid (And.intro hat hw8)
        clear hk7 hw8 hk8 ho8 hbw7 hPW hlt8 hat hb7 hdc y0 y1 y2 y3 y4 y5 z0
        go_wp2
        rw [HAT.out.2]
        clear s0 s1 s2 s3 s4 s5 r0 r1 r2 r3 r4 r5
        go_roundg (gk - 1)
        case rel => exact ⟨i + 1, w3.heap.size, by omega, rfl, rfl, HAT.out.1⟩
        case measure => omega
      | some xv =>
        have hen : entsOf k (T.take (i + 1)) = entsOf k (T.take i) ++ [(keyL xv, id)] := by rw [entsOf_take k T i hil, HT.out.2.2.1]; unfold entOf; rw [hr, HT.out.2.2.2.1]; simp
        obtain ⟨v4, w4, hrun, ho4, hg4, hat4⟩ := ent_append H3.out.2.2.2.1 (BA (keyL xv)) id (keyL xv, id) rfl (by have := entsOf_len k (T.take i); rw [List.length_take] at this; omega) (by have := H3.out.2.1.lt; omega)
        have hon : Only (fun b => u5.ownBlock = some b) w3 w4 := (Only.alloc _ w3 _).trans (Only.ofGrown hg4 (fun b hb => hb))
        have hlo : ∀ b, u5.ownBlock = some b → P0 + 1 ≤ b := fun b hb => (HA.out.own.lt b hb).1
        have HW := Lib.hid (And.intro (H3.out.1.trans (hon.below H3.out.1.size (fun b hb e => by have := hlo b e; have := H0.out.2.1; omega))) (And.intro (H3.out.2.1.only hon (fun e => by have := hlo _ e; omega)) (And.intro (H3.out.2.2.1.only hon (fun e => HA.out.ne e)) (And.intro ho4 hrun))))
        have b0 := H3.out.2.2.1.cell 0
        clear hrun ho4 hg4 hat4 hon hlo
        unfold OptK
        have y0 := HW.out.2.2.1.cell 0
        have y1 := HW.out.2.2.1.cell 1
        have y2 := HW.out.2.2.1.cell 2
        have y3 := HW.out.2.2.1.cell 3
        have y4 := HW.out.2.2.1.cell 4
        have y5 := HW.out.2.2.1.cell 5
        obtain ⟨B2, hB2⟩ : ∃ b, w4.heap.size = b := ⟨_, rfl⟩
        obtain ⟨w6, hw6⟩ : ∃ x, w4.alloc (.cells #[.int .i64 id, .int .i64 q0, .int .i64 q1, .string q2, .slice q3 q4 q5, .slice q6 q7 q8] 90) = x := ⟨_, rfl⟩
        have hb6 : Below w4.heap.size w4 w6 := by rw [← hw6]; exact (Below.refl _ _).alloc (Nat.le_refl _) _
        have hk6 : Blk w6 w4.heap.size 90 [.int .i64 id, .int .i64 q0, .int .i64 q1, .string q2, .slice q3 q4 q5, .slice q6 q7 q8] := by rw [← hw6]; exact heap_alloc_new w4 _
        have hbw6 := HW.out.1.trans (hb6.mono HW.out.1.size)
        have H6 := Lib.hid (And.intro hbw6 (And.intro (HW.out.2.1.below hb6) (And.intro hk6 (And.intro (own_below HW.out.2.2.2.1 hb6) (And.intro hB2 hw6)))))
        have z0 := hk6.cell 0
        clear hb6 hk6 hbw6 hB2
        go_wp2_with (at_builtin; refine wpList_append_run rfl (.tmp 31) (.tmp 36) 46 rfl u5 (.slice (some ⟨w3.heap.size, 0, none⟩) 1 1) rfl rfl v4 w4 HW.out.2.2.2.2 ?_)
        refine (show Calls _ _ _ _ _ from HT.out.2.1 w6 H6.out.1).mono ?_
        rintro e w7 ⟨rfl, hb7⟩
        obtain ⟨pi, p0, p1, p2, p3, p4, p5, p6, p7, p8, hdc⟩ := docCells_shape H0.out.2.2.2.2.2.2.2.2.2.1 (i + 1)
        rw [hdc]
        have hk7 := H6.out.2.2.1.below hb7
        have s0 := hk7.frozen 0
        have s1 := hk7.frozen 1
        have s2 := hk7.frozen 2
        have s3 := hk7.frozen 3
        have s4 := hk7.frozen 4
        have s5 := hk7.frozen 5
        have r0 := hk7.cell 0
        have r1 := hk7.cell 1
        have r2 := hk7.cell 2
        have r3 := hk7.cell 3
        have r4 := hk7.cell 4
        have r5 := hk7.cell 5
        obtain ⟨w8, hw8⟩ : ∃ x, ((((((w7.setCell ⟨w4.heap.size, 0, none⟩ (.int .i64 pi)).setCell ⟨w4.heap.size, 1, none⟩ (.int .i64 p0)).setCell ⟨w4.heap.size, 2, none⟩ (.int .i64 p1)).setCell ⟨w4.heap.size, 3, none⟩ (.string p2)).setCell ⟨w4.heap.size, 4, none⟩ (.slice p3 p4 p5)).setCell ⟨w4.heap.size, 5, none⟩ (.slice p6 p7 p8)) = x := ⟨_, rfl⟩
        obtain ⟨hk8, ho8⟩ := six_set hk7 hw8
        have hbw7 := H6.out.1.trans (hb7.mono H6.out.1.size)
        have hPW : P0 < w4.heap.size := HW.out.2.1.lt
        have hlt8 : ∀ b, (v4).ownBlock = some b → b < w4.heap.size := fun b hb => (HW.out.2.2.2.1.lt b hb).2
        have hat : OfAt w w8 P0 w4.heap.size bh k T last [.string N, .string PS, .bool u] v4 (i + 1) := by
          refine ⟨hbw7.trans (ho8.below hbw7.size (fun b hb e => by have := HW.out.1.size; omega)), ((H6.out.2.1.below hb7).only ho8 (fun e => by omega)), by rw [hdc]; exact hk8, ?_, fun e => by have := hlt8 _ e; omega, hPW⟩
          rw [hen]
          exact own_only (own_below H6.out.2.2.2.1 hb7) ho8 (fun b hb e => by have := hlt8 b hb; omega)
        have HAT := Lib.hid (And.intro hat hw8)
        clear hk7 hw8 hk8 ho8 hbw7 hPW hlt8 hat hb7 hdc y0 y1 y2 y3 y4 y5 z0
        go_wp2
        rw [HAT.out.2]
        clear s0 s1 s2 s3 s4 s5 r0 r1 r2 r3 r4 r5
        go_roundg (gk - 1)
        case rel => exact ⟨i + 1, w4.heap.size, by omega, rfl, rfl, HAT.out.1⟩
        case measure => omega
    · rw [show decide (i < n) = false from decide_eq_false hi]
      have hin : i = n := by omega
      have hown : wr.ownsRow (P0 + 1) 53 2 u5 (entsOf k T).length (entsC (entsOf k T)) := by
        have h := HA.out.own
        rw [List.take_of_length_le (by omega)] at h
        exact h
      have hsort := sort_ents (P0 + 1) u5 (entsOf k T) wr hown (by have := entsOf_len k T; omega)
      have HS := Lib.hid (And.intro hsort hown)
      clear hsort hown
      go_wp2_with fail
      refine (show Calls _ _ _ _ _ from HS.out.1).mono ?_
      rintro e w4 ⟨rfl, her, ho⟩
      have HR := Lib.hid (And.intro her (HA.out.below.trans (ho.below HA.out.below.size (fun b hb e => by have := (HS.out.2.lt b e).1; have := H0.out.2.1; omega))))
      clear her ho
      go_wp2
      go_ret
      exact ⟨_, rfl, HR.out.1, HR.out.2⟩
end Go.Proofs.YtecnjifincahaaaGreatDoor
