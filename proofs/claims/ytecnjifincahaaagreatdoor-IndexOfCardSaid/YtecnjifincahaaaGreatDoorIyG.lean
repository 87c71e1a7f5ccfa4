/- The law's Of: the entries of records by their numbers, in whatever order the map is ranged over. -/
import Derived.Test.YtecnjifincahaaaGreatDoorIyF
namespace Go.Proofs.YtecnjifincahaaaGreatDoor
open Go.Shelf Go.RowKit Go.Lib

theorem sub_len {r L : List Int} (hn : r.Nodup) (h : ∀ k ∈ r, k ∈ L) : r.length ≤ L.length := by
  induction r generalizing L with
  | nil => simp
  | cons a r ih =>
    rw [List.nodup_cons] at hn
    have ha := h a (List.mem_cons_self ..)
    have h1 := ih (L := L.erase a) hn.2 fun k hk => (List.mem_erase_of_ne (fun e => hn.1 (by rw [← e]; exact hk))).2 (h k (List.mem_cons_of_mem _ hk))
    rw [List.length_erase_of_mem ha] at h1
    have := List.length_pos_of_mem ha
    simp; omega
/-- a record's entry put among others. -/
def ofStep (k : Nat) (l : List Ent) (t : DocT) : List Ent := match findP placeK t.v (partS k) with
  | none => l
  | some x => withL l (keyL x, t.id) true
def ofL10 (k : Nat) (P : List DocT) : List Ent := P.foldl (ofStep k) []
theorem ofL10_push (k : Nat) (P : List DocT) (t : DocT) : ofL10 k (P ++ [t]) = ofStep k (ofL10 k P) t := by unfold ofL10; rw [List.foldl_append]; rfl
theorem withL_len (l : List Ent) (e : Ent) (inn : Bool) : (withL l e inn).length ≤ l.length + 2 := by
  have h := withSt_len e inn l
  unfold withL
  split
  · rw [List.length_append, List.length_singleton]; omega
  · omega
theorem ofL10_len (k : Nat) (P : List DocT) : (ofL10 k P).length ≤ 2 * P.length := by
  have h : ∀ (P : List DocT) (l : List Ent), (P.foldl (ofStep k) l).length ≤ l.length + 2 * P.length := by
    intro P
    induction P with
    | nil => intro l; simp
    | cons t P ih =>
      intro l
      rw [List.foldl_cons, List.length_cons]
      have h1 := ih (ofStep k l t)
      have h2 : (ofStep k l t).length ≤ l.length + 2 := by
        unfold ofStep
        split
        · omega
        · exact withL_len _ _ _
      omega
  have h1 := h P []
  unfold ofL10
  simpa using h1
/-- some of T's records, each once; left: the others. -/
structure Got (T P : List DocT) (left : Int → Bool) : Prop where
  nd : (P.map (·.id)).Nodup
  sub : ∀ t ∈ P, t ∈ T
  left : ∀ id, left id = true ↔ (∃ t ∈ T, t.id = id) ∧ ∀ t ∈ P, t.id ≠ id
theorem Got.len {T P : List DocT} {left : Int → Bool} (h : Got T P left) : P.length ≤ T.length := by
  have h1 := sub_len h.nd (L := T.map (·.id)) (fun k hk => by
    obtain ⟨t, ht, rfl⟩ := List.mem_map.1 hk
    exact List.mem_map_of_mem (h.sub t ht))
  simpa using h1
theorem Got.push {T P : List DocT} {left : Int → Bool} (h : Got T P left) {t : DocT} (ht : t ∈ T) (hl : left t.id = true) : Got T (P ++ [t]) (fun x => left x && !decide (x = t.id)) := by
  have h2 := ((h.left t.id).1 hl).2
  refine ⟨?_, fun x hx => ?_, fun id => ?_⟩
  · rw [List.map_append, List.nodup_append]
    refine ⟨h.nd, by simp, fun x hx y hy e => ?_⟩
    obtain ⟨z, hz, rfl⟩ := List.mem_map.1 hx
    simp at hy
    exact h2 z hz (e.trans hy)
  · rcases List.mem_append.1 hx with h3 | h3
    · exact h.sub x h3
    · rw [List.mem_singleton] at h3; rw [h3]; exact ht
  · rw [Bool.and_eq_true, h.left id, Bool.not_eq_true', decide_eq_false_iff_not]
    constructor
    · rintro ⟨⟨h3, h4⟩, h5⟩
      refine ⟨h3, fun x hx => ?_⟩
      rcases List.mem_append.1 hx with h6 | h6
      · exact h4 x h6
      · rw [List.mem_singleton] at h6; rw [h6]; exact fun e => h5 e.symm
    · rintro ⟨h3, h4⟩
      exact ⟨⟨h3, fun x hx => h4 x (List.mem_append_left _ hx)⟩, fun e => h4 t (List.mem_append_right _ (List.mem_singleton.2 rfl)) e.symm⟩
/-- all of T's records, each once, in some order. -/
def AllOf (T P : List DocT) : Prop := (P.map (·.id)).Nodup ∧ (∀ t ∈ P, t ∈ T) ∧ ∀ t ∈ T, ∃ s ∈ P, s.id = t.id
theorem lookC_mem {T : List DocT} {id : Int} {v : Value} (h : lookC T id = some v) : ∃ t ∈ T, t.id = id ∧ v = .agg t.c.toArray := by
  unfold lookC at h
  obtain ⟨t, ht, rfl⟩ := Option.map_eq_some_iff.1 h
  have h1 := List.find?_some ht
  exact ⟨t, List.mem_of_find?_eq_some ht, by simpa using h1, rfl⟩
theorem lookC_some {T : List DocT} {id : Int} : (lookC T id).isSome = true ↔ ∃ t ∈ T, t.id = id := by
  unfold lookC
  rw [Option.isSome_map, List.find?_isSome]
  simp

theorem eread_iter {n bm r0 : Nat} {w w1 : World} {m : Int → Option Value} {left : Int → Bool} {cnt : Nat} {v : Value} {l : List Ent} (h : ERead n w v l) (hr : RgS i64V w bm r0 m left cnt) (ho : Only (fun x => x = r0) w w1) : ERead n w1 v l := by
  obtain ⟨a, cap, rfl, hc, h⟩ := h
  refine ⟨a, cap, rfl, hc, fun hl => ?_⟩
  obtain ⟨b, off, rfl, hbn, hx⟩ := h hl
  have hb : ¬ b = r0 := fun e => by
    subst e
    obtain ⟨es, clock, ks, since, seen, c0, _, _, _, _, _, h6, _⟩ := hr
    have := (hx 0 hl).1
    simp [World.cell?, h6] at this
  exact ⟨b, off, rfl, hbn, fun i hi => ⟨ho.cell hb (hx i hi).1, ho.cell hb (hx i hi).2⟩⟩
set_option maxHeartbeats 8000000 in
set_option maxRecDepth 100000 in
theorem lof_any (N : ByteArray) (u : Bool) (k : Nat) (hk : k < 5) (w : World) (bm : Nat) (T : List DocT) (S : Nat → Prop) (hM : MapS i64V w bm (lookC T)) (hv : ∀ t ∈ T, VAt S w t.v t.c) (hS : ∀ b, S b → b < w.heap.size)
    (hsm : ∀ t ∈ T, smallV t.v ∧ (keyL t.v).length ≤ 1000000) (hT : T.length ≤ 1000) (hML : ML w) :
    Calls Tryz.prog 19 #[.agg #[.string N, .string (BA (pathS k)), .bool u], .map (some bm)] w fun e w' => ∃ v P, e = .returned v ∧ ERead w'.heap.size w' v (ofL10 k P) ∧ AllOf T P ∧ Below w.heap.size w w' := by
  obtain ⟨P0, hP0⟩ : ∃ P, w.heap.size = P := ⟨_, rfl⟩
  obtain ⟨W0, hW0⟩ : ∃ W, w.alloc (.cells #[.string N, .string (BA (pathS k)), .bool u] 23) = W := ⟨_, rfl⟩
  have hb0 : Below w.heap.size w W0 := by rw [← hW0]; exact (Below.refl _ w).alloc (Nat.le_refl _) _
  have hk0 : Blk W0 P0 23 [.string N, .string (BA (pathS k)), .bool u] := by rw [← hW0, ← hP0]; exact heap_alloc_new w _
  have hM0 := hM.only (Only.ofBelow hb0 (fun _ => False)) (fun h => h)
  have hbm := hM.lt
  obtain ⟨w1, cnt0, hrange, hrg0, hb1, hs1⟩ := hM0.range keyI64 Tryz.underlying48
  obtain ⟨r0, hr0⟩ : ∃ r0, W0.heap.size = r0 := ⟨_, rfl⟩
  have hs0 : r0 = P0 + 1 := by rw [← hr0, ← hW0, ← hP0]; simp
  rw [hr0] at hrange hrg0
  have hrange2 : (Instr.range 48 (.map (some bm))).run Tryz.prog (w.alloc (.cells #[.string N, .string (BA (pathS k)), .bool u] 23)) = .ok (.pointer (some ⟨r0, 0, none⟩)) w1 := by rw [hW0]; exact hrange
  have hb01 := hb0.trans (hb1.mono hb0.size)
  have H0 := Lib.hid (And.intro hP0 (And.intro hs0 (And.intro hv (And.intro hS (And.intro hsm (And.intro hT (And.intro hML (And.intro hbm hb01))))))))
  have HS0 := Lib.hid (And.intro hrg0 (And.intro (hk0.below hb1) hb01))
  have hst : Got T [] (fun k => (lookC T k).isSome) := ⟨by simp, by simp, fun id => by rw [lookC_some]; simp⟩
  obtain ⟨PS, hPS⟩ : ∃ s, BA (pathS k) = s := ⟨_, rfl⟩
  have HP := Lib.hid hPS
  rw [hPS] at HS0 hrange2 ⊢
  clear hW0 hb0 hk0 hM0 hbm hrange hrg0 hb1 hs1 hr0 hs0 hb01 hP0 hv hS hsm hT hML hM hPS
  go_enter Tryz.func19, Tryz.ntmps19
  go_wp2_with fail
  rw [H0.out.1]
  clear hrange2
  go_loopg [5] cnt0 (fun gk ov wr => ∃ (P : List DocT) (left : Int → Bool), Got T P left ∧ RgS i64V wr bm r0 (lookC T) left gk ∧ ERead wr.heap.size wr ov (ofL10 k P) ∧ Below w.heap.size w wr ∧ Blk wr P0 23 [.string N, .string PS, .bool u])
  case atStart => exact ⟨[], _, hst, HS0.out.1, ERead.nil _ _, HS0.out.2.2, HS0.out.2.1⟩
  case round =>
    obtain ⟨P, left, hgot, hrg, her, hbw, hkr⟩ := hrel
    have HD := Lib.hid (And.intro hgot (And.intro hrg (And.intro her (And.intro hbw hkr))))
    clear hgot hrg her hbw hkr hst
    have hrb : r0 ≠ bm := by have := H0.out.1; have := H0.out.2.1; have := H0.out.2.2.2.2.2.2.2.1; omega
    rcases HD.out.2.1.next (P := Tryz.prog) i64V_inj hrb 0 with ⟨hl0, hnx⟩ | ⟨id, vx, w1, cnt1, hl, hm, hnx, hrg1, hlt, ho1, hsz1, hen⟩
    · have HL := Lib.hid hl0
      clear hl0
      go_wp2
      go_ret
      exact ⟨_, P, rfl, HD.out.2.2.1, ⟨HD.out.1.nd, HD.out.1.sub, fun t ht => Classical.byContradiction fun hno => by
        have h1 := (HD.out.1.left t.id).2 ⟨⟨t, ht, rfl⟩, fun s hs e => hno ⟨s, hs, e⟩⟩
        rw [HL.out] at h1
        cases h1⟩, HD.out.2.2.2.1⟩
    · obtain ⟨t, ht, rfl, rfl⟩ := lookC_mem hm
      have hvt := H0.out.2.2.1 t ht
      obtain ⟨q0, q1, q2, q3, q4, q5, q6, q7, q8, hcs⟩ := hvt.shape
      rw [hcs] at hnx hen hvt
      have hb1 : Below w.heap.size w w1 := HD.out.2.2.2.1.trans (ho1.below HD.out.2.2.2.1.size (fun k hk e => by have := H0.out.1; have := H0.out.2.1; omega))
      have hk1 : Blk w1 P0 23 [.string N, .string PS, .bool u] := HD.out.2.2.2.2.only ho1 (fun e => by have := H0.out.2.1; omega)
      obtain ⟨w2, hw2⟩ : ∃ W, w1.alloc (.cells #[.int .i64 q0, .int .i64 q1, .string q2, .slice q3 q4 q5, .slice q6 q7 q8] 40) = W := ⟨_, rfl⟩
      have hb12 : Below w1.heap.size w1 w2 := by rw [← hw2]; exact (Below.refl _ _).alloc (Nat.le_refl _) _
      have hb2 := hb1.trans (hb12.mono hb1.size)
      have hk2 := hk1.below hb12
      have hx2 : Blk w2 w1.heap.size 40 [.int .i64 q0, .int .i64 q1, .string q2, .slice q3 q4 q5, .slice q6 q7 q8] := by rw [← hw2]; exact heap_alloc_new w1 _
      have hcall := lkey_any N u k hk t.v (H0.out.2.2.2.2.1 t ht).1 S w2 _ (hvt.later hb2) (fun b hb => Nat.lt_of_lt_of_le (H0.out.2.2.2.1 b hb) hb2.size) (H0.out.2.2.2.2.2.2.1.later hb2) (H0.out.2.2.2.2.1 t ht).2
      rw [HP.out] at hcall
      have HX := Lib.hid (And.intro hl (And.intro hrg1 (And.intro ho1 (And.intro ht (And.intro hlt (And.intro hb12 (And.intro hb2 (And.intro hk2 (And.intro hx2 (And.intro hcall hsz1))))))))))
      have c0 := hk2.cell 0
      have c1 := hk2.cell 1
      have c2 := hk2.cell 2
      have x0 := hx2.cell 0
      have x1 := hx2.cell 1
      have x2 := hx2.cell 2
      have x3 := hx2.cell 3
      have x4 := hx2.cell 4
      simp only [i64V] at hnx hen
      clear hl hrg1 ho1 hlt hb1 hk1 hb12 hb2 hk2 hx2 hcall hvt hsz1 hm ht
      obtain ⟨tid, htid⟩ : ∃ i, t.id = i := ⟨_, rfl⟩
      rw [htid] at hnx hen
      have HT := Lib.hid htid
      clear htid hcs
      go_wp2_with fail
      refine (show Calls _ _ _ _ _ from HX.out.2.2.2.2.2.2.2.2.2.1).mono ?_
      rintro e w3 ⟨rfl, hb3⟩
      have hb13 := HX.out.2.2.2.2.2.1.trans (hb3.mono HX.out.2.2.2.2.2.1.size)
      have hbw3 := HX.out.2.2.2.2.2.2.1.trans (hb3.mono HX.out.2.2.2.2.2.2.1.size)
      have hk3 := HX.out.2.2.2.2.2.2.2.1.below hb3
      have her3 : ERead wr.heap.size w3 u5 (ofL10 k P) := (eread_iter HD.out.2.2.1 HD.out.2.1 HX.out.2.2.1).later (by rw [← HX.out.2.2.2.2.2.2.2.2.2.2]; exact hb13)
      have hsz3 : wr.heap.size ≤ w3.heap.size := by have := hb13.size; rw [HX.out.2.2.2.2.2.2.2.2.2.2] at this; exact this
      have hpush := HD.out.1.push HX.out.2.2.2.1 (by exact HX.out.1)
      have hrg3 := HX.out.2.1.only (Only.ofBelow hb13 (fun _ => False)) (fun h => h) (fun h => h)
      clear c0 c1 c2 x0 x1 x2 x3 x4 hnx hen hb3
      cases hr : findP placeK t.v (partS k) with
      | none =>
        have hof : ofL10 k (P ++ [t]) = ofL10 k P := by rw [ofL10_push]; unfold ofStep; rw [hr]
        have HR := Lib.hid (And.intro hpush (And.intro hrg3 (And.intro (her3.mono hsz3) (And.intro hbw3 (And.intro hk3 hof)))))
        clear hpush hrg3 her3 hsz3 hbw3 hk3 hof hb13 hr
        unfold OptK
        go_wp2
        go_roundg cnt1
        case rel => exact ⟨P ++ [t], _, HR.out.1, by rw [← HT.out] at *; exact HR.out.2.1, by rw [HR.out.2.2.2.2.2]; exact HR.out.2.2.1, HR.out.2.2.2.1, HR.out.2.2.2.2.1⟩
        case measure => exact HX.out.2.2.2.2.1
      | some x =>
        have hlen : (ofL10 k P).length ≤ 100000 := by have := ofL10_len k P; have := HD.out.1.len; have := H0.out.2.2.2.2.2.1; omega
        have hwith := with_any wr.heap.size w3 u5 (ofL10 k P) (keyL x) tid true hsz3 hlen her3
        have hof : ofL10 k (P ++ [t]) = withL (ofL10 k P) (keyL x, tid) true := by rw [ofL10_push]; unfold ofStep; rw [hr, HT.out]
        have HR := Lib.hid (And.intro hpush (And.intro hrg3 (And.intro hwith (And.intro hbw3 (And.intro hk3 hof)))))
        clear hpush hrg3 her3 hsz3 hbw3 hk3 hof hr hwith
        have HB := Lib.hid hb13
        clear hb13
        unfold OptK
        go_wp2_with fail
        refine (show Calls _ _ _ _ _ from HR.out.2.2.1).mono ?_
        rintro e w4 ⟨v4, rfl, her4, hb4⟩
        have HR4 := Lib.hid (And.intro (HR.out.2.1.only (Only.ofBelow hb4 (fun _ => False)) (fun h => h) (fun h => h)) (And.intro her4 (And.intro (HR.out.2.2.2.1.trans (hb4.mono HR.out.2.2.2.1.size)) (HR.out.2.2.2.2.1.below hb4))))
        clear her4 hb4
        go_wp2
        go_roundg cnt1
        case rel => exact ⟨P ++ [t], _, HR.out.1, HR4.out.1, by rw [HR.out.2.2.2.2.2]; exact HR4.out.2.1, HR4.out.2.2.1, HR4.out.2.2.2⟩
        case measure => exact HX.out.2.2.2.2.1
end Go.Proofs.YtecnjifincahaaaGreatDoor
