/- IndexOne's walk. -/
import Derived.Test.YtecnjifincahaaaGreatDoorIzE
namespace Go.Proofs.YtecnjifincahaaaGreatDoor
open Go.Shelf Go.RowKit Go.Lib

theorem zeroVal (w : World) : (zeroValue 40).run Tryz.prog w = .ok (.agg #[.int .i64 0, .int .i64 0, .string ⟨#[]⟩, .slice none 0 0, .slice none 0 0]) w := by kernel_rfl
theorem zeroBool (w : World) : (zeroValue 4).run Tryz.prog w = .ok (.bool false) w := by kernel_rfl
def seenF (l : List Ent) (id : Int) : Option Value := if l.any (fun e => decide (e.2 = id)) then some (.bool true) else none
theorem seenF_push (l : List Ent) (e : Ent) (k : Int) : seenF (l ++ [e]) k = if k = e.2 then some (.bool true) else seenF l k := by
  unfold seenF
  rw [List.any_append]
  by_cases h : k = e.2
  · simp [h]
  · have h2 : decide (e.2 = k) = false := decide_eq_false (fun e => h e.symm)
    simp only [List.any_cons, List.any_nil, h2, Bool.or_false, if_neg h]
theorem rising_inj {T : List DocT} (h : Rising T) {t s : DocT} (ht : t ∈ T) (hs : s ∈ T) (e : t.id = s.id) : t = s := by
  obtain ⟨i, hi, rfl⟩ := List.mem_iff_getElem.1 ht
  obtain ⟨j, hj, rfl⟩ := List.mem_iff_getElem.1 hs
  rcases Nat.lt_trichotomy i j with h1 | h1 | h1
  · have := h i j hi hj h1; omega
  · subst h1; rfl
  · have := h j i hj hi h1; omega
theorem rising_look {T : List DocT} (h : Rising T) {t : DocT} (ht : t ∈ T) : lookC T t.id = some (.agg t.c.toArray) := by
  cases hq : lookC T t.id with
  | none =>
    have h1 := lookC_some.2 ⟨t, ht, rfl⟩
    rw [hq] at h1
    cases h1
  | some v =>
    obtain ⟨s, hs, he, rfl⟩ := lookC_mem hq
    rw [rising_inj h hs ht he]
theorem sortE_perm (l : List Ent) : (sortE l).Perm l := List.mergeSort_perm l _
theorem mem_ents {k : Nat} {T : List DocT} {e : Ent} (h : e ∈ sortE (entsOf k T)) : ∃ t ∈ T, ∃ x, findP placeK t.v (partS k) = some x ∧ e = (keyL x, t.id) := by
  have h1 := (sortE_perm _).mem_iff.1 h
  obtain ⟨t, ht, he⟩ := List.mem_filterMap.1 h1
  unfold entOf at he
  obtain ⟨x, hx, rfl⟩ := Option.map_eq_some_iff.1 he
  exact ⟨t, ht, x, hx, rfl⟩
theorem ents_of {k : Nat} {T : List DocT} {t : DocT} (ht : t ∈ T) {x : V} (h : findP placeK t.v (partS k) = some x) : (keyL x, t.id) ∈ sortE (entsOf k T) :=
  (sortE_perm _).mem_iff.2 (List.mem_filterMap.2 ⟨t, ht, by unfold entOf; rw [h]; rfl⟩)
theorem rising_tail {t : DocT} {T : List DocT} (h : Rising (t :: T)) : Rising T ∧ ∀ s ∈ T, t.id < s.id := by
  refine ⟨fun i j hi hj hij => ?_, fun s hs => ?_⟩
  · have := h (i + 1) (j + 1) (by simpa using hi) (by simpa using hj) (by omega)
    simpa using this
  · obtain ⟨i, hi, rfl⟩ := List.mem_iff_getElem.1 hs
    have := h 0 (i + 1) (by simp) (by simpa using hi) (by omega)
    simpa using this
theorem ents_ids : ∀ {T : List DocT} (k : Nat), Rising T → ((entsOf k T).map (·.2)).Nodup
  | [], _, _ => by simp [entsOf]
  | t :: T, k, h => by
    obtain ⟨h1, h2⟩ := rising_tail h
    have ih := ents_ids k h1
    unfold entsOf at ih ⊢
    rw [List.filterMap_cons]
    cases hq : entOf k t with
    | none => exact ih
    | some e =>
      have he : e.2 = t.id := by
        unfold entOf at hq
        obtain ⟨x, _, rfl⟩ := Option.map_eq_some_iff.1 hq
        rfl
      simp only [List.map_cons, List.nodup_cons]
      refine ⟨fun hm => ?_, ih⟩
      obtain ⟨e2, he2, h3⟩ := List.mem_map.1 hm
      obtain ⟨s, hs, he3⟩ := List.mem_filterMap.1 he2
      have he4 : e2.2 = s.id := by
        unfold entOf at he3
        obtain ⟨x, _, rfl⟩ := Option.map_eq_some_iff.1 he3
        rfl
      have := h2 s hs
      omega
theorem sort_ids {T : List DocT} (k : Nat) (h : Rising T) : ((sortE (entsOf k T)).map (·.2)).Nodup := ((sortE_perm _).map _).nodup_iff.2 (ents_ids k h)
theorem seen_before {l : List Ent} (hn : (l.map (·.2)).Nodup) {i : Nat} (hi : i < l.length) : seenF (l.take i) l[i].2 = none := by
  unfold seenF
  rw [if_neg]
  intro h
  rw [List.any_eq_true] at h
  obtain ⟨e, he, h2⟩ := h
  obtain ⟨j, hj, rfl⟩ := List.mem_iff_getElem.1 he
  rw [List.length_take] at hj
  rw [List.getElem_take] at h2
  have h3 : (l.map (·.2))[j]'(by rw [List.length_map]; omega) = (l.map (·.2))[i]'(by rw [List.length_map]; omega) := by simpa using h2
  exact List.pairwise_iff_getElem.1 hn j i _ _ (by omega) h3
theorem eread_map {n bs : Nat} {w w1 w0 : World} {m : Int → Option Value} {v : Value} {l : List Ent} (h : ERead n w v l) (hw : Only (fun _ => False) w0 w) (hr : MapS i64V w0 bs m) (ho : Only (fun x => x = bs) w w1) : ERead n w1 v l := by
  obtain ⟨a, cap, rfl, hc, h⟩ := h
  refine ⟨a, cap, rfl, hc, fun hl => ?_⟩
  obtain ⟨b, off, rfl, hbn, hx⟩ := h hl
  have hr2 := hr.only hw (fun h => h)
  have hb : ¬ b = bs := fun e => by
    subst e
    obtain ⟨es, clock, ks, h6, _⟩ := hr2
    have := (hx 0 hl).1
    simp [World.cell?, h6] at this
  exact ⟨b, off, rfl, hbn, fun i hi => ⟨ho.cell hb (hx i hi).1, ho.cell hb (hx i hi).2⟩⟩
theorem recs_rising : ∀ {T : List DocT} {l : List BL} {k : Int}, T.map prT = recs l k → Rising T ∧ (∀ t ∈ T, k ≤ t.id) ∧ ∀ t ∈ T, ∃ b, t.v = docL b
  | [], _, _, _ => ⟨fun i j hi => absurd hi (by simp), by simp, by simp⟩
  | t :: T, [], k, h => by simp [recs] at h
  | t :: T, b :: l, k, h => by
    rw [List.map_cons, recs] at h
    injection h with h1 h2
    obtain ⟨a1, a2, a3⟩ := recs_rising h2
    have e1 : t.id = k := congrArg Prod.fst h1
    have e2 : t.v = docL b := congrArg Prod.snd h1
    refine ⟨fun i j hi hj hij => ?_, fun s hs => ?_, fun s hs => ?_⟩
    · cases j with
      | zero => omega
      | succ j =>
        cases i with
        | zero =>
          have := a2 (T[j]'(by simpa using hj)) (List.getElem_mem _)
          simp only [List.getElem_cons_zero, List.getElem_cons_succ]
          omega
        | succ i =>
          simp only [List.getElem_cons_succ]
          exact a1 i j (by simpa using hi) (by simpa using hj) (by omega)
    · rcases List.mem_cons.1 hs with rfl | hs
      · omega
      · have := a2 s hs; omega
    · rcases List.mem_cons.1 hs with rfl | hs
      · exact ⟨b, e2⟩
      · exact a3 s hs

set_option maxHeartbeats 16000000 in
set_option maxRecDepth 100000 in
theorem ione_law (n : Nat) (hn : n < 256) (nb : Nat) (w : World) (sv : Value) (L : List BL) (hnb : nb ≤ w.heap.size) (h1 : LRead nb w sv L) (hI : IxW w) :
    Calls Tryz.prog 6 #[.int .u8 n, sv] w fun e w' => e = .returned (.bool true) ∧ Below w.heap.size w w' := by
  have hspec := fun W => spec_any n hn false W
  obtain ⟨k, hk⟩ : ∃ k, n % 5 = k := ⟨_, rfl⟩
  have hk5 : k < 5 := by omega
  obtain ⟨NM, hNM⟩ : ∃ s, BA (105 :: dig (n % 10)) = s := ⟨_, rfl⟩
  obtain ⟨PS, hPS⟩ : ∃ s, BA (pathS k) = s := ⟨_, rfl⟩
  rw [hk, hNM, hPS] at hspec
  have H0 := Lib.hid (And.intro hI (And.intro hnb (And.intro h1 (And.intro hspec (And.intro hk5 hPS)))))
  clear hI hnb hspec hk5 hn hk hNM hPS
  obtain ⟨s1, s2, s3, rfl⟩ : ∃ a m c, sv = .slice a m c := by obtain ⟨a, c, h, _⟩ := h1; exact ⟨a, _, c, h⟩
  clear h1
  have hmm := @run_makeMap Tryz.prog
  go_enter Tryz.func6, Tryz.ntmps6
  go_wp2_with fail
  refine (ixawake_any w H0.out.1).mono ?_
  rintro e w1 ⟨rfl, hb1⟩
  have H1 := Lib.hid hb1
  clear hb1
  go_wp2_with fail
  refine (H0.out.2.2.2.1 w1).mono ?_
  rintro e w2 ⟨rfl, hb2⟩
  have H2 := Lib.hid (H1.out.trans (hb2.mono H1.out.size))
  clear hb2
  obtain ⟨P0, hP0⟩ : ∃ P, w2.heap.size = P := ⟨_, rfl⟩
  obtain ⟨w3, hw3⟩ : ∃ W, w2.alloc (.cells #[.string NM, .string PS, .bool false] 23) = W := ⟨_, rfl⟩
  have hb3 : Below w2.heap.size w2 w3 := by rw [← hw3]; exact (Below.refl _ _).alloc (Nat.le_refl _) _
  have hk3 : Blk w3 P0 23 [.string NM, .string PS, .bool false] := by rw [← hw3, ← hP0]; exact heap_alloc_new w2 _
  have H3 := Lib.hid (And.intro (H2.out.trans (hb3.mono H2.out.size)) (And.intro hk3 (And.intro hP0 hw3)))
  clear hb3 hk3 hP0 hw3
  go_wp2_with fail
  rw [H3.out.2.2.2, H3.out.2.2.1]
  refine (filled_any nb w3 _ L (Nat.le_trans H0.out.2.1 H3.out.1.size) (H0.out.2.2.1.later (H3.out.1.mono H0.out.2.1)) (H0.out.1.words.later H3.out.1)).mono ?_
  rintro e w4 ⟨T, ob, rfl, hF, hT, hb4⟩
  obtain ⟨bh, hbh⟩ : ∃ b, w3.heap.size = b := ⟨_, rfl⟩
  rw [hbh] at hF ⊢
  have hTl : T.length ≤ 30 := by
    have h := congrArg List.length hT
    rw [List.length_map, recs_len, List.length_take] at h
    omega
  obtain ⟨hris, hge, hdoc⟩ := recs_rising hT
  have hsm : ∀ t ∈ T, smallV t.v ∧ (keyL t.v).length ≤ 1000000 := fun t ht => by
    obtain ⟨b, hb⟩ := hdoc t ht
    rw [hb]
    exact ⟨small_made 3 _, Nat.le_trans (keyL_made 3 _) (by decide)⟩
  have hbw4 := H3.out.1.trans (hb4.mono H3.out.1.size)
  have H4 := Lib.hid (And.intro hbw4 (And.intro (H3.out.2.1.below hb4) (And.intro hF (And.intro hris (And.intro (show ∀ t ∈ T, 0 < t.id from fun t ht => by have := hge t ht; omega) (And.intro hsm (And.intro hTl (And.intro hbh hb4.size))))))))
  clear hbw4 hb4 hF hris hge hdoc hsm hTl hT hbh
  have c0 := (H4.out.2.1.alloc (.map #[] 0)).cell 0
  have c1 := (H4.out.2.1.alloc (.map #[] 0)).cell 1
  have c2 := (H4.out.2.1.alloc (.map #[] 0)).cell 2
  obtain ⟨bs, hbs⟩ : ∃ b, w4.heap.size = b := ⟨_, rfl⟩
  obtain ⟨w5, hw5⟩ : ∃ W, w4.alloc (.map #[] 0) = W := ⟨_, rfl⟩
  have hb5 : Below w4.heap.size w4 w5 := by rw [← hw5]; exact (Below.refl _ _).alloc (Nat.le_refl _) _
  have hm5 : MapS i64V w5 bs (seenF []) := by rw [← hw5, ← hbs]; exact (MapS.made w4).congr (fun k => rfl)
  have hbw5 := H4.out.1.trans (hb5.mono H4.out.1.size)
  obtain ⟨_, _, _, _, hvs, hSlt, _⟩ := H4.out.2.2.1.1
  have hof := iof_any NM false k H0.out.2.2.2.2.1 w5 bh T (T.length : Int) _ ((H4.out.2.2.1.1.later hb5).read H4.out.2.2.2.1 (by have := H4.out.2.2.2.2.2.2.1; omega)) H4.out.2.2.2.2.1 (fun t ht => (hvs t ht).later hb5) (fun b hb => by have := (hSlt b hb).1; have := hb5.size; omega) H4.out.2.2.2.2.2.1 (H0.out.1.below hbw5)
  rw [H0.out.2.2.2.2.2] at hof
  have hmT : MapS i64V w5 (bh + 1) (lookC T) := H4.out.2.2.1.2.1.only (Only.ofBelow hb5 (fun _ => False)) (fun h => h)
  have hmlt : bh + 1 < bs := by rw [← hbs]; exact H4.out.2.2.1.2.1.lt
  have hv5 : ∀ t ∈ T, VAt (fun b => bh + 1 < b ∧ b < bs) w5 t.v t.c := fun t ht => VAt.keep (fun b hb => ⟨hb.1, by rw [← hbs]; exact hb.2.1⟩) (fun b hb k u hu => bcell hb5 hu) (hvs t ht)
  have hP0s : P0 < bs := by rw [← hbs]; exact H4.out.2.1.lt
  have H5 := Lib.hid (And.intro hbw5 (And.intro hm5 (And.intro hmT (And.intro hv5 (And.intro hof (And.intro (H4.out.2.1.below hb5) (And.intro hmlt (And.intro hP0s (And.intro hbs hw5)))))))))
  have hbs2 : w.heap.size ≤ bs := by rw [← hbs]; exact H4.out.1.size
  clear hb5 hm5 hbw5 hvs hSlt hof hmT hmlt hv5 hP0s hbs hw5
  go_wp2_with fail
  rw [H5.out.2.2.2.2.2.2.2.2.2]
  (try rw [H5.out.2.2.2.2.2.2.2.2.1])
  refine (show Calls _ _ _ _ _ from H5.out.2.2.2.2.1).mono ?_
  rintro e w6 ⟨v6, rfl, her, hb6⟩
  obtain ⟨Es, hEs⟩ : ∃ l, sortE (entsOf k T) = l := ⟨_, rfl⟩
  have hEl : Es.length ≤ 30 := by
    have h1 := sortE_length (entsOf k T)
    have h2 := entsOf_len k T
    have := H4.out.2.2.2.2.2.2.1
    rw [hEs] at h1
    omega
  rw [hEs] at her
  have hnd := sort_ids k H4.out.2.2.2.1
  rw [hEs] at hnd
  have hmem : ∀ e ∈ Es, ∃ t ∈ T, ∃ x, findP placeK t.v (partS k) = some x ∧ e = (keyL x, t.id) := fun e he => mem_ents (by rw [hEs]; exact he)
  have hofm : ∀ t ∈ T, ∀ x, findP placeK t.v (partS k) = some x → (keyL x, t.id) ∈ Es := fun t ht x hx => by rw [← hEs]; exact ents_of ht hx
  have H6 := Lib.hid (And.intro (H5.out.1.trans (hb6.mono H5.out.1.size)) (And.intro her (And.intro hnd (And.intro hmem (And.intro hofm (And.intro (H5.out.2.2.2.2.2.1.below hb6) (And.intro (H5.out.2.1.only (Only.ofBelow hb6 (fun _ => False)) (fun h => h)) (And.intro hb6 hEl))))))))
  clear her hnd hmem hofm hb6 hEs
  obtain ⟨ea, ecap, rfl, hecap, hex⟩ := H6.out.2.1
  obtain ⟨m, hm⟩ : ∃ m, Es.length = m := ⟨_, rfl⟩
  rw [hm] at hecap hEl ⊢
  have HE := Lib.hid (And.intro hm hex)
  clear hm hex
  -- whatever holds while the set grows
  have hkeep : ∀ W, Only (fun b => b = bs) w6 W → Below w.heap.size w W ∧ Blk W P0 23 [.string NM, .string PS, .bool false] ∧ MapS i64V W (bh + 1) (lookC T) ∧ ∀ t ∈ T, VAt (fun b => bh + 1 < b ∧ b < bs) W t.v t.c := fun W hW => by
    have hb6 := H6.out.2.2.2.2.2.2.2.1
    refine ⟨H6.out.1.trans (hW.below H6.out.1.size (fun b hb e => by omega)), H6.out.2.2.2.2.2.1.only hW (fun e => by have := H5.out.2.2.2.2.2.2.2.1; omega), (H5.out.2.2.1.only (Only.ofBelow hb6 (fun _ => False)) (fun h => h)).only hW (fun e => by have := H5.out.2.2.2.2.2.2.1; omega), fun t ht => ?_⟩
    exact VAt.keep (fun b hb => hb) (fun b hb k u hu => hW.cell (by show ¬ b = bs; omega) (bcell hb6 hu)) (H5.out.2.2.2.1 t ht)
  have hkey : ∀ W, Below w.heap.size w W → (∀ t ∈ T, VAt (fun b => bh + 1 < b ∧ b < bs) W t.v t.c) → bs ≤ W.heap.size → ∀ t ∈ T, Calls Tryz.prog 13 #[.agg #[.string NM, .string PS, .bool false], .agg t.c.toArray] W fun e w' => e = .returned (OptK (findP placeK t.v (partS k))) ∧ Below W.heap.size W w' := fun W hb hv hs t ht => by
    rw [← H0.out.2.2.2.2.2]
    exact ikey_any NM false (pathS k) (partS k) (path_five k H0.out.2.2.2.2.1) t.v (H4.out.2.2.2.2.2.1 t ht).1 _ W _ (hv t ht) (fun b hb => by omega) (H0.out.1.errv.later hb) (H0.out.1.tabs.below hb) (H0.out.1.ml.later hb) (fun x hx => by have := find_key hx; have := (H4.out.2.2.2.2.2.1 t ht).2; omega)
  have HK := Lib.hid (And.intro hkeep hkey)
  clear hkeep hkey c0 c1 c2
  go_wp2_with fail
  go_loopg [40] m (fun gk iv wr => ∃ (i : Nat), gk + i = m ∧ iv = .int .i64 (i : Int) ∧ Only (fun b => b = bs) w6 wr ∧ MapS i64V wr bs (seenF (Es.take i)))
  case atStart => exact ⟨0, by omega, rfl, Only.refl _ _, H6.out.2.2.2.2.2.2.1⟩
  case round =>
    obtain ⟨i, hgi, rfl, hon, hseen⟩ := hrel
    have hmm2 := HE.out.1
    by_cases hi : i < m
    · have hil : i < Es.length := by omega
      have hiz : (i : Int) < (m : Int) := by omega
      have hwK : IntKind.i64.wrap ((i : Int) + 1) = (i : Int) + 1 := IntWalk.i64_in _ (by omega)
      obtain ⟨t, ht, x, hx, he⟩ := H6.out.2.2.2.1 _ (List.getElem_mem hil)
      obtain ⟨b, off, rfl, hbn, hcells⟩ := HE.out.2 (by omega)
      have hc := hcells i hil
      rw [he] at hc
      have hbb : ¬ b = bs := fun e => by
        obtain ⟨es, clock, ks, h6, _⟩ := H6.out.2.2.2.2.2.2.1
        have := hc.1
        rw [e] at this
        simp [World.cell?, h6] at this
      have f0 := hon.cell hbb hc.1
      have f1 := hon.cell hbb hc.2
      obtain ⟨k1, k2, k3, k4⟩ := HK.out.1 wr hon
      obtain ⟨w7, hw7⟩ : ∃ W, wr.alloc (.cells #[.string (BA (keyL x)), .int .i64 t.id] 53) = W := ⟨_, rfl⟩
      have hb7 : Below wr.heap.size wr w7 := by rw [← hw7]; exact (Below.refl _ _).alloc (Nat.le_refl _) _
      have hk7 : Blk w7 wr.heap.size 53 [.string (BA (keyL x)), .int .i64 t.id] := by rw [← hw7]; exact heap_alloc_new wr _
      have hs7 : MapS i64V w7 bs (seenF (Es.take i)) := hseen.only (Only.ofBelow hb7 (fun _ => False)) (fun h => h)
      have hsne : wr.heap.size ≠ bs := by have := hseen.lt; omega
      obtain ⟨q0, q1, q2, q3, q4, q5, q6, q7, q8, hq⟩ := (k4 t ht).shape
      have hlk : (Instr.lookup 48 (.map (some (bh + 1))) (.int .i64 t.id) false).run Tryz.prog w7 = .ok (.agg #[.int .i64 q0, .int .i64 q1, .string q2, .slice q3 q4 q5, .slice q6 q7 q8]) w7 := by
        have h := (k3.only (Only.ofBelow hb7 (fun _ => False)) (fun h => h)).rep.lookup keyI64 Tryz.underlying48 (zeroVal w7) t.id
        rw [rising_look H4.out.2.2.2.1 ht, hq] at h
        exact h
      have hcall := HK.out.2 w7 (k1.trans (hb7.mono k1.size)) (fun t ht => (k4 t ht).later hb7) (by have := hseen.lt; have := hb7.size; omega) t ht
      rw [hx, hq] at hcall
      have hk2 := k2.below hb7
      have c0 := hk2.cell 0
      have c1 := hk2.cell 1
      have c2 := hk2.cell 2
      have e0 := hk7.cell 0
      have e1 := hk7.cell 1
      obtain ⟨id, hid⟩ : ∃ y, t.id = y := ⟨_, rfl⟩
      obtain ⟨KB, hKB⟩ : ∃ y, BA (keyL x) = y := ⟨_, rfl⟩
      rw [hid] at f1 hlk e1 hw7 hk7
      rw [hKB] at f0 e0 hw7 hk7
      have hOpt : OptK (some x) = .tuple #[.string KB, .bool true] := by show Value.tuple #[.string (BA (keyL x)), .bool true] = _; rw [hKB]
      rw [hOpt] at hcall
      have hbefore : seenF (Es.take i) id = none := by
        have h := seen_before H6.out.2.2.1 hil
        rw [he, hid] at h
        exact h
      have hpush : ∀ y, seenF (Es.take (i + 1)) y = if y = id then some (.bool true) else seenF (Es.take i) y := fun y => by
        rw [List.take_succ_eq_append_getElem hil, seenF_push, he, hid]
      have HX := Lib.hid (And.intro hcall (And.intro hs7 (And.intro hk7 (And.intro hbefore (And.intro hpush (And.intro hsne (And.intro hon (hon.trans' (Only.ofBelow hb7 (fun b => b = bs)) (fun _ _ h => h)))))))))
      clear hcall hs7 hk7 hbefore hpush hsne hon k1 k2 k3 k4 hb7 hk2 hseen hOpt hc hcells hid hKB hq he hx ht hbn hbb
      go_wp2_with fail
      refine (show Calls _ _ _ _ _ from HX.out.1).mono ?_
      rintro e w8 ⟨rfl, hb8⟩
      have hs8 : MapS i64V w8 bs (seenF (Es.take i)) := HX.out.2.1.only (Only.ofBelow hb8 (fun _ => False)) (fun h => h)
      have hls : (Instr.lookup 57 (.map (some bs)) (.int .i64 id) false).run Tryz.prog w8 = .ok (.bool false) w8 := by
        have h := hs8.rep.lookup keyI64 Tryz.underlying57 (zeroBool w8) id
        rw [HX.out.2.2.2.1] at h
        exact h
      obtain ⟨w9, hup, hm9, ho9, _⟩ := hs8.update keyI64 Tryz.underlying57 id (.bool true)
      have hup2 : (Instr.mapUpdate 57 (.map (some bs)) (.int .i64 id) (.bool true)).run Tryz.prog w8 = .ok () w9 := hup
      have hk8 := HX.out.2.2.1.below hb8
      have d0 := hk8.cell 0
      have d1 := hk8.cell 1
      have HR := Lib.hid (And.intro (hm9.congr HX.out.2.2.2.2.1) ((HX.out.2.2.2.2.2.2.2.trans' (Only.ofBelow hb8 (fun b => b = bs)) (fun _ _ h => h)).trans ho9))
      clear hs8 hm9 ho9 hup hk8 hb8 f0 f1 c0 c1 c2 e0 e1 hlk hw7
      go_wp2
      go_roundg (gk - 1)
      case rel => exact ⟨i + 1, by omega, by first | rfl | (push_cast; rfl), HR.out.2, HR.out.1⟩
      case measure => omega
    · have hiz : ¬ (i : Int) < (m : Int) := by omega
      have hall : Es.take i = Es := List.take_of_length_le (by omega)
      rw [hall] at hseen
      obtain ⟨k1, k2, k3, k4⟩ := HK.out.1 wr hon
      have HW := Lib.hid (And.intro hseen (And.intro k1 (And.intro k2 k4)))
      obtain ⟨wq, cnt0, hrange, hrg0, hbq, hsq⟩ := k3.range keyI64 Tryz.underlying48
      have hst : Got T [] (fun k => (lookC T k).isSome) := ⟨by simp, by simp, fun id => by rw [lookC_some]; simp⟩
      obtain ⟨r0, hr0⟩ : ∃ r, wr.heap.size = r := ⟨_, rfl⟩
      rw [hr0] at hrange hrg0
      have HQ := Lib.hid (And.intro hrg0 (And.intro hbq (And.intro hr0 hst)))
      clear hseen k1 k2 k3 k4 hrg0 hbq hsq hr0 hst hall hon
      go_wp2_with fail
      clear hrange
      go_loopg [] cnt0 (fun gk w2r => ∃ (P : List DocT) (left : Int → Bool), Got T P left ∧ RgS i64V w2r (bh + 1) r0 (lookC T) left gk ∧ Only (fun b => b = r0) wq w2r)
      case atStart => exact ⟨[], _, HQ.out.2.2.2, HQ.out.1, Only.refl _ _⟩
      case round =>
        obtain ⟨P, left, hgot, hrg, hon⟩ := hrel
        have HD := Lib.hid (And.intro hgot (And.intro hrg hon))
        clear hgot hrg hon
        have hw2s : w.heap.size ≤ r0 := by rw [← HQ.out.2.2.1]; exact HW.out.2.1.size
        have hbsr : bs < r0 := by rw [← HQ.out.2.2.1]; exact HW.out.1.lt
        have hrb : r0 ≠ bh + 1 := by have := H5.out.2.2.2.2.2.2.1; omega
        -- what holds behind the iterator's turns
        have hkp : ∀ W, Only (fun b => b = r0) wq W → Below w.heap.size w W ∧ Blk W P0 23 [.string NM, .string PS, .bool false] ∧ MapS i64V W bs (seenF Es) ∧ ∀ t ∈ T, VAt (fun b => bh + 1 < b ∧ b < bs) W t.v t.c := fun W hW => by
          have hq := HQ.out.2.1
          have h1 := HW.out.2.1.trans (hq.mono HW.out.2.1.size)
          refine ⟨h1.trans (hW.below h1.size (fun b hb e => by omega)), (HW.out.2.2.1.below hq).only hW (fun e => by have := H5.out.2.2.2.2.2.2.2.1; omega), (HW.out.1.only (Only.ofBelow hq (fun _ => False)) (fun h => h)).only hW (fun e => by omega), fun t ht => ?_⟩
          exact VAt.keep (fun b hb => hb) (fun b hb k u hu => hW.cell (by show ¬ b = r0; omega) (bcell hq hu)) (HW.out.2.2.2 t ht)
        rcases HD.out.2.1.next (P := Tryz.prog) i64V_inj hrb 0 with ⟨hl0, hnx⟩ | ⟨id, vx, wn, cnt1, hl, hmx, hnx, hrg1, hlt, ho1, hsz1, hen⟩
        · have hfin := (hkp _ HD.out.2.2).1
          have HFIN := Lib.hid hfin
          clear hl0 hkp hfin
          go_wp2
          go_ret
          exact ⟨rfl, HFIN.out⟩
        · obtain ⟨t, ht, rfl, rfl⟩ := lookC_mem hmx
          obtain ⟨k1, k2, k3, k4⟩ := hkp wn (HD.out.2.2.trans ho1)
          obtain ⟨q0, q1, q2, q3, q4, q5, q6, q7, q8, hq⟩ := (k4 t ht).shape
          rw [hq] at hnx hen
          obtain ⟨w7, hw7⟩ : ∃ W, wn.alloc (.cells #[.int .i64 q0, .int .i64 q1, .string q2, .slice q3 q4 q5, .slice q6 q7 q8] 40) = W := ⟨_, rfl⟩
          have hb7 : Below wn.heap.size wn w7 := by rw [← hw7]; exact (Below.refl _ _).alloc (Nat.le_refl _) _
          have hk7 : Blk w7 wn.heap.size 40 [.int .i64 q0, .int .i64 q1, .string q2, .slice q3 q4 q5, .slice q6 q7 q8] := by rw [← hw7]; exact heap_alloc_new wn _
          have hk2 := k2.below hb7
          have hcall := HK.out.2 w7 (k1.trans (hb7.mono k1.size)) (fun t ht => (k4 t ht).later hb7) (by have := k3.lt; have := hb7.size; omega) t ht
          rw [hq] at hcall
          have hsn : seenF Es t.id = (findP placeK t.v (partS k)).map (fun _ => Value.bool true) := by
            cases hr : findP placeK t.v (partS k) with
            | some x =>
              have h1 := H6.out.2.2.2.2.1 t ht x hr
              unfold seenF
              rw [if_pos (List.any_eq_true.2 ⟨_, h1, by simp⟩)]
              rfl
            | none =>
              unfold seenF
              rw [if_neg]
              · rfl
              · intro h1
                obtain ⟨e, he, h2⟩ := List.any_eq_true.1 h1
                obtain ⟨s, hs, x, hx, rfl⟩ := H6.out.2.2.2.1 e he
                have h3 : s.id = t.id := by simpa using h2
                rw [rising_inj H4.out.2.2.2.1 hs ht h3, hr] at hx
                cases hx
          have hs7 : MapS i64V w7 bs (seenF Es) := k3.only (Only.ofBelow hb7 (fun _ => False)) (fun h => h)
          have c0 := hk2.cell 0
          have c1 := hk2.cell 1
          have c2 := hk2.cell 2
          have x0 := hk7.cell 0
          have x1 := hk7.cell 1
          have x2 := hk7.cell 2
          have x3 := hk7.cell 3
          have x4 := hk7.cell 4
          have hpush := HD.out.1.push ht (by exact hl)
          have hrg7 := hrg1.only (Only.ofBelow hb7 (fun _ => False)) (fun h => h) (fun h => h)
          have hon7 : Only (fun b => b = r0) wq w7 := (HD.out.2.2.trans ho1).trans' (Only.ofBelow hb7 (fun b => b = r0)) (fun _ _ h => h)
          obtain ⟨id, hid⟩ : ∃ y, t.id = y := ⟨_, rfl⟩
          simp only [i64V] at hnx hen
          rw [hid] at hnx hen hsn
          have HX := Lib.hid (And.intro hcall (And.intro hs7 (And.intro hsn (And.intro hpush (And.intro hrg7 (And.intro hon7 (And.intro hlt hid)))))))
          clear hcall hs7 hsn hpush hrg7 hon7 hlt hid hkp k1 k2 k3 k4 hk7 hk2 hb7 hq ho1 hrg1 hsz1 hl hmx ht
          go_wp2_with fail
          refine (show Calls _ _ _ _ _ from HX.out.1).mono ?_
          rintro e w8 ⟨rfl, hb8⟩
          have hs8 : MapS i64V w8 bs (seenF Es) := HX.out.2.1.only (Only.ofBelow hb8 (fun _ => False)) (fun h => h)
          have hls := hs8.rep.lookup keyI64 Tryz.underlying57 (zeroBool w8) id
          rw [HX.out.2.2.1] at hls
          have HR := Lib.hid (And.intro (HX.out.2.2.2.2.1.only (Only.ofBelow hb8 (fun _ => False)) (fun h => h) (fun h => h)) (HX.out.2.2.2.2.2.1.trans' (Only.ofBelow hb8 (fun b => b = r0)) (fun _ _ h => h)))
          clear hs8 hb8 c0 c1 c2 x0 x1 x2 x3 x4 hnx hen hw7
          unfold OptK
          simp only [i64V] at hls
          cases hr : findP placeK t.v (partS k) with
          | none =>
            rw [hr] at hls
            have hl2 : (Instr.lookup 57 (.map (some bs)) (.int .i64 id) false).run Tryz.prog w8 = .ok (.bool false) w8 := hls
            clear hls hr
            go_wp2
            go_roundg cnt1
            case rel => exact ⟨P ++ [t], _, HX.out.2.2.2.1, HR.out.1, HR.out.2⟩
            case measure => exact HX.out.2.2.2.2.2.2.1
          | some x =>
            rw [hr] at hls
            have hl2 : (Instr.lookup 57 (.map (some bs)) (.int .i64 id) false).run Tryz.prog w8 = .ok (.bool true) w8 := hls
            clear hls hr
            go_wp2
            go_roundg cnt1
            case rel => exact ⟨P ++ [t], _, HX.out.2.2.2.1, HR.out.1, HR.out.2⟩
            case measure => exact HX.out.2.2.2.2.2.2.1
theorem ione_int (n : Int) (hw : (Lit.int .u8 n).wf = true) (w : World) (sv : Value) (L : List BL) (h1 : LRead w.heap.size w sv L) (hI : IxW w) :
    Calls Tryz.prog 6 #[.int .u8 n, sv] w fun e w' => e = .returned (.bool true) ∧ Below w.heap.size w w' := by
  obtain ⟨k, hk, rfl⟩ := u8_nat hw
  exact ione_law k hk w.heap.size w sv L (Nat.le_refl _) h1 hI
end Go.Proofs.YtecnjifincahaaaGreatDoor
