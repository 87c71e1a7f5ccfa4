/- IndexMoves' walk. -/
import Derived.Test.YtecnjifincahaaaGreatDoorIzJ
namespace Go.Proofs.YtecnjifincahaaaGreatDoor
open Go.Shelf Go.RowKit Go.Lib

/-- what stands while a record is moved. -/
structure MvAt (w W : World) (P0 B1 B2 bh : Nat) (ob : Option Nat) (S : Nat → Prop) (T : List DocT) (last : Int) (spec q r : List Value) (x : V) (lo : Nat) : Prop where
  below : Below w.heap.size w W
  spec : Blk W P0 23 spec
  b1 : Blk W B1 40 q
  b2 : Blk W B2 40 r
  rep : HRep W bh ob S T last
  vat : VAt S W x r
  lo : lo ≤ W.heap.size
theorem MvAt.later {w W W2 : World} {P0 B1 B2 bh : Nat} {ob : Option Nat} {S : Nat → Prop} {T : List DocT} {last : Int} {spec q r : List Value} {x : V} {lo : Nat} (h : MvAt w W P0 B1 B2 bh ob S T last spec q r x lo) (hb : Below W.heap.size W W2) : MvAt w W2 P0 B1 B2 bh ob S T last spec q r x lo :=
  ⟨h.below.trans (hb.mono h.below.size), h.spec.below hb, h.b1.below hb, h.b2.below hb, h.rep.later hb, h.vat.later hb, Nat.le_trans h.lo hb.size⟩
/-- a list in a row that is not older than lo. -/
structure LAt (W : World) (v : Value) (l : List Ent) (lo : Nat) : Prop where
  read : ERead W.heap.size W v l
  lo : ∀ b, v.ownBlock = some b → lo ≤ b
theorem LAt.later {W W2 : World} {v : Value} {l : List Ent} {lo : Nat} (h : LAt W v l lo) (hb : Below W.heap.size W W2) : LAt W2 v l lo := ⟨(h.read.later hb).mono hb.size, h.lo⟩
theorem eread_only {R : Nat → Prop} {n : Nat} {w w2 : World} {v : Value} {l : List Ent} (h : ERead n w v l) (ho : Only R w w2) (hb : ∀ b, v.ownBlock = some b → ¬ R b) : ERead n w2 v l := by
  obtain ⟨a, cap, rfl, hc, h⟩ := h
  refine ⟨a, cap, rfl, hc, fun hl => ?_⟩
  obtain ⟨b, off, rfl, hbn, hx⟩ := h hl
  have hbr := hb b rfl
  exact ⟨b, off, rfl, hbn, fun i hi => ⟨ho.cell hbr (hx i hi).1, ho.cell hbr (hx i hi).2⟩⟩
set_option maxHeartbeats 16000000 in
set_option maxRecDepth 100000 in
theorem imoves_law (n : Nat) (hn : n < 256) (idn : Nat) (hid : idn < 256) (nb : Nat) (w : World) (sv sv2 : Value) (L : List BL) (b : BL) (hnb : nb ≤ w.heap.size) (h1 : LRead nb w sv L) (h2 : BRead nb w sv2 b) (hI : IxW w) :
    Calls Tryz.prog 7 #[.int .u8 n, sv, .int .u8 idn, sv2] w fun e w' => e = .returned (.bool true) ∧ Below w.heap.size w w' := by
  obtain ⟨v1, v2, v3, rfl⟩ : ∃ a m c, sv2 = .slice a m c := by obtain ⟨_, a, c, h, _⟩ := h2; exact ⟨a, _, c, h⟩
  have HBR := Lib.hid (And.intro h2 hid)
  clear h2 hid
  have hspec := fun W => spec_any n hn false W
  obtain ⟨k, hk⟩ : ∃ k, n % 5 = k := ⟨_, rfl⟩
  have hk5 : k < 5 := by omega
  obtain ⟨NM, hNM⟩ : ∃ s, BA (105 :: dig (n % 10)) = s := ⟨_, rfl⟩
  obtain ⟨PS, hPS⟩ : ∃ s, BA (pathS k) = s := ⟨_, rfl⟩
  rw [hk, hNM, hPS] at hspec
  have H0 := Lib.hid (And.intro hI (And.intro hnb (And.intro h1 (And.intro hspec (And.intro hk5 hPS)))))
  clear hI hnb hspec hk5 hn hk hNM hPS
  obtain ⟨s1, s2, s3, rfl⟩ : ∃ a m c, sv = .slice a m c := by obtain ⟨a, c, h, _⟩ := h1; exact ⟨a, _, c, h⟩
  clear h1
  go_enter Tryz.func7, Tryz.ntmps7
  go_wp2_with fail
  refine (ixawake_any w H0.out.1).mono ?_
  rintro e w1 ⟨rfl, hb1⟩
  have H1 := Lib.hid hb1
  clear hb1
  go_wp2_with fail
  refine (H0.out.2.2.2.1 w1).mono ?_
  rintro e w2 ⟨rfl, hb2⟩
  have H2 := Lib.hid (H1.out.trans (hb2.mono H1.out.size))
  clear hb2
  obtain ⟨P0, hP0⟩ : ∃ P, w2.heap.size = P := ⟨_, rfl⟩
  obtain ⟨w3, hw3⟩ : ∃ W, w2.alloc (.cells #[.string NM, .string PS, .bool false] 23) = W := ⟨_, rfl⟩
  have hb3 : Below w2.heap.size w2 w3 := by rw [← hw3]; exact (Below.refl _ _).alloc (Nat.le_refl _) _
  have hk3 : Blk w3 P0 23 [.string NM, .string PS, .bool false] := by rw [← hw3, ← hP0]; exact heap_alloc_new w2 _
  have H3 := Lib.hid (And.intro (H2.out.trans (hb3.mono H2.out.size)) (And.intro hk3 (And.intro hP0 hw3)))
  clear hb3 hk3 hP0 hw3
  go_wp2_with fail
  rw [H3.out.2.2.2, H3.out.2.2.1]
  refine (filled_any nb w3 _ L (Nat.le_trans H0.out.2.1 H3.out.1.size) (H0.out.2.2.1.later (H3.out.1.mono H0.out.2.1)) (H0.out.1.words.later H3.out.1)).mono ?_
  rintro e w4 ⟨T, ob, rfl, hF, hT, hb4⟩
  obtain ⟨bh, hbh⟩ : ∃ b, w3.heap.size = b := ⟨_, rfl⟩
  rw [hbh] at hF ⊢
  have hTl : T.length ≤ 30 := by
    have h := congrArg List.length hT
    rw [List.length_map, recs_len, List.length_take] at h
    omega
  obtain ⟨hris, hge, hdoc⟩ := recs_rising hT
  have hsm : ∀ t ∈ T, smallV t.v ∧ (keyL t.v).length ≤ 1000000 := fun t ht => by
    obtain ⟨b, hb⟩ := hdoc t ht
    rw [hb]
    exact ⟨small_made 3 _, Nat.le_trans (keyL_made 3 _) (by decide)⟩
  have hbw4 := H3.out.1.trans (hb4.mono H3.out.1.size)
  have H4 := Lib.hid (And.intro hbw4 (And.intro (H3.out.2.1.below hb4) (And.intro hF (And.intro hris (And.intro (show ∀ t ∈ T, 0 < t.id from fun t ht => by have := hge t ht; omega) (And.intro hsm (And.intro hTl (And.intro hbh (And.intro hb4.size (fun j hj => recs_at hT j hj))))))))))
  clear hbw4 hb4 hF hris hge hdoc hsm hTl hT hbh
  have hF := H4.out.2.2.1
  have hrd := hF.1.read H4.out.2.2.2.1 (by have := H4.out.2.2.2.2.2.2.1; omega)
  have hlen := len_rec w4 bh T _ hrd
  obtain ⟨m, hm⟩ : ∃ m, T.length = m := ⟨_, rfl⟩
  rw [hm] at hlen
  have HL := Lib.hid (And.intro hlen (And.intro hrd hm))
  clear hlen hrd hF hm
  by_cases h0 : m = 0
  · subst h0
    go_wp2_with fail
    refine (show Calls _ _ _ _ _ from HL.out.1).mono ?_
    rintro e w5 ⟨rfl, hw5⟩
    rw [hw5]
    clear hw5
    go_wp2
    go_ret
    exact ⟨by first | rfl | simp, H4.out.1⟩
  · have hm0 : ¬ (m : Int) = 0 := by omega
    have hmb : ((m : Int) == 0) = false := by rw [beq_eq_false_iff_ne]; exact hm0
    obtain ⟨j, hj⟩ : ∃ j, idn % m = j := ⟨_, rfl⟩
    have hjm : j < m := by rw [← hj]; exact Nat.mod_lt _ (by omega)
    have hjl : j < T.length := by have := HL.out.2.2; omega
    obtain ⟨t, ht⟩ : ∃ t, T[j] = t := ⟨_, rfl⟩
    obtain ⟨g, hg⟩ : ∃ g, t.id = g := ⟨_, rfl⟩
    have hgj : g = 1 + (j : Int) := by rw [← hg, ← ht]; exact H4.out.2.2.2.2.2.2.2.2.2 j hjl
    have hrem : wrap64 (1 + (wrap64 (idn : Int)).tmod (m : Int)) = g := by
      have e1 : wrap64 (idn : Int) = (idn : Int) := by have := HBR.out.2; unfold wrap64; omega
      rw [e1, Int.tmod_eq_emod_of_nonneg (by omega), ← Int.natCast_emod, hj, hgj]
      have h1 := HBR.out.2
      have h2 : j ≤ idn := by rw [← hj]; exact Nat.mod_le _ _
      unfold wrap64
      omega
    obtain ⟨q0, q1, q2, q3, q4, q5, q6, q7, q8, hq⟩ := HL.out.2.1.five t (by rw [← ht]; exact List.getElem_mem hjl)
    have hget := get_rec w4 bh T _ HL.out.2.1 j hjl
    rw [ht, hg, hq] at hget
    obtain ⟨_, _, _, _, hvs4, hSl4, _⟩ := H4.out.2.2.1.1
    have hvt := hvs4 t (by rw [← ht]; exact List.getElem_mem hjl)
    rw [hq] at hvt
    have HG := Lib.hid (And.intro hget (And.intro hjl (And.intro ht (And.intro hg (And.intro hq hvt)))))
    clear hget ht hg hq hvt hvs4 hSl4 hgj hj hjm
    go_wp2_with fail
    refine (show Calls _ _ _ _ _ from HL.out.1).mono ?_
    rintro e w5 ⟨rfl, hw5⟩
    rw [hw5]
    clear hw5
    go_wp2_with fail
    refine (show Calls _ _ _ _ _ from HL.out.1).mono ?_
    rintro e w5 ⟨rfl, hw5⟩
    rw [hw5]
    clear hw5
    go_wp2_with fail
    refine (show Calls _ _ _ _ _ from HG.out.1).mono ?_
    rintro e w6 ⟨rfl, hb6⟩
    (try rw [hrem])
    clear hrem hm0 hmb
    obtain ⟨w7, hw7⟩ : ∃ W, w6.alloc (.cells #[.int .i64 q0, .int .i64 q1, .string q2, .slice q3 q4 q5, .slice q6 q7 q8] 40) = W := ⟨_, rfl⟩
    obtain ⟨B1, hB1⟩ : ∃ b, w6.heap.size = b := ⟨_, rfl⟩
    have hb7 : Below w6.heap.size w6 w7 := by rw [← hw7]; exact (Below.refl _ _).alloc (Nat.le_refl _) _
    have hk7 : Blk w7 B1 40 [.int .i64 q0, .int .i64 q1, .string q2, .slice q3 q4 q5, .slice q6 q7 q8] := by rw [← hw7, ← hB1]; exact heap_alloc_new w6 _
    have hb57 := hb6.trans (hb7.mono hb6.size)
    have hbw7 := H4.out.1.trans (hb57.mono H4.out.1.size)
    have hdoc := doc_any nb w7 _ b (Nat.le_trans H0.out.2.1 hbw7.size) (HBR.out.1.later (hbw7.mono H0.out.2.1)) (H0.out.1.words.later hbw7)
    have H7 := Lib.hid (And.intro hbw7 (And.intro hb57 (And.intro hk7 (And.intro hdoc (And.intro hB1 hw7)))))
    clear hb6 hb7 hk7 hb57 hbw7 hdoc hw7
    go_wp2_with fail
    rw [H7.out.2.2.2.2.2]
    refine (show Calls _ _ _ _ _ from H7.out.2.2.2.1).mono ?_
    rintro e w8 ⟨c, rfl, hvn, hb8⟩
    obtain ⟨r0, r1, r2, r3, r4, r5, r6, r7, r8, rfl⟩ := VAt.shape hvn
    obtain ⟨w9, hw9⟩ : ∃ W, w8.alloc (.cells #[.int .i64 r0, .int .i64 r1, .string r2, .slice r3 r4 r5, .slice r6 r7 r8] 40) = W := ⟨_, rfl⟩
    obtain ⟨B2, hB2⟩ : ∃ b, w8.heap.size = b := ⟨_, rfl⟩
    have hb9 : Below w8.heap.size w8 w9 := by rw [← hw9]; exact (Below.refl _ _).alloc (Nat.le_refl _) _
    have hb79 := hb8.trans (hb9.mono hb8.size)
    have hb49 := H7.out.2.1.trans (hb79.mono H7.out.2.1.size)
    have hlt4 := H4.out.2.2.1.1.lt
    have hml4 := H4.out.2.2.1.2.1.lt
    have hrep9 : HRep w9 bh ob (fun x => bh + 1 < x ∧ x < w9.heap.size ∧ ob ≠ some x) T (T.length : Int) := (H4.out.2.2.1.1.later hb49).widen (fun x hx => ⟨hx.1, by have := hx.2.1; have := hb49.size; omega, hx.2.2⟩) (fun x hx => ⟨hx.2.1, by omega, hx.2.2⟩)
    have hvat9 : VAt (fun x => bh + 1 < x ∧ x < w9.heap.size ∧ ob ≠ some x) w9 (docL b) [.int .i64 r0, .int .i64 r1, .string r2, .slice r3 r4 r5, .slice r6 r7 r8] := VAt.keep (fun x hx => ⟨by have := H7.out.2.1.size; omega, by have := hb9.size; omega, fun h => by have := hlt4.2 x h; have := H7.out.2.1.size; omega⟩) (fun x hx k u hu => bcell hb9 hu) hvn
    have hmv : MvAt w w9 P0 B1 B2 bh ob (fun x => bh + 1 < x ∧ x < w9.heap.size ∧ ob ≠ some x) T (T.length : Int) [.string NM, .string PS, .bool false] [.int .i64 q0, .int .i64 q1, .string q2, .slice q3 q4 q5, .slice q6 q7 q8] [.int .i64 r0, .int .i64 r1, .string r2, .slice r3 r4 r5, .slice r6 r7 r8] (docL b) w4.heap.size :=
      ⟨H7.out.1.trans (hb79.mono H7.out.1.size), (H4.out.2.1.below hb49), H7.out.2.2.1.below hb79, by rw [← hw9, ← hB2]; exact heap_alloc_new w8 _, hrep9, hvat9, hb49.size⟩
    -- index.Of in any world behind
    have hof : ∀ W (T' : List DocT), Below w.heap.size w W → HRep W bh ob (fun x => bh + 1 < x ∧ x < w9.heap.size ∧ ob ≠ some x) T' (T.length : Int) → Rising T' → T'.length ≤ 1000 → (∀ t ∈ T', 0 < t.id) → (∀ t ∈ T', smallV t.v ∧ (keyL t.v).length ≤ 1000000) → Calls Tryz.prog 21 #[.agg #[.string NM, .string PS, .bool false], .pointer (some ⟨bh, 0, none⟩)] W fun e w' => ∃ v, e = .returned v ∧ ERead w'.heap.size w' v (sortE (entsOf k T')) ∧ Below W.heap.size W w' ∧ ∀ b, v.ownBlock = some b → W.heap.size ≤ b := fun W T' hb hr hR hl hp hs => by
      have hrd := hr.read hR hl
      obtain ⟨_, _, _, _, hvs, hSl, _⟩ := hr
      rw [← H0.out.2.2.2.2.2]
      exact iof_lo NM false k H0.out.2.2.2.2.1 W bh T' _ _ hrd hp hvs (fun b hb => (hSl b hb).1) hs (H0.out.1.below hb)
    have hkey : ∀ W (v : V) (c : List Value), Below w.heap.size w W → w9.heap.size ≤ W.heap.size → smallV v ∧ (keyL v).length ≤ 1000000 → VAt (fun x => bh + 1 < x ∧ x < w9.heap.size ∧ ob ≠ some x) W v c → Calls Tryz.prog 13 #[.agg #[.string NM, .string PS, .bool false], .agg c.toArray] W fun e w' => e = .returned (OptK (findP placeK v (partS k))) ∧ Below W.heap.size W w' := fun W v c hb hs hsm hv => by
      rw [← H0.out.2.2.2.2.2]
      exact ikey_any NM false (pathS k) (partS k) (path_five k H0.out.2.2.2.2.1) v hsm.1 _ W _ hv (fun b hb => by omega) (H0.out.1.errv.later hb) (H0.out.1.tabs.below hb) (H0.out.1.ml.later hb) (fun x hx => by have := find_key hx; have := hsm.2; omega)
    have hvt9 : ∀ W, Below w9.heap.size w9 W → VAt (fun x => bh + 1 < x ∧ x < w9.heap.size ∧ ob ≠ some x) W t.v [.int .i64 q0, .int .i64 q1, .string q2, .slice q3 q4 q5, .slice q6 q7 q8] := fun W hW => VAt.keep (fun x hx => ⟨hx.1, by have := hx.2.1; have := hb49.size; omega, hx.2.2⟩) (fun x hx k u hu => bcell hW (bcell hb49 hu)) HG.out.2.2.2.2.2
    have hsmT := H4.out.2.2.2.2.2.1
    have hsmD : smallV (docL b) ∧ (keyL (docL b)).length ≤ 1000000 := ⟨small_made 3 _, Nat.le_trans (keyL_made 3 _) (by decide)⟩
    have H9 := Lib.hid (And.intro hmv (And.intro hof (And.intro hkey (And.intro hvt9 (And.intro hsmD (And.intro hB2 hw9))))))
    clear hb9 hb79 hb49 hlt4 hml4 hrep9 hvat9 hmv hof hkey hvt9 hsmT hsmD hvn hb8
    have c0 := H9.out.1.spec.cell 0
    have c1 := H9.out.1.spec.cell 1
    have c2 := H9.out.1.spec.cell 2
    go_wp2_with fail
    (try rw [H9.out.2.2.2.2.2.2])
    clear hw9
    (try rw [H9.out.2.2.2.2.2.1])
    have hTl := H4.out.2.2.2.2.2.2.1
    refine (show Calls _ _ _ _ _ from H9.out.2.1 w9 T H9.out.1.below H9.out.1.rep H4.out.2.2.2.1 (by omega) H4.out.2.2.2.2.1 H4.out.2.2.2.2.2.1).mono ?_
    rintro e w10 ⟨v10, rfl, her, hb10, hlo⟩
    have HA := Lib.hid (And.intro (H9.out.1.later hb10) (And.intro (LAt.mk her (fun x hx => Nat.le_trans H9.out.1.lo (hlo x hx))) hb10))
    clear her hb10 hlo c0 c1 c2
    have c0 := HA.out.1.spec.cell 0
    have c1 := HA.out.1.spec.cell 1
    have c2 := HA.out.1.spec.cell 2
    have x0 := HA.out.1.b1.cell 0
    have x1 := HA.out.1.b1.cell 1
    have x2 := HA.out.1.b1.cell 2
    have x3 := HA.out.1.b1.cell 3
    have x4 := HA.out.1.b1.cell 4
    go_wp2_with fail
    have htm : t ∈ T := by rw [← HG.out.2.2.1]; exact List.getElem_mem _
    refine (show Calls _ _ _ _ _ from H9.out.2.2.1 w10 t.v [.int .i64 q0, .int .i64 q1, .string q2, .slice q3 q4 q5, .slice q6 q7 q8] HA.out.1.below HA.out.2.2.size (H4.out.2.2.2.2.2.1 t htm) (H9.out.2.2.2.1 w10 HA.out.2.2)).mono ?_
    rintro e w11 ⟨rfl, hb11⟩
    have HB := Lib.hid (And.intro (HA.out.1.later hb11) (And.intro (HA.out.2.1.later hb11) (HA.out.2.2.trans (hb11.mono HA.out.2.2.size))))
    clear hb11 c0 c1 c2 x0 x1 x2 x3 x4
    have hEl : (sortE (entsOf k T)).length ≤ 30 := by
      have h1 := sortE_length (entsOf k T)
      have h2 := entsOf_len k T
      omega
    obtain ⟨Es, hEs⟩ : ∃ l, sortE (entsOf k T) = l := ⟨_, rfl⟩
    have hmoves := moves k H4.out.2.2.2.1 j HG.out.2.1 (docL b) [.int .i64 r0, .int .i64 r1, .string r2, .slice r3 r4 r5, .slice r6 r7 r8]
    rw [HG.out.2.2.1, HG.out.2.2.2.1, hEs] at hmoves
    rw [hEs] at HB hEl
    have HM := Lib.hid hmoves
    clear hmoves hEs
    cases hr1 : findP placeK t.v (partS k) with
    | none =>
      rw [hr1] at HM
      have HR1 := Lib.hid hr1
      have HLEN := Lib.hid (show Es.length ≤ 60 by omega)
      clear hr1
      unfold OptK
      have c0 := HB.out.1.spec.cell 0
      have c1 := HB.out.1.spec.cell 1
      have c2 := HB.out.1.spec.cell 2
      have x0 := HB.out.1.b2.cell 0
      have x1 := HB.out.1.b2.cell 1
      have x2 := HB.out.1.b2.cell 2
      have x3 := HB.out.1.b2.cell 3
      have x4 := HB.out.1.b2.cell 4
      go_wp2_with fail
      refine (show Calls _ _ _ _ _ from H9.out.2.2.1 w11 (docL b) [.int .i64 r0, .int .i64 r1, .string r2, .slice r3 r4 r5, .slice r6 r7 r8] HB.out.1.below HB.out.2.2.size H9.out.2.2.2.2.1 HB.out.1.vat).mono ?_
      rintro e w14 ⟨rfl, hb14⟩
      have HD := Lib.hid (And.intro (HB.out.1.later hb14) (And.intro (HB.out.2.1.later hb14) (HB.out.2.2.trans (hb14.mono HB.out.2.2.size))))
      clear hb14 c0 c1 c2 x0 x1 x2 x3 x4
      cases hr2 : findP placeK (docL b) (partS k) with
      | none =>
        rw [hr2] at HM
        have HR2 := Lib.hid hr2
        clear hr2
        unfold OptK
        have c0 := HD.out.1.b2.cell 0
        have c1 := HD.out.1.b2.cell 1
        have c2 := HD.out.1.b2.cell 2
        have c3 := HD.out.1.b2.cell 3
        have c4 := HD.out.1.b2.cell 4
        have hset := set_any w14 bh ob _ T _ j HG.out.2.1 (docL b) _ HD.out.1.rep H4.out.2.2.2.1 (by omega) HD.out.1.vat
        rw [HG.out.2.2.1, HG.out.2.2.2.1] at hset
        have HSET := Lib.hid hset
        clear hset
        go_wp2_with fail
        refine (show Calls _ _ _ _ _ from HSET.out).mono ?_
        rintro e wS ⟨rfl, hrepS, hoS⟩
        have hobl : ∀ k, ob = some k → bh < k ∧ k < w4.heap.size := fun k hk => ⟨H4.out.2.2.1.2.2.2 k hk, H4.out.2.2.1.1.lt.2 k hk⟩
        have hbS : Below w.heap.size w wS := HD.out.1.below.trans (hoS.below HD.out.1.below.size (fun b hb e => by have := hobl b e; have := H3.out.1.size; have := H4.out.2.2.2.2.2.2.2.1; omega))
        have hspS : Blk wS P0 23 [.string NM, .string PS, .bool false] := HD.out.1.spec.only hoS (fun e => by have := hobl _ e; have := H3.out.2.1.lt; have := H4.out.2.2.2.2.2.2.2.1; omega)
        have hlS : ERead wS.heap.size wS v10 (Es) := (eread_only HD.out.2.1.read hoS (fun b hb e => by have := HD.out.2.1.lo b hb; have := (hobl b e).2; omega)).mono hoS.size
        have hoff := H9.out.2.1 wS _ hbS hrepS (by have h := rising_set H4.out.2.2.2.1 j HG.out.2.1 (docL b) [.int .i64 r0, .int .i64 r1, .string r2, .slice r3 r4 r5, .slice r6 r7 r8]; rw [HG.out.2.2.1, HG.out.2.2.2.1] at h; exact h) (by rw [List.length_set]; omega) (fun s hs => by
          rcases List.mem_or_eq_of_mem_set hs with h | h
          · exact H4.out.2.2.2.2.1 s h
          · rw [h]; show 0 < g; rw [← HG.out.2.2.2.1]; exact H4.out.2.2.2.2.1 t htm) (fun s hs => by
          rcases List.mem_or_eq_of_mem_set hs with h | h
          · exact H4.out.2.2.2.2.2.1 s h
          · rw [h]; exact H9.out.2.2.2.2.1)
        rw [← HM.out] at hoff
        have HS := Lib.hid (And.intro hbS (And.intro hlS hoff))
        have d0 := hspS.cell 0
        have d1 := hspS.cell 1
        have d2 := hspS.cell 2
        clear c0 c1 c2 c3 c4 hobl hbS hspS hlS hoff hrepS hoS
        go_wp2_with fail
        refine (show Calls _ _ _ _ _ from HS.out.2.2).mono ?_
        rintro e wT ⟨vT, rfl, herT, hbT, _⟩
        have hsame := same_true wT.heap.size wT vT v10 (Es) (by have h := HLEN.out; omega) herT ((HS.out.2.1.later hbT).mono hbT.size) (Nat.le_refl _)
        have HZ := Lib.hid (And.intro hsame (HS.out.1.trans (hbT.mono HS.out.1.size)))
        clear hsame herT hbT d0 d1 d2
        go_wp2_with fail
        refine (show Calls _ _ _ _ _ from HZ.out.1).mono ?_
        rintro e wU ⟨rfl, hbU⟩
        have HU := Lib.hid (HZ.out.2.trans (hbU.mono HZ.out.2.size))
        clear hbU
        go_wp2
        go_ret
        exact ⟨rfl, HU.out⟩
      | some y =>
        rw [hr2] at HM
        have HR2 := Lib.hid hr2
        clear hr2
        have hwith := with_lo w14.heap.size w14 v10 (Es) (keyL y) g true (Nat.le_refl _) (by have h := HLEN.out; omega) HD.out.2.1.read
        have HWI := Lib.hid hwith
        clear hwith
        unfold OptK
        go_wp2_with fail
        refine (show Calls _ _ _ _ _ from HWI.out).mono ?_
        rintro e w15 ⟨v15, rfl, her15, hb15, hlo15⟩
        have HE := Lib.hid (And.intro (HD.out.1.later hb15) (And.intro (LAt.mk her15 (fun x hx => Nat.le_trans HD.out.1.lo (hlo15 x hx))) (HD.out.2.2.trans (hb15.mono HD.out.2.2.size))))
        clear her15 hb15 hlo15
        have c0 := HE.out.1.b2.cell 0
        have c1 := HE.out.1.b2.cell 1
        have c2 := HE.out.1.b2.cell 2
        have c3 := HE.out.1.b2.cell 3
        have c4 := HE.out.1.b2.cell 4
        have hset := set_any w15 bh ob _ T _ j HG.out.2.1 (docL b) _ HE.out.1.rep H4.out.2.2.2.1 (by omega) HE.out.1.vat
        rw [HG.out.2.2.1, HG.out.2.2.2.1] at hset
        have HSET := Lib.hid hset
        clear hset
        go_wp2_with fail
        refine (show Calls _ _ _ _ _ from HSET.out).mono ?_
        rintro e wS ⟨rfl, hrepS, hoS⟩
        have hobl : ∀ k, ob = some k → bh < k ∧ k < w4.heap.size := fun k hk => ⟨H4.out.2.2.1.2.2.2 k hk, H4.out.2.2.1.1.lt.2 k hk⟩
        have hbS : Below w.heap.size w wS := HE.out.1.below.trans (hoS.below HE.out.1.below.size (fun b hb e => by have := hobl b e; have := H3.out.1.size; have := H4.out.2.2.2.2.2.2.2.1; omega))
        have hspS : Blk wS P0 23 [.string NM, .string PS, .bool false] := HE.out.1.spec.only hoS (fun e => by have := hobl _ e; have := H3.out.2.1.lt; have := H4.out.2.2.2.2.2.2.2.1; omega)
        have hlS : ERead wS.heap.size wS v15 (withL (Es) (keyL y, g) true) := (eread_only HE.out.2.1.read hoS (fun b hb e => by have := HE.out.2.1.lo b hb; have := (hobl b e).2; omega)).mono hoS.size
        have hoff := H9.out.2.1 wS _ hbS hrepS (by have h := rising_set H4.out.2.2.2.1 j HG.out.2.1 (docL b) [.int .i64 r0, .int .i64 r1, .string r2, .slice r3 r4 r5, .slice r6 r7 r8]; rw [HG.out.2.2.1, HG.out.2.2.2.1] at h; exact h) (by rw [List.length_set]; omega) (fun s hs => by
          rcases List.mem_or_eq_of_mem_set hs with h | h
          · exact H4.out.2.2.2.2.1 s h
          · rw [h]; show 0 < g; rw [← HG.out.2.2.2.1]; exact H4.out.2.2.2.2.1 t htm) (fun s hs => by
          rcases List.mem_or_eq_of_mem_set hs with h | h
          · exact H4.out.2.2.2.2.2.1 s h
          · rw [h]; exact H9.out.2.2.2.2.1)
        rw [← HM.out] at hoff
        have HS := Lib.hid (And.intro hbS (And.intro hlS hoff))
        have d0 := hspS.cell 0
        have d1 := hspS.cell 1
        have d2 := hspS.cell 2
        clear c0 c1 c2 c3 c4 hobl hbS hspS hlS hoff hrepS hoS
        go_wp2_with fail
        refine (show Calls _ _ _ _ _ from HS.out.2.2).mono ?_
        rintro e wT ⟨vT, rfl, herT, hbT, _⟩
        have hsame := same_true wT.heap.size wT vT v15 (withL (Es) (keyL y, g) true) (by have h := withL_len (Es) (keyL y, g) true; have h2 := HLEN.out; omega) herT ((HS.out.2.1.later hbT).mono hbT.size) (Nat.le_refl _)
        have HZ := Lib.hid (And.intro hsame (HS.out.1.trans (hbT.mono HS.out.1.size)))
        clear hsame herT hbT d0 d1 d2
        go_wp2_with fail
        refine (show Calls _ _ _ _ _ from HZ.out.1).mono ?_
        rintro e wU ⟨rfl, hbU⟩
        have HU := Lib.hid (HZ.out.2.trans (hbU.mono HZ.out.2.size))
        clear hbU
        go_wp2
        go_ret
        exact ⟨rfl, HU.out⟩
    | some x =>
      rw [hr1] at HM
      have HR1 := Lib.hid hr1
      clear hr1
      have hwith := with_lo w11.heap.size w11 v10 Es (keyL x) g false (Nat.le_refl _) (by omega) HB.out.2.1.read
      have HWI1 := Lib.hid hwith
      have HLEN := Lib.hid (show (withL Es (keyL x, g) false).length ≤ 60 by have h := withL_len Es (keyL x, g) false; omega)
      clear hwith
      unfold OptK
      go_wp2_with fail
      refine (show Calls _ _ _ _ _ from HWI1.out).mono ?_
      rintro e w13 ⟨v13, rfl, her13, hb13, hlo13⟩
      have HC := Lib.hid (And.intro (HB.out.1.later hb13) (And.intro (LAt.mk her13 (fun x hx => Nat.le_trans HB.out.1.lo (hlo13 x hx))) (HB.out.2.2.trans (hb13.mono HB.out.2.2.size))))
      clear her13 hb13 hlo13
      have c0 := HC.out.1.spec.cell 0
      have c1 := HC.out.1.spec.cell 1
      have c2 := HC.out.1.spec.cell 2
      have x0 := HC.out.1.b2.cell 0
      have x1 := HC.out.1.b2.cell 1
      have x2 := HC.out.1.b2.cell 2
      have x3 := HC.out.1.b2.cell 3
      have x4 := HC.out.1.b2.cell 4
      go_wp2_with fail
      refine (show Calls _ _ _ _ _ from H9.out.2.2.1 w13 (docL b) [.int .i64 r0, .int .i64 r1, .string r2, .slice r3 r4 r5, .slice r6 r7 r8] HC.out.1.below HC.out.2.2.size H9.out.2.2.2.2.1 HC.out.1.vat).mono ?_
      rintro e w14 ⟨rfl, hb14⟩
      have HD := Lib.hid (And.intro (HC.out.1.later hb14) (And.intro (HC.out.2.1.later hb14) (HC.out.2.2.trans (hb14.mono HC.out.2.2.size))))
      clear hb14 c0 c1 c2 x0 x1 x2 x3 x4
      cases hr2 : findP placeK (docL b) (partS k) with
      | none =>
        rw [hr2] at HM
        have HR2 := Lib.hid hr2
        clear hr2
        unfold OptK
        have c0 := HD.out.1.b2.cell 0
        have c1 := HD.out.1.b2.cell 1
        have c2 := HD.out.1.b2.cell 2
        have c3 := HD.out.1.b2.cell 3
        have c4 := HD.out.1.b2.cell 4
        have hset := set_any w14 bh ob _ T _ j HG.out.2.1 (docL b) _ HD.out.1.rep H4.out.2.2.2.1 (by omega) HD.out.1.vat
        rw [HG.out.2.2.1, HG.out.2.2.2.1] at hset
        have HSET := Lib.hid hset
        clear hset
        go_wp2_with fail
        refine (show Calls _ _ _ _ _ from HSET.out).mono ?_
        rintro e wS ⟨rfl, hrepS, hoS⟩
        have hobl : ∀ k, ob = some k → bh < k ∧ k < w4.heap.size := fun k hk => ⟨H4.out.2.2.1.2.2.2 k hk, H4.out.2.2.1.1.lt.2 k hk⟩
        have hbS : Below w.heap.size w wS := HD.out.1.below.trans (hoS.below HD.out.1.below.size (fun b hb e => by have := hobl b e; have := H3.out.1.size; have := H4.out.2.2.2.2.2.2.2.1; omega))
        have hspS : Blk wS P0 23 [.string NM, .string PS, .bool false] := HD.out.1.spec.only hoS (fun e => by have := hobl _ e; have := H3.out.2.1.lt; have := H4.out.2.2.2.2.2.2.2.1; omega)
        have hlS : ERead wS.heap.size wS v13 (withL Es (keyL x, g) false) := (eread_only HD.out.2.1.read hoS (fun b hb e => by have := HD.out.2.1.lo b hb; have := (hobl b e).2; omega)).mono hoS.size
        have hoff := H9.out.2.1 wS _ hbS hrepS (by have h := rising_set H4.out.2.2.2.1 j HG.out.2.1 (docL b) [.int .i64 r0, .int .i64 r1, .string r2, .slice r3 r4 r5, .slice r6 r7 r8]; rw [HG.out.2.2.1, HG.out.2.2.2.1] at h; exact h) (by rw [List.length_set]; omega) (fun s hs => by
          rcases List.mem_or_eq_of_mem_set hs with h | h
          · exact H4.out.2.2.2.2.1 s h
          · rw [h]; show 0 < g; rw [← HG.out.2.2.2.1]; exact H4.out.2.2.2.2.1 t htm) (fun s hs => by
          rcases List.mem_or_eq_of_mem_set hs with h | h
          · exact H4.out.2.2.2.2.2.1 s h
          · rw [h]; exact H9.out.2.2.2.2.1)
        rw [← HM.out] at hoff
        have HS := Lib.hid (And.intro hbS (And.intro hlS hoff))
        have d0 := hspS.cell 0
        have d1 := hspS.cell 1
        have d2 := hspS.cell 2
        clear c0 c1 c2 c3 c4 hobl hbS hspS hlS hoff hrepS hoS
        go_wp2_with fail
        refine (show Calls _ _ _ _ _ from HS.out.2.2).mono ?_
        rintro e wT ⟨vT, rfl, herT, hbT, _⟩
        have hsame := same_true wT.heap.size wT vT v13 (withL Es (keyL x, g) false) (by have h := HLEN.out; omega) herT ((HS.out.2.1.later hbT).mono hbT.size) (Nat.le_refl _)
        have HZ := Lib.hid (And.intro hsame (HS.out.1.trans (hbT.mono HS.out.1.size)))
        clear hsame herT hbT d0 d1 d2
        go_wp2_with fail
        refine (show Calls _ _ _ _ _ from HZ.out.1).mono ?_
        rintro e wU ⟨rfl, hbU⟩
        have HU := Lib.hid (HZ.out.2.trans (hbU.mono HZ.out.2.size))
        clear hbU
        go_wp2
        go_ret
        exact ⟨rfl, HU.out⟩
      | some y =>
        rw [hr2] at HM
        have HR2 := Lib.hid hr2
        clear hr2
        have hwith := with_lo w14.heap.size w14 v13 (withL Es (keyL x, g) false) (keyL y) g true (Nat.le_refl _) (by have h := HLEN.out; omega) HD.out.2.1.read
        have HWI := Lib.hid hwith
        clear hwith
        unfold OptK
        go_wp2_with fail
        refine (show Calls _ _ _ _ _ from HWI.out).mono ?_
        rintro e w15 ⟨v15, rfl, her15, hb15, hlo15⟩
        have HE := Lib.hid (And.intro (HD.out.1.later hb15) (And.intro (LAt.mk her15 (fun x hx => Nat.le_trans HD.out.1.lo (hlo15 x hx))) (HD.out.2.2.trans (hb15.mono HD.out.2.2.size))))
        clear her15 hb15 hlo15
        have c0 := HE.out.1.b2.cell 0
        have c1 := HE.out.1.b2.cell 1
        have c2 := HE.out.1.b2.cell 2
        have c3 := HE.out.1.b2.cell 3
        have c4 := HE.out.1.b2.cell 4
        have hset := set_any w15 bh ob _ T _ j HG.out.2.1 (docL b) _ HE.out.1.rep H4.out.2.2.2.1 (by omega) HE.out.1.vat
        rw [HG.out.2.2.1, HG.out.2.2.2.1] at hset
        have HSET := Lib.hid hset
        clear hset
        go_wp2_with fail
        refine (show Calls _ _ _ _ _ from HSET.out).mono ?_
        rintro e wS ⟨rfl, hrepS, hoS⟩
        have hobl : ∀ k, ob = some k → bh < k ∧ k < w4.heap.size := fun k hk => ⟨H4.out.2.2.1.2.2.2 k hk, H4.out.2.2.1.1.lt.2 k hk⟩
        have hbS : Below w.heap.size w wS := HE.out.1.below.trans (hoS.below HE.out.1.below.size (fun b hb e => by have := hobl b e; have := H3.out.1.size; have := H4.out.2.2.2.2.2.2.2.1; omega))
        have hspS : Blk wS P0 23 [.string NM, .string PS, .bool false] := HE.out.1.spec.only hoS (fun e => by have := hobl _ e; have := H3.out.2.1.lt; have := H4.out.2.2.2.2.2.2.2.1; omega)
        have hlS : ERead wS.heap.size wS v15 (withL (withL Es (keyL x, g) false) (keyL y, g) true) := (eread_only HE.out.2.1.read hoS (fun b hb e => by have := HE.out.2.1.lo b hb; have := (hobl b e).2; omega)).mono hoS.size
        have hoff := H9.out.2.1 wS _ hbS hrepS (by have h := rising_set H4.out.2.2.2.1 j HG.out.2.1 (docL b) [.int .i64 r0, .int .i64 r1, .string r2, .slice r3 r4 r5, .slice r6 r7 r8]; rw [HG.out.2.2.1, HG.out.2.2.2.1] at h; exact h) (by rw [List.length_set]; omega) (fun s hs => by
          rcases List.mem_or_eq_of_mem_set hs with h | h
          · exact H4.out.2.2.2.2.1 s h
          · rw [h]; show 0 < g; rw [← HG.out.2.2.2.1]; exact H4.out.2.2.2.2.1 t htm) (fun s hs => by
          rcases List.mem_or_eq_of_mem_set hs with h | h
          · exact H4.out.2.2.2.2.2.1 s h
          · rw [h]; exact H9.out.2.2.2.2.1)
        rw [← HM.out] at hoff
        have HS := Lib.hid (And.intro hbS (And.intro hlS hoff))
        have d0 := hspS.cell 0
        have d1 := hspS.cell 1
        have d2 := hspS.cell 2
        clear c0 c1 c2 c3 c4 hobl hbS hspS hlS hoff hrepS hoS
        go_wp2_with fail
        refine (show Calls _ _ _ _ _ from HS.out.2.2).mono ?_
        rintro e wT ⟨vT, rfl, herT, hbT, _⟩
        have hsame := same_true wT.heap.size wT vT v15 (withL (withL Es (keyL x, g) false) (keyL y, g) true) (by have h := withL_len (withL Es (keyL x, g) false) (keyL y, g) true; have h2 := HLEN.out; omega) herT ((HS.out.2.1.later hbT).mono hbT.size) (Nat.le_refl _)
        have HZ := Lib.hid (And.intro hsame (HS.out.1.trans (hbT.mono HS.out.1.size)))
        clear hsame herT hbT d0 d1 d2
        go_wp2_with fail
        refine (show Calls _ _ _ _ _ from HZ.out.1).mono ?_
        rintro e wU ⟨rfl, hbU⟩
        have HU := Lib.hid (HZ.out.2.trans (hbU.mono HZ.out.2.size))
        clear hbU
        go_wp2
        go_ret
        exact ⟨rfl, HU.out⟩
theorem imoves_int (n : Int) (hw : (Lit.int .u8 n).wf = true) (idn : Int) (hw2 : (Lit.int .u8 idn).wf = true) (w : World) (sv sv2 : Value) (L : List BL) (b : BL) (h1 : LRead w.heap.size w sv L) (h2 : BRead w.heap.size w sv2 b) (hI : IxW w) :
    Calls Tryz.prog 7 #[.int .u8 n, sv, .int .u8 idn, sv2] w fun e w' => e = .returned (.bool true) ∧ Below w.heap.size w w' := by
  obtain ⟨k, hk, rfl⟩ := u8_nat hw
  obtain ⟨k2, hk2, rfl⟩ := u8_nat hw2
  exact imoves_law k hk k2 hk2 w.heap.size w sv sv2 L b (Nat.le_refl _) h1 h2 hI
end Go.Proofs.YtecnjifincahaaaGreatDoor
