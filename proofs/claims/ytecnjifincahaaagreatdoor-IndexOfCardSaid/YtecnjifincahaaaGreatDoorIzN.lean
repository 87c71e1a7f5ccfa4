/- IndexOf's walk. -/
import Derived.Test.YtecnjifincahaaaGreatDoorIzM
namespace Go.Proofs.YtecnjifincahaaaGreatDoor
open Go.Shelf Go.RowKit Go.Lib

/-- what stands while records are taken away. -/
structure GoneAt (w W : World) (P0 bh : Nat) (ob : Option Nat) (S : Nat → Prop) (T T' : List DocT) (last : Int) (spec : List Value) : Prop where
  below : Below w.heap.size w W
  spec : Blk W P0 23 spec
  rep : HRep W bh ob S T' last
  map : MapS i64V W (bh + 1) (lookC T')
  rising : Rising T'
  few : T'.length ≤ 30
  sub : ∀ t ∈ T', t ∈ T
  from_ : ∀ b, b < w.heap.size → b ≠ bh ∧ ob ≠ some b
theorem GoneAt.later {w W W2 : World} {P0 bh : Nat} {ob : Option Nat} {S : Nat → Prop} {T T' : List DocT} {last : Int} {spec : List Value} (h : GoneAt w W P0 bh ob S T T' last spec) (hb : Below W.heap.size W W2) : GoneAt w W2 P0 bh ob S T T' last spec :=
  ⟨h.below.trans (hb.mono h.below.size), h.spec.below hb, h.rep.later hb, h.map.only (Only.ofBelow hb (fun _ => False)) (fun h => h), h.rising, h.few, h.sub, h.from_⟩
theorem GoneAt.drop {w W W2 : World} {P0 bh : Nat} {ob : Option Nat} {S : Nat → Prop} {T T' T2 : List DocT} {last g : Int} {spec : List Value} (h : GoneAt w W P0 bh ob S T T' last spec) (hP : P0 < bh) (hob : ∀ k, ob = some k → bh + 1 < k) (hw : w.heap.size ≤ bh) (hS : ∀ b, S b → bh + 1 < b)
    (hr : HRep W2 bh ob S T2 last) (hR : Rising T2) (hl : T2.length ≤ T'.length) (hm : ∀ s, s ∈ T2 ↔ s ∈ T' ∧ s.id ≠ g) (ho : Only (fun k => k = bh ∨ ob = some k) W W2) :
    ∃ W3, (∀ ty, (Builtin.delete_ #[48, 2] ty #[.map (some (bh + 1)), .int .i64 g]).run Tryz.prog W2 = .ok (.tuple #[]) W3) ∧ GoneAt w W3 P0 bh ob S T T2 last spec := by
  have hm2 : MapS i64V W2 (bh + 1) (lookC T') := h.map.only ho (fun e => by rcases e with e | e; omega; have := hob _ e; omega)
  have hd := fun ty => hm2.delete (ut := 2) (ty := ty) keyI64 Tryz.underlying48 g
  obtain ⟨W3, hrun, hm3, ho3, _⟩ := hd 0
  have hall : ∀ ty, (Builtin.delete_ #[48, 2] ty #[.map (some (bh + 1)), .int .i64 g]).run Tryz.prog W2 = .ok (.tuple #[]) W3 := fun ty => hrun
  refine ⟨W3, hall, ?_⟩
  have hb2 := h.below.trans (ho.below h.below.size (fun b hb e => by have h2 := h.from_ b hb; rcases e with e | e; exact h2.1 e; exact h2.2 e))
  refine ⟨hb2.trans (ho3.below hb2.size (fun b hb e => by omega)), (h.spec.only ho (fun e => by rcases e with e | e; omega; have := hob _ e; omega)).only ho3 (fun e => by omega), hr.keep ho3 (fun e => by omega) (fun k hk e => by have := hob k hk; omega) (fun b hb e => by have := hS b hb; omega), hm3.congr (fun k => look_drop h.rising hR hm k), hR, by have := h.few; omega, fun t ht => h.sub t ((hm t).1 ht).1, h.from_⟩

set_option maxHeartbeats 16000000 in
set_option maxRecDepth 100000 in
theorem iofl_law (n : Nat) (hn : n < 256) (nb : Nat) (w : World) (sv sv2 : Value) (L : List BL) (gl : BL) (hnb : nb ≤ w.heap.size) (h1 : LRead nb w sv L) (h2 : BRead nb w sv2 gl) (hI : IxW w) :
    Calls Tryz.prog 8 #[.int .u8 n, sv, sv2] w fun e w' => e = .returned (.bool true) ∧ Below w.heap.size w w' := by
  obtain ⟨gm, ga, gcap, rfl, hgc, hgx⟩ := h2
  obtain ⟨gn, hgn⟩ : ∃ k, gl.length = k := ⟨_, rfl⟩
  obtain ⟨m, hm⟩ : ∃ k, min gn 20 = k := ⟨_, rfl⟩
  have HBR := Lib.hid (And.intro hgx (And.intro hgn hnb))
  rw [hgn] at hgc ⊢
  have hmz : min (gn : Int) 20 = (m : Int) := by omega
  have hmn : m ≤ gn := by omega
  have hmc : m ≤ gcap := by omega
  have hmn2 : (m : Int) ≤ (gn : Int) := by omega
  have hmc2 : (m : Int) ≤ (gcap : Int) := by omega
  have hm20 : m ≤ 20 := by omega
  clear hgx hgn hm
  have hspec := fun W => spec_any n hn false W
  obtain ⟨k, hk⟩ : ∃ k, n % 5 = k := ⟨_, rfl⟩
  have hk5 : k < 5 := by omega
  obtain ⟨NM, hNM⟩ : ∃ s, BA (105 :: dig (n % 10)) = s := ⟨_, rfl⟩
  obtain ⟨PS, hPS⟩ : ∃ s, BA (pathS k) = s := ⟨_, rfl⟩
  rw [hk, hNM, hPS] at hspec
  have H0 := Lib.hid (And.intro hI (And.intro hnb (And.intro h1 (And.intro hspec (And.intro hk5 hPS)))))
  clear hI hnb hspec hk5 hn hk hNM hPS
  obtain ⟨s1, s2, s3, rfl⟩ : ∃ a m c, sv = .slice a m c := by obtain ⟨a, c, h, _⟩ := h1; exact ⟨a, _, c, h⟩
  clear h1
  go_enter Tryz.func8, Tryz.ntmps8
  go_wp2_with fail
  refine (ixawake_any w H0.out.1).mono ?_
  rintro e w1 ⟨rfl, hb1⟩
  have H1 := Lib.hid hb1
  clear hb1
  go_wp2_with fail
  refine (H0.out.2.2.2.1 w1).mono ?_
  rintro e w2 ⟨rfl, hb2⟩
  have H2 := Lib.hid (H1.out.trans (hb2.mono H1.out.size))
  clear hb2
  obtain ⟨P0, hP0⟩ : ∃ P, w2.heap.size = P := ⟨_, rfl⟩
  obtain ⟨w3, hw3⟩ : ∃ W, w2.alloc (.cells #[.string NM, .string PS, .bool false] 23) = W := ⟨_, rfl⟩
  have hb3 : Below w2.heap.size w2 w3 := by rw [← hw3]; exact (Below.refl _ _).alloc (Nat.le_refl _) _
  have hk3 : Blk w3 P0 23 [.string NM, .string PS, .bool false] := by rw [← hw3, ← hP0]; exact heap_alloc_new w2 _
  have H3 := Lib.hid (And.intro (H2.out.trans (hb3.mono H2.out.size)) (And.intro hk3 (And.intro hP0 hw3)))
  clear hb3 hk3 hP0 hw3
  go_wp2_with fail
  rw [H3.out.2.2.2, H3.out.2.2.1]
  refine (filled_any nb w3 _ L (Nat.le_trans H0.out.2.1 H3.out.1.size) (H0.out.2.2.1.later (H3.out.1.mono H0.out.2.1)) (H0.out.1.words.later H3.out.1)).mono ?_
  rintro e w4 ⟨T, ob, rfl, hF, hT, hb4⟩
  obtain ⟨bh, hbh⟩ : ∃ b, w3.heap.size = b := ⟨_, rfl⟩
  rw [hbh] at hF ⊢
  have hTl : T.length ≤ 30 := by
    have h := congrArg List.length hT
    rw [List.length_map, recs_len, List.length_take] at h
    omega
  obtain ⟨hris, hge, hdoc⟩ := recs_rising hT
  have hsm : ∀ t ∈ T, smallV t.v ∧ (keyL t.v).length ≤ 1000000 := fun t ht => by
    obtain ⟨b, hb⟩ := hdoc t ht
    rw [hb]
    exact ⟨small_made 3 _, Nat.le_trans (keyL_made 3 _) (by decide)⟩
  have hbw4 := H3.out.1.trans (hb4.mono H3.out.1.size)
  have H4 := Lib.hid (And.intro hbw4 (And.intro (H3.out.2.1.below hb4) (And.intro hF (And.intro hris (And.intro (show ∀ t ∈ T, 0 < t.id from fun t ht => by have := hge t ht; omega) (And.intro hsm (And.intro hTl (And.intro hbh hb4.size))))))))
  clear hbw4 hb4 hF hris hge hdoc hsm hTl hT hbh
  have hlt4 := H4.out.2.2.1.1.lt
  have hml4 := H4.out.2.2.1.2.1.lt
  have hPb : P0 < bh := by have h1 := H3.out.2.1.lt; rw [H4.out.2.2.2.2.2.2.2.1] at h1; exact h1
  have hwb : w.heap.size ≤ bh := by have := H3.out.1.size; rw [H4.out.2.2.2.2.2.2.2.1] at this; exact this
  have hob4 : ∀ k, ob = some k → bh + 1 < k := fun k hk => by
    have h1 := H4.out.2.2.1.2.2.2 k hk
    have h2 := H4.out.2.2.1.2.2.1
    have h3 : k ≠ bh + 1 := fun e => h2 (by rw [hk, e])
    omega
  have hst : GoneAt w w4 P0 bh ob (fun b => bh + 1 < b ∧ b < w4.heap.size ∧ ob ≠ some b) T T (T.length : Int) [.string NM, .string PS, .bool false] :=
    ⟨H4.out.1, H4.out.2.1, H4.out.2.2.1.1, H4.out.2.2.1.2.1, H4.out.2.2.2.1, H4.out.2.2.2.2.2.2.1, fun t ht => ht, fun b hb => ⟨by omega, fun e => by have := hob4 b e; omega⟩⟩
  have HG := Lib.hid (And.intro hst (And.intro hPb (And.intro hwb hob4)))
  clear hlt4 hml4 hPb hwb hob4 hst
  go_wp2_with fail
  go_loopg [39] m (fun gk iv wr => ∃ (i : Nat) (T' : List DocT), gk + i = m ∧ iv = .int .i64 (i : Int) ∧ GoneAt w wr P0 bh ob (fun b => bh + 1 < b ∧ b < w4.heap.size ∧ ob ≠ some b) T T' (T.length : Int) [.string NM, .string PS, .bool false])
  case atStart => exact ⟨0, T, by omega, rfl, HG.out.1⟩
  case round =>
    obtain ⟨i, T', hgi, rfl, hat⟩ := hrel
    have HA := Lib.hid hat
    clear hat
    by_cases hi : i < m
    · have hiz : (i : Int) < (m : Int) := by omega
      have hwK : IntKind.i64.wrap ((i : Int) + 1) = (i : Int) + 1 := IntWalk.i64_in _ (by omega)
      have hgn := HBR.out.2.1
      obtain ⟨b, off, rfl, hbn, hcells⟩ := HBR.out.1 (by omega)
      obtain ⟨u, hu⟩ : ∃ u, gl[i]'(by omega) = u := ⟨_, rfl⟩
      have hc := hcells i u (by rw [List.getElem?_eq_getElem (by omega), hu])
      have f0 : wr.cell? ⟨b, off + i, none⟩ = some (.int .u8 u.toNat) := (World.cell?_of_block (HA.out.below.block b (by have := HBR.out.2.2; omega))).trans hc
      obtain ⟨g, hg⟩ : ∃ g : Int, (u.toNat : Int) % 32 = g := ⟨_, rfl⟩
      have hdel := hdel_any wr bh ob _ T' _ g HA.out.rep HA.out.rising (by have := HA.out.few; omega)
      have HD := Lib.hid hdel
      clear hc hcells hu hdel hbn
      go_wp2_with fail
      refine (show Calls _ _ _ _ _ from HD.out).mono ?_
      rintro e w7 ⟨T2, bb, rfl, hr, hR, hl, hmm, ho⟩
      obtain ⟨w8, hdel, hat8⟩ := HA.out.drop HG.out.2.1 HG.out.2.2.2 HG.out.2.2.1 (fun b hb => hb.1) hr hR hl hmm ho
      have hd0 := hdel 0
      have HR := Lib.hid hat8
      clear hdel hat8 hr hR hl hmm ho f0
      go_wp2
      go_roundg (gk - 1)
      case rel => exact ⟨i + 1, T2, by omega, by first | rfl | (push_cast; rfl), HR.out⟩
      case measure => omega
    · have hiz : ¬ (i : Int) < (m : Int) := by omega
      have hbel := HA.out.below
      have hS4 : ∀ b, (bh + 1 < b ∧ b < w4.heap.size ∧ ob ≠ some b) → b < wr.heap.size := fun b hb => by obtain ⟨_, _, _, _, _, hS, _⟩ := HA.out.rep; exact (hS b hb).1
      have hpos : ∀ t ∈ T', 0 < t.id := fun t ht => H4.out.2.2.2.2.1 t (HA.out.sub t ht)
      have hsm : ∀ t ∈ T', smallV t.v ∧ (keyL t.v).length ≤ 1000000 := fun t ht => H4.out.2.2.2.2.2.1 t (HA.out.sub t ht)
      have hofi : Calls Tryz.prog 21 #[.agg #[.string NM, .string PS, .bool false], .pointer (some ⟨bh, 0, none⟩)] wr.drew fun e w' => ∃ v, e = .returned v ∧ ERead w'.heap.size w' v (sortE (entsOf k T')) ∧ Below wr.drew.heap.size wr.drew w' := by
        have hr := HA.out.rep.later (Below.refl _ wr).drew
        have hrd := hr.read HA.out.rising (by have := HA.out.few; omega)
        obtain ⟨_, _, _, _, hvs, hSl, _⟩ := hr
        rw [← H0.out.2.2.2.2.2]
        exact iof_any NM false k H0.out.2.2.2.2.1 wr.drew bh T' _ _ hrd hpos hvs (fun b hb => (hSl b hb).1) hsm (H0.out.1.below hbel.drew)
      have hofl : ∀ W, Below wr.heap.size wr.drew W → Calls Tryz.prog 19 #[.agg #[.string NM, .string PS, .bool false], .map (some (bh + 1))] W fun e w' => ∃ v, e = .returned v ∧ ERead w'.heap.size w' v (sortE (entsOf k T')) ∧ Below W.heap.size W w' := fun W hW => by
        have hA := HA.out.later ((Below.refl _ wr).drew.trans hW)
        obtain ⟨_, _, _, _, hvs, hSl, _⟩ := hA.rep
        rw [← H0.out.2.2.2.2.2]
        refine (lof_any NM false k H0.out.2.2.2.2.1 W (bh + 1) T' _ hA.map hvs (fun b hb => (hSl b hb).1) hsm (by have := HA.out.few; omega) (H0.out.1.ml.later hA.below)).mono ?_
        rintro e w' ⟨v, P, rfl, her, hall, hb⟩
        rw [of_sorted k HA.out.rising hall] at her
        exact ⟨v, rfl, her, hb⟩
      have hEl : (sortE (entsOf k T')).length ≤ 1000000 := by rw [sortE_length]; have := entsOf_len k T'; have := HA.out.few; omega
      have HZ := Lib.hid (And.intro hofi (And.intro hofl (And.intro hEl (And.intro hbel.drew HA.out.spec.drew))))
      clear hbel hS4 hpos hsm hofi hofl hEl
      go_wp2_with fail
      refine AnyP.begin (J := fun j => Nat.ble j 4) (S := fun W => Blk W P0 23 [.string NM, .string PS, .bool false]) (by kernel_rfl) rfl rfl ?_
      refine AnyP.takeP (i := 1) (v := .pointer (some ⟨bh, 0, none⟩)) rfl rfl (by kernel_rfl) (by kernel_rfl) (by kernel_rfl) (fun _ _ _ h => h) (by rfl) ?_ ?_
      · intro W
        go_simp
        try (with_reducible rfl)
      simp only [Act.put, List.setIfInBounds_toArray, List.set_cons_zero, List.set_cons_succ]
      refine AnyP.takeP (i := 4) (v := .map (some (bh + 1))) rfl rfl (by kernel_rfl) (by kernel_rfl) (by kernel_rfl) (fun _ _ _ h => h) (by rfl) ?_ ?_
      · intro W
        go_simp
        try (with_reducible rfl)
      simp only [Act.put, List.setIfInBounds_toArray, List.set_cons_zero, List.set_cons_succ]
      refine AnyP.takeT [3] (by rfl) (i := 0) (v := .agg #[.string NM, .string PS, .bool false]) rfl rfl (by kernel_rfl) (by kernel_rfl) (by kernel_rfl) (by kernel_rfl) (fun _ _ _ h => h) (by rfl) ?_ HZ.out.2.2.2.2 ?_
      · intro W hW
        have n0 := hW.cell 0
        have n1 := hW.cell 1
        have n2 := hW.cell 2
        go_simp
        try (with_reducible rfl)
      simp only [Act.put, List.setIfInBounds_toArray, List.set_cons_zero, List.set_cons_succ]
      refine AnyP.takeT [2] (by rfl) (i := 3) (v := .agg #[.string NM, .string PS, .bool false]) rfl rfl (by kernel_rfl) (by kernel_rfl) (by kernel_rfl) (by kernel_rfl) (fun _ _ _ h => h) (by rfl) ?_ HZ.out.2.2.2.2 ?_
      · intro W hW
        have n0 := hW.cell 0
        have n1 := hW.cell 1
        have n2 := hW.cell 2
        go_simp
        try (with_reducible rfl)
      simp only [Act.put, List.setIfInBounds_toArray, List.set_cons_zero, List.set_cons_succ]
      refine AnyP.oneL (i := 2) (by kernel_rfl) rfl (fun K hK => ?_)
      go_simp
      go_at_call 21
      refine (show Calls _ _ _ _ _ from HZ.out.1).mono ?_
      rintro e wa ⟨va, rfl, hera, hba⟩
      have HB1 := Lib.hid hba
      have HE1 := Lib.hid (And.intro hera (HZ.out.2.2.2.1.trans (hba.mono HZ.out.2.2.2.1.size)))
      clear hera hba
      refine hK.out _ _ (fun _ h => h.below HB1.out) ?_
      clear hK K
      (try simp only [Act.put, List.setIfInBounds_toArray, List.set_cons_zero, List.set_cons_succ])
      refine AnyP.oneL (i := 5) (by kernel_rfl) rfl (fun K hK => ?_)
      go_simp
      go_at_call 19
      refine (show Calls _ _ _ _ _ from HZ.out.2.1 wa HB1.out).mono ?_
      rintro e wb ⟨vb, rfl, herb, hbb⟩
      have hsame := same_true wb.heap.size wb va vb (sortE (entsOf k T')) HZ.out.2.2.1 ((HE1.out.1.later hbb).mono hbb.size) herb (Nat.le_refl _)
      have HE2 := Lib.hid (And.intro hsame (HE1.out.2.trans (hbb.mono HE1.out.2.size)))
      clear herb hbb hsame
      refine hK.out _ _ (fun h => by cases h) ?_
      clear hK K
      (try simp only [Act.put, List.setIfInBounds_toArray, List.set_cons_zero, List.set_cons_succ])
      refine AnyP.oneL (i := 6) (by kernel_rfl) rfl (fun K hK => ?_)
      go_simp
      go_at_call 26
      refine (show Calls _ _ _ _ _ from HE2.out.1).mono ?_
      rintro e wc ⟨rfl, hbc⟩
      have HU := Lib.hid (HE2.out.2.trans (hbc.mono HE2.out.2.size))
      clear hbc
      refine hK.out _ _ (fun h => by cases h) ?_
      clear hK K
      (try simp only [Act.put, List.setIfInBounds_toArray, List.set_cons_zero, List.set_cons_succ])
      refine AnyP.takeP (i := 7) (v := .bool true) rfl rfl (by kernel_rfl) (by kernel_rfl) (by kernel_rfl) (fun _ _ _ h => h) (by rfl) ?_ ?_
      · intro W
        go_simp
        try (with_reducible rfl)
      simp only [Act.put, List.setIfInBounds_toArray, List.set_cons_zero, List.set_cons_succ]
      refine AnyP.done (by kernel_rfl) ?_
      go_wp2
      go_ret
      exact ⟨rfl, HU.out⟩
theorem iofl_int (n : Int) (hw : (Lit.int .u8 n).wf = true) (w : World) (sv sv2 : Value) (L : List BL) (b : BL) (h1 : LRead w.heap.size w sv L) (h2 : BRead w.heap.size w sv2 b) (hI : IxW w) :
    Calls Tryz.prog 8 #[.int .u8 n, sv, sv2] w fun e w' => e = .returned (.bool true) ∧ Below w.heap.size w w' := by
  obtain ⟨k, hk, rfl⟩ := u8_nat hw
  exact iofl_law k hk w.heap.size w sv sv2 L b (Nat.le_refl _) h1 h2 hI
end Go.Proofs.YtecnjifincahaaaGreatDoor
