/- LockActs: the law's walk. -/
import Derived.Test.YteghcgiclpbkdaaDoorLkZ
namespace Go.Proofs.YteghcgiclpbkdaaDoor
open Go.RowKit

set_option maxRecDepth 100000 in
set_option maxHeartbeats 8000000 in
theorem lacts_law (v : Value) (l : List LDeed) (id odd : Int) (w : World) (hv : LRead w v l) (hg : ErrT w) :
    Calls Tryd.prog 5 #[v, .int .i64 id, .int .i64 odd] w fun e w' => e = .returned (.bool true) ∧ Below w.heap.size w w' := by
  have HV := Lib.hid hv
  have HG := Lib.hid hg
  obtain ⟨hm, hok, a, cap, rfl, hcap, hcap2, _⟩ := hv
  have HOK0 := Lib.hid hok
  clear hg hok
  go_enter Tryd.func5, Tryd.ntmps5
  go_wp2_with fail
  refine (lawake_any _ HG.out).mono ?_
  rintro e w1 ⟨rfl, hb⟩
  have HB := Lib.hid hb
  clear hb
  go_wp2_with fail
  refine (lockNew_any _).mono ?_
  rintro e w2 ⟨rfl, hq, hb2⟩
  obtain ⟨q, hqq⟩ : ∃ q, q = w1.heap.size := ⟨_, rfl⟩
  obtain ⟨n, hnn⟩ : ∃ n, n = w2.heap.size := ⟨_, rfl⟩
  have hbl : Blk (w2.alloc (.cells #[.slice none 0 0, .slice none 0 0] 39)) n 39 [.slice none 0 0, .slice none 0 0] := by rw [hnn]; exact heap_alloc_new w2 _
  have hbA : Below w2.heap.size w2 (w2.alloc (.cells #[.slice none 0 0, .slice none 0 0] 39)) := (Below.refl _ _).alloc (Nat.le_refl _) _
  have hno : ∀ b, NotIn (.slice none 0 0) b := fun b x k c e => by simp at e
  have hla : LA (fun b => w1.heap.size ≤ b ∧ b < w2.heap.size) (.slice none 0 0) (.slice none 0 0) w.heap.size n (w2.alloc (.cells #[.slice none 0 0, .slice none 0 0] 39)) q ([], []) ([], []) :=
    ⟨by rw [hqq]; exact (hq.mono (fun b h1 h2 => ⟨h2, h1⟩)).below hbA, fun b hs => ⟨by have := HB.out.size; omega, by have := hbA.size; omega⟩, hbl, ⟨by simp, none, 0, rfl, fun h => by simp at h⟩, ⟨by simp, none, 0, rfl, fun h => by simp at h⟩, by omega, fun b _ => hno b, fun b _ => hno b, hno n, hno n, by have := HB.out.size; have := hb2.size; omega, fun x k c e => by simp at e, fun x k c e => by simp at e⟩
  have HS := Lib.hid (And.intro hla (HB.out.trans ((hb2.trans (hbA.mono hb2.size)).mono HB.out.size)))
  rw [← hqq]
  clear hq hb2 hbl hbA hno hla hqq
  have HNN := Lib.hid hnn
  clear hnn
  by_cases h80 : (l.length : Int) ≤ 100
  · go_wp2
    rw [← HNN.out]
    go_loopg [35] l.length (fun m kv wr => ∃ k : Nat, kv = .int .i64 (k : Int) ∧ k + m = l.length ∧ (∃ S v1 v2, LA S v1 v2 w.heap.size n wr q (runL (l.take k)) (runL (l.take k))) ∧ Below w.heap.size w wr)
    case atStart => exact ⟨0, rfl, by omega, ⟨_, _, _, HS.out.1⟩, HS.out.2⟩
    case round =>
      obtain ⟨k, rfl, hkm, ⟨S, v1, v2, hla⟩, hbr⟩ := hrel
      have hlen : (runL (l.take k)).1.length + (runL (l.take k)).2.length ≤ 100 := Nat.le_trans (runL_len _) (by rw [List.length_take]; omega)
      obtain ⟨ss, hss⟩ : ∃ ss, ss = runL (l.take k) := ⟨_, rfl⟩
      rw [← hss] at hla hlen
      have HLN := Lib.hid hlen
      obtain ⟨_, a1, c1, rfl, _⟩ := (show _ from hla.r1)
      obtain ⟨_, a2, c2, rfl, _⟩ := (show _ from hla.r2)
      obtain ⟨n1, hn1⟩ : ∃ n1, n1 = ss.1.length := ⟨_, rfl⟩
      obtain ⟨n2, hn2⟩ : ∃ n2, n2 = ss.2.length := ⟨_, rfl⟩
      rw [← hn1, ← hn2] at hla
      have HLA := Lib.hid (And.intro hla hbr)
      have HSK := Lib.hid hss
      clear hla hbr hss hlen HS hn1 hn2
      cases gk with
      | zero =>
        have hkn : ¬ ((k : Int) < (l.length : Int)) := by omega
        by_cases ho1 : odd < 1
        · have him : intentI odd = 0 := by unfold intentI; rw [if_neg (by omega), if_neg (by omega)]
          have haq : askQ ss.1 ss.2 id odd = (false, ss.1, ss.2) := by unfold askQ; rw [if_pos (.inl him)]
          have HIM := Lib.hid him
          have HAQ := Lib.hid haq
          clear him haq
          go_wp2_with fail
          refine (ask_any id odd HLA.out.1.q (by have := HLN.out; omega)).mono ?_
          rintro e w5 ⟨err, rfl, hq5, ho5, hat⟩
          rw [HAQ.out] at hq5
          rw [HAQ.out]
          unfold AskTold at hat
          rw [if_pos HIM.out] at hat
          have hL5 := HLA.out.1.step (s2 := ss) HLA.out.2.size hq5 (fun b hb => hb) ho5
          have hb5 : Below w.heap.size w w5 := HLA.out.2.trans (ho5.below HLA.out.2.size (fun b hb e => by have := (HLA.out.1.lt b e).1; omega))
          have HL := Lib.hid (And.intro hL5 hb5)
          have HERR := Lib.hid hat.chain
          have HET := Lib.hid (HG.out.below hb5)
          have HLEN := Lib.hid (Nat.le_trans HLN.out (show 100 ≤ 1000 by decide))
          clear hL5 hb5 hq5 ho5 hat
          go_wp2
          have e0 : w5.drew.cell? ⟨n, 0, none⟩ = some (.slice a1 n1 c1) := HL.out.1.blk.cell 0
          have e1 : w5.drew.cell? ⟨n, 1, none⟩ = some (.slice a2 n2 c2) := HL.out.1.blk.cell 1
          have f0 : w5.cell? ⟨n, 0, none⟩ = some (.slice a1 n1 c1) := HL.out.1.blk.cell 0
          have f1 : w5.cell? ⟨n, 1, none⟩ = some (.slice a2 n2 c2) := HL.out.1.blk.cell 1
          go_region_held3 (fun w' => w'.cell? ⟨n, 0, none⟩ = some (.slice a1 n1 c1) ∧ w'.cell? ⟨n, 1, none⟩ = some (.slice a2 n2 c2))
            (first | go_keep | exact ⟨e0, e1⟩ | exact ⟨g1, g2⟩)
            (first
              | (go_at_call 25; refine (code_chain 1 err 13 _ ((HERR.out).below (by repeat (first | exact Below.refl _ _ | apply b_drew))) (HET.out.below (by repeat (first | exact Below.refl _ _ | apply b_drew)))).mono ?_; rintro e x7 ⟨rfl, hb7⟩; have hx7 : Below w5.heap.size w5 x7 := undrew hb7; have g1 := bcell hx7 f0; have g2 := bcell hx7 f1)
              | (go_at_call 17; refine (held_any (HL.out.1.below (by repeat (first | exact hx7 | apply b_drew))).q (by have := HLEN.out; omega)).mono ?_; rintro e x8 ⟨vh, rfl, hvh, hb8⟩; have hx8 : Below w5.heap.size w5 x8 := hx7.trans (hb8.mono hx7.size); have g1 := bcell hx8 f0; have g2 := bcell hx8 f1)
              | (go_at_call_of 27 vh; refine (gsame_any vh (.slice a1 n1 c1) _ _ _ (by first | exact gread_of_ownsRow hvh | exact (gread_of_ownsRow hvh).below (b_drew (Below.refl _ _))) (HL.out.1.below (by repeat (first | exact hx8 | apply b_drew))).r1).mono ?_; rintro e x9 ⟨rfl, hb9⟩; have hx9 : Below w5.heap.size w5 x9 := hx8.trans (hb9.mono hx8.size); have g1 := bcell hx9 f0; have g2 := bcell hx9 f1; rw [decide_eq_true rfl])
              | (go_at_call 28; refine (waits_any (HL.out.1.below (by repeat (first | exact hx9 | apply b_drew))).q (by have := HLEN.out; omega)).mono ?_; rintro e x10 ⟨vw, rfl, hvw, hb10⟩; have hx10 : Below w5.heap.size w5 x10 := hx9.trans (hb10.mono hx9.size); have g1 := bcell hx10 f0; have g2 := bcell hx10 f1)
              | (go_at_call_of 27 vw; refine (gsame_any vw (.slice a2 n2 c2) _ _ _ (by first | exact gread_of_ownsRow hvw | exact (gread_of_ownsRow hvw).below (b_drew (Below.refl _ _))) (HL.out.1.below (by repeat (first | exact hx10 | apply b_drew))).r2).mono ?_; rintro e x11 ⟨rfl, hb11⟩; have hx11 : Below w5.heap.size w5 x11 := hx10.trans (hb11.mono hx10.size); have g1 := bcell hx11 f0; have g2 := bcell hx11 f1; rw [decide_eq_true rfl]))
          all_goals
            have HX := Lib.hid hx11
            clear e0 e1 f0 f1 hx7 hb7 hx8 hx9 hx10 hx11 hb8 hb9 hb10 hb11 hvh hvw g1 g2
            go_wp2
            go_ret
            exact ⟨rfl, HL.out.2.trans (HX.out.mono HL.out.2.size)⟩
        · by_cases ho4 : odd > 4
          · have him : intentI odd = 0 := by unfold intentI; rw [if_neg (by omega), if_neg (by omega)]
            have haq : askQ ss.1 ss.2 id odd = (false, ss.1, ss.2) := by unfold askQ; rw [if_pos (.inl him)]
            have HIM := Lib.hid him
            have HAQ := Lib.hid haq
            clear him haq
            go_wp2_with fail
            refine (ask_any id odd HLA.out.1.q (by have := HLN.out; omega)).mono ?_
            rintro e w5 ⟨err, rfl, hq5, ho5, hat⟩
            rw [HAQ.out] at hq5
            rw [HAQ.out]
            unfold AskTold at hat
            rw [if_pos HIM.out] at hat
            have hL5 := HLA.out.1.step (s2 := ss) HLA.out.2.size hq5 (fun b hb => hb) ho5
            have hb5 : Below w.heap.size w w5 := HLA.out.2.trans (ho5.below HLA.out.2.size (fun b hb e => by have := (HLA.out.1.lt b e).1; omega))
            have HL := Lib.hid (And.intro hL5 hb5)
            have HERR := Lib.hid hat.chain
            have HET := Lib.hid (HG.out.below hb5)
            have HLEN := Lib.hid (Nat.le_trans HLN.out (show 100 ≤ 1000 by decide))
            clear hL5 hb5 hq5 ho5 hat
            go_wp2
            have e0 : w5.drew.cell? ⟨n, 0, none⟩ = some (.slice a1 n1 c1) := HL.out.1.blk.cell 0
            have e1 : w5.drew.cell? ⟨n, 1, none⟩ = some (.slice a2 n2 c2) := HL.out.1.blk.cell 1
            have f0 : w5.cell? ⟨n, 0, none⟩ = some (.slice a1 n1 c1) := HL.out.1.blk.cell 0
            have f1 : w5.cell? ⟨n, 1, none⟩ = some (.slice a2 n2 c2) := HL.out.1.blk.cell 1
            go_region_held3 (fun w' => w'.cell? ⟨n, 0, none⟩ = some (.slice a1 n1 c1) ∧ w'.cell? ⟨n, 1, none⟩ = some (.slice a2 n2 c2))
              (first | go_keep | exact ⟨e0, e1⟩ | exact ⟨g1, g2⟩)
              (first
                | (go_at_call 25; refine (code_chain 1 err 13 _ ((HERR.out).below (by repeat (first | exact Below.refl _ _ | apply b_drew))) (HET.out.below (by repeat (first | exact Below.refl _ _ | apply b_drew)))).mono ?_; rintro e x7 ⟨rfl, hb7⟩; have hx7 : Below w5.heap.size w5 x7 := undrew hb7; have g1 := bcell hx7 f0; have g2 := bcell hx7 f1)
                | (go_at_call 17; refine (held_any (HL.out.1.below (by repeat (first | exact hx7 | apply b_drew))).q (by have := HLEN.out; omega)).mono ?_; rintro e x8 ⟨vh, rfl, hvh, hb8⟩; have hx8 : Below w5.heap.size w5 x8 := hx7.trans (hb8.mono hx7.size); have g1 := bcell hx8 f0; have g2 := bcell hx8 f1)
                | (go_at_call_of 27 vh; refine (gsame_any vh (.slice a1 n1 c1) _ _ _ (by first | exact gread_of_ownsRow hvh | exact (gread_of_ownsRow hvh).below (b_drew (Below.refl _ _))) (HL.out.1.below (by repeat (first | exact hx8 | apply b_drew))).r1).mono ?_; rintro e x9 ⟨rfl, hb9⟩; have hx9 : Below w5.heap.size w5 x9 := hx8.trans (hb9.mono hx8.size); have g1 := bcell hx9 f0; have g2 := bcell hx9 f1; rw [decide_eq_true rfl])
                | (go_at_call 28; refine (waits_any (HL.out.1.below (by repeat (first | exact hx9 | apply b_drew))).q (by have := HLEN.out; omega)).mono ?_; rintro e x10 ⟨vw, rfl, hvw, hb10⟩; have hx10 : Below w5.heap.size w5 x10 := hx9.trans (hb10.mono hx9.size); have g1 := bcell hx10 f0; have g2 := bcell hx10 f1)
                | (go_at_call_of 27 vw; refine (gsame_any vw (.slice a2 n2 c2) _ _ _ (by first | exact gread_of_ownsRow hvw | exact (gread_of_ownsRow hvw).below (b_drew (Below.refl _ _))) (HL.out.1.below (by repeat (first | exact hx10 | apply b_drew))).r2).mono ?_; rintro e x11 ⟨rfl, hb11⟩; have hx11 : Below w5.heap.size w5 x11 := hx10.trans (hb11.mono hx10.size); have g1 := bcell hx11 f0; have g2 := bcell hx11 f1; rw [decide_eq_true rfl]))
            all_goals
              have HX := Lib.hid hx11
              clear e0 e1 f0 f1 hx7 hb7 hx8 hx9 hx10 hx11 hb8 hb9 hb10 hb11 hvh hvw g1 g2
              go_wp2
              go_ret
              exact ⟨rfl, HL.out.2.trans (HX.out.mono HL.out.2.size)⟩
          · have him : intentI odd ≠ 0 := intentI_ok (by omega)
            have HIM := Lib.hid him
            clear him
            cases hth : thereB ss.1 ss.2 id with
            | true =>
              have HTH := Lib.hid hth
              clear hth
              go_wp2_with fail
              refine (ask_any id odd HLA.out.1.q (by have := HLN.out; omega)).mono ?_
              rintro e w5 ⟨err, rfl, hq5, ho5, hat⟩
              unfold AskTold at hat
              rw [if_neg HIM.out, if_pos HTH.out] at hat
              have hL5 := HLA.out.1.step (s2 := askS ss id odd) HLA.out.2.size hq5 (fun b hb => hb) ho5
              have hb5 : Below w.heap.size w w5 := HLA.out.2.trans (ho5.below HLA.out.2.size (fun b hb e => by have := (HLA.out.1.lt b e).1; omega))
              have H5 := Lib.hid (And.intro hL5 (And.intro hb5 hat.chain))
              have z0 : w5.cell? ⟨n, 0, none⟩ = some (.slice a1 n1 c1) := hL5.blk.cell 0
              have z1 : w5.cell? ⟨n, 1, none⟩ = some (.slice a2 n2 c2) := hL5.blk.cell 1
              clear hL5 hb5 hq5 ho5 hat
              go_wp2_with fail
              refine (lthere_any _ _ _ _ id w5 H5.out.1.r1 H5.out.1.r2 (by have := HLN.out; omega)).mono ?_
              rintro e w6 ⟨rfl, hb6⟩
              rw [HTH.out]
              have H6 := Lib.hid (And.intro (H5.out.2.2.below hb6) (H5.out.2.1.trans (hb6.mono H5.out.2.1.size)))
              clear hb6 z0 z1
              go_wp2_with fail
              refine (code_chain 1 err 11 w6 H6.out.1 (HG.out.below H6.out.2)).mono ?_
              rintro e w7 ⟨rfl, hb7⟩
              have H7 := Lib.hid (H6.out.2.trans (hb7.mono H6.out.2.size))
              clear hb7
              go_wp2
              go_ret
              exact ⟨rfl, H7.out⟩
            | false =>
              have HTH := Lib.hid hth
              clear hth
              go_wp2_with fail
              refine (ask_any id odd HLA.out.1.q (by have := HLN.out; omega)).mono ?_
              rintro e w5 ⟨err, rfl, hq5, ho5, hat⟩
              unfold AskTold at hat
              rw [if_neg HIM.out, if_neg (by rw [HTH.out]; simp)] at hat
              subst hat
              have hL5 := HLA.out.1.step (s2 := askS ss id odd) HLA.out.2.size hq5 (fun b hb => hb) ho5
              have hb5 : Below w.heap.size w w5 := HLA.out.2.trans (ho5.below HLA.out.2.size (fun b hb e => by have := (HLA.out.1.lt b e).1; omega))
              have H5 := Lib.hid (And.intro hL5 hb5)
              have z0 : w5.cell? ⟨n, 0, none⟩ = some (.slice a1 n1 c1) := hL5.blk.cell 0
              have z1 : w5.cell? ⟨n, 1, none⟩ = some (.slice a2 n2 c2) := hL5.blk.cell 1
              clear hL5 hb5 hq5 ho5
              go_wp2_with fail
              refine (lthere_any _ _ _ _ id w5 H5.out.1.r1 H5.out.1.r2 (by have := HLN.out; omega)).mono ?_
              rintro e w6 ⟨rfl, hb6⟩
              rw [HTH.out]
              have H6 := Lib.hid (H5.out.2.trans (hb6.mono H5.out.2.size))
              clear hb6 z0 z1
              go_wp2_with fail
              refine (code_nil _).mono ?_
              rintro e w7 ⟨rfl, rfl⟩
              go_wp2
              go_ret
              exact ⟨rfl, H6.out⟩
      | succ m =>
        have hkn : (k : Int) < (l.length : Int) := by omega
        have hkl : k < l.length := by omega
        have hk0 : (0 : Int) ≤ (k : Int) := by omega
        obtain ⟨_, _, a0, cap0, e2, _, _, hvc⟩ := HV.out.below HLA.out.2
        injection e2 with e3 _ e4
        subst e3 e4
        obtain ⟨b, off, rfl, hc⟩ := hvc (by omega)
        obtain ⟨x0, x1, x2⟩ := hc k hkl
        obtain ⟨ac, hac⟩ : ∃ ac, ac = l[k] := ⟨_, rfl⟩
        rw [← hac] at x0 x1 x2
        have haok : ac.OK := by rw [hac]; exact HOK0.out _ (List.getElem_mem hkl)
        have hstep : runL (l.take (k + 1)) = stepL ss ac := by rw [List.take_succ_eq_append_getElem hkl, runL_snoc, hac, HSK.out]
        have HK := Lib.hid (And.intro haok hstep)
        have hb1 : Below wr.heap.size wr (wr.alloc (.cells #[.int .u8 ac.k, .int .u8 ac.i, .int .u8 ac.m] 41)) := (Below.refl _ _).alloc (Nat.le_refl _) _
        have HB1 := Lib.hid hb1
        have hk150 : 0 ≤ ac.k := haok.k.1
        clear hc hvc hac haok hstep hb1
        go_wp2_with fail
        refine (lof_any ac HK.out.1 _).mono ?_
        rintro e w3 ⟨rfl, hb3⟩
        have y0 : w3.cell? ⟨wr.heap.size, 0, none⟩ = some (.int .u8 ac.k) := bcell hb3 (by simp)
        have hb4 : Below wr.heap.size wr w3 := HB1.out.trans (hb3.mono HB1.out.size)
        have HT3 := Lib.hid (And.intro (HLA.out.1.below hb4) (HLA.out.2.trans (hb4.mono HLA.out.2.size)))
        have z0 : w3.cell? ⟨n, 0, none⟩ = some (.slice a1 n1 c1) := HT3.out.1.blk.cell 0
        have z1 : w3.cell? ⟨n, 1, none⟩ = some (.slice a2 n2 c2) := HT3.out.1.blk.cell 1
        have HMO := Lib.hid (intentI_ok (m := ac.mode) LDeed.mode_ok)
        clear hb3 hb4 x0 x1 x2
        by_cases hkind : ac.k < 150
        · have hkd : decide (ac.k < 150) = true := by simpa using hkind
          have hge : ¬ (ac.k ≥ 150) := by omega
          have hge2 : ¬ ((150 : Int) ≤ ac.k) := by omega
          have hst : stepL ss ac = askS ss ac.id ac.mode := by simp [stepL, hkind]
          cases hth : thereB ss.1 ss.2 ac.id with
          | true =>
            have HTH := Lib.hid hth
            clear hth
            have haq : askQ ss.1 ss.2 ac.id ac.mode = (false, ss.1, ss.2) := by unfold askQ; rw [if_pos (.inr HTH.out)]
            have hss2 : runL (l.take (k + 1)) = ss := by rw [HK.out.2, hst]; unfold askS; rw [haq]
            have HSS := Lib.hid hss2
            have HAQ := Lib.hid haq
            clear hst hss2 haq
            go_wp2_with fail
            refine (lthere_any _ _ _ _ ac.id w3 HT3.out.1.r1 HT3.out.1.r2 (by have := HLN.out; omega)).mono ?_
            rintro e w4 ⟨rfl, hb4⟩
            rw [HTH.out]
            have H4 := Lib.hid (And.intro (HT3.out.1.below hb4) (HT3.out.2.trans (hb4.mono HT3.out.2.size)))
            clear hb4
            go_wp2_with fail
            refine (ask_any ac.id ac.mode H4.out.1.q (by have := HLN.out; omega)).mono ?_
            rintro e w5 ⟨err, rfl, hq5, ho5, hat⟩
            rw [HAQ.out] at hq5
            rw [HAQ.out]
            unfold AskTold at hat
            rw [if_neg HMO.out, if_pos HTH.out] at hat
            have hL5 := H4.out.1.step (s2 := ss) H4.out.2.size hq5 (fun b hb => hb) ho5
            have hb5 : Below w.heap.size w w5 := H4.out.2.trans (ho5.below H4.out.2.size (fun b hb e => by have := (H4.out.1.lt b e).1; omega))
            have H5 := Lib.hid (And.intro hL5 (And.intro hb5 hat.chain))
            clear hL5 hb5 hq5 ho5 hat
            go_wp2_with fail
            refine (code_chain 1 err 11 w5 H5.out.2.2 (HG.out.below H5.out.2.1)).mono ?_
            rintro e w8 ⟨rfl, hb8⟩
            have HL := Lib.hid (And.intro (H5.out.1.below hb8) (H5.out.2.1.trans (hb8.mono H5.out.2.1.size)))
            have HLEN := Lib.hid (Nat.le_trans HLN.out (show 100 ≤ 1000 by decide))
            clear hb8 z0 z1 y0
            go_wp2
            have e0 : w8.drew.cell? ⟨n, 0, none⟩ = some (.slice a1 n1 c1) := HL.out.1.blk.cell 0
            have e1 : w8.drew.cell? ⟨n, 1, none⟩ = some (.slice a2 n2 c2) := HL.out.1.blk.cell 1
            have f0 : w8.cell? ⟨n, 0, none⟩ = some (.slice a1 n1 c1) := HL.out.1.blk.cell 0
            have f1 : w8.cell? ⟨n, 1, none⟩ = some (.slice a2 n2 c2) := HL.out.1.blk.cell 1
            go_region_held3 (fun w' => w'.cell? ⟨n, 0, none⟩ = some (.slice a1 n1 c1) ∧ w'.cell? ⟨n, 1, none⟩ = some (.slice a2 n2 c2))
              (first | go_keep | exact ⟨e0, e1⟩ | exact ⟨g1, g2⟩)
              (first
                | (go_at_call 17; refine (held_any (HL.out.1.below (by repeat (first | exact Below.refl _ _ | apply b_drew))).q (by have := HLEN.out; omega)).mono ?_; rintro e x8 ⟨vh, rfl, hvh, hb8⟩; have hx8 : Below w8.heap.size w8 x8 := undrew hb8; have g1 := bcell hx8 f0; have g2 := bcell hx8 f1)
                | (go_at_call_of 27 vh; refine (gsame_any vh (.slice a1 n1 c1) _ _ _ (by first | exact gread_of_ownsRow hvh | exact (gread_of_ownsRow hvh).below (b_drew (Below.refl _ _))) (HL.out.1.below (by repeat (first | exact hx8 | apply b_drew))).r1).mono ?_; rintro e x9 ⟨rfl, hb9⟩; have hx9 : Below w8.heap.size w8 x9 := hx8.trans (hb9.mono hx8.size); have g1 := bcell hx9 f0; have g2 := bcell hx9 f1; rw [decide_eq_true rfl])
                | (go_at_call 28; refine (waits_any (HL.out.1.below (by repeat (first | exact hx9 | apply b_drew))).q (by have := HLEN.out; omega)).mono ?_; rintro e x10 ⟨vw, rfl, hvw, hb10⟩; have hx10 : Below w8.heap.size w8 x10 := hx9.trans (hb10.mono hx9.size); have g1 := bcell hx10 f0; have g2 := bcell hx10 f1)
                | (go_at_call_of 27 vw; refine (gsame_any vw (.slice a2 n2 c2) _ _ _ (by first | exact gread_of_ownsRow hvw | exact (gread_of_ownsRow hvw).below (b_drew (Below.refl _ _))) (HL.out.1.below (by repeat (first | exact hx10 | apply b_drew))).r2).mono ?_; rintro e x11 ⟨rfl, hb11⟩; have hx11 : Below w8.heap.size w8 x11 := hx10.trans (hb11.mono hx10.size); have g1 := bcell hx11 f0; have g2 := bcell hx11 f1; rw [decide_eq_true rfl]))
            all_goals
              have HX := Lib.hid hx11
              clear e0 e1 f0 f1 hx8 hx9 hx10 hx11 hb8 hb9 hb10 hb11 hvh hvw g1 g2
              go_wp2
              go_roundg m
              case measure => omega
              case rel => exact ⟨k + 1, by go_num, by omega, ⟨_, _, _, by rw [HSS.out]; exact HL.out.1.below HX.out⟩, HL.out.2.trans (HX.out.mono HL.out.2.size)⟩
          | false =>
            have HTH := Lib.hid hth
            clear hth
            have hss2 : runL (l.take (k + 1)) = askS ss ac.id ac.mode := by rw [HK.out.2, hst]
            have HSS := Lib.hid hss2
            clear hst hss2
            go_wp2_with fail
            refine (lthere_any _ _ _ _ ac.id w3 HT3.out.1.r1 HT3.out.1.r2 (by have := HLN.out; omega)).mono ?_
            rintro e w4 ⟨rfl, hb4⟩
            rw [HTH.out]
            have H4 := Lib.hid (And.intro (HT3.out.1.below hb4) (HT3.out.2.trans (hb4.mono HT3.out.2.size)))
            have z2 := bcell hb4 z0
            have z3 := bcell hb4 z1
            clear hb4 z0 z1 y0
            go_wp2_with fail
            refine (lask_any _ _ _ _ ac.id ac.mode w4 H4.out.1.r1 H4.out.1.r2 H4.out.1.b1 H4.out.1.b2 (by have := HLN.out; omega) HMO.out HTH.out).mono ?_
            rintro e w5 ⟨fa, fb, rfl, ga, gb, na, nb, ua, ub, hb5⟩
            obtain ⟨_, a5, c5, rfl, _⟩ := (show _ from ga)
            obtain ⟨_, a6, c6, rfl, _⟩ := (show _ from gb)
            obtain ⟨ok, hok⟩ : ∃ ok, ok = (askQ ss.1 ss.2 ac.id ac.mode).1 := ⟨_, rfl⟩
            obtain ⟨m5, hm5⟩ : ∃ m5, m5 = (askQ ss.1 ss.2 ac.id ac.mode).2.1.length := ⟨_, rfl⟩
            obtain ⟨n6, hn6⟩ : ∃ n6, n6 = (askQ ss.1 ss.2 ac.id ac.mode).2.2.length := ⟨_, rfl⟩
            rw [← hm5] at ga na ua
            rw [← hn6] at gb nb ub
            rw [← hok, ← hm5, ← hn6]
            have hbA : Below w5.heap.size w5 (w5.alloc (.cells #[.slice a5 m5 c5, .slice a6 n6 c6] 39)) := (Below.refl _ _).alloc (Nat.le_refl _) _
            have hL4 := H4.out.1.below (hb5.trans (hbA.mono hb5.size))
            have hset := hL4.set (w0 := w4) (m2 := askS ss ac.id ac.mode) (fun x hx => by
              rcases hx with hx | rfl
              · exact (H4.out.1.lt x hx).2
              · exact H4.out.1.blk.lt) (ga.below hbA) (gb.below hbA) na nb (ua.le hbA.size) (ub.le hbA.size)
            have hb6 : Below w.heap.size w (((w5.alloc (.cells #[.slice a5 m5 c5, .slice a6 n6 c6] 39)).setCell ⟨n, 0, none⟩ (.slice a5 m5 c5)).setCell ⟨n, 1, none⟩ (.slice a6 n6 c6)) := (H4.out.2.trans ((hb5.trans (hbA.mono hb5.size)).mono H4.out.2.size)).trans (hset.2.below (by have := H4.out.2.size; have := hb5.size; simp; omega) (fun x hx e => by have := HLA.out.1.hn; omega))
            have H6 := Lib.hid (And.intro hset.1 hb6)
            have ea0 : (w5.alloc (.cells #[.slice a5 m5 c5, .slice a6 n6 c6] 39)).cell? ⟨n, 0, none⟩ = some (.slice a1 n1 c1) := hL4.blk.cell 0
            have ea1 : (w5.alloc (.cells #[.slice a5 m5 c5, .slice a6 n6 c6] 39)).cell? ⟨n, 1, none⟩ = some (.slice a2 n2 c2) := hL4.blk.cell 1
            have ea2 := hL4.blk.frozen 0
            have ea3 := hL4.blk.frozen 1
            have HOK := Lib.hid hok
            clear ga gb na nb ua ub hb5 hbA hL4 hset hb6 hok hm5 hn6 z2 z3
            go_wp2_with fail
            refine (ask_any ac.id ac.mode H6.out.1.q (by have := HLN.out; omega)).mono ?_
            rintro e w8 ⟨err, rfl, hq8, ho8, hat⟩
            unfold AskTold at hat
            rw [if_neg HMO.out, if_neg (by rw [HTH.out]; simp)] at hat
            subst hat
            rw [← HOK.out]
            have hL8 := H6.out.1.step (s2 := askS ss ac.id ac.mode) H6.out.2.size hq8 (fun b hb => hb) ho8
            have hb8 : Below w.heap.size w w8 := H6.out.2.trans (ho8.below H6.out.2.size (fun b hb e => by have := (H6.out.1.lt b e).1; omega))
            have HL := Lib.hid (And.intro hL8 hb8)
            have hlen8 : (askS ss ac.id ac.mode).1.length + (askS ss ac.id ac.mode).2.length ≤ 1000 := by rw [← HSS.out]; exact Nat.le_trans (runL_len _) (by rw [List.length_take]; omega)
            have HLEN := Lib.hid hlen8
            clear hL8 hb8 hq8 ho8 ea0 ea1 ea2 ea3 hlen8
            go_wp2
            have e0 : w8.drew.cell? ⟨n, 0, none⟩ = some (.slice a5 m5 c5) := HL.out.1.blk.cell 0
            have e1 : w8.drew.cell? ⟨n, 1, none⟩ = some (.slice a6 n6 c6) := HL.out.1.blk.cell 1
            have f0 : w8.cell? ⟨n, 0, none⟩ = some (.slice a5 m5 c5) := HL.out.1.blk.cell 0
            have f1 : w8.cell? ⟨n, 1, none⟩ = some (.slice a6 n6 c6) := HL.out.1.blk.cell 1
            go_region_held3 (fun w' => w'.cell? ⟨n, 0, none⟩ = some (.slice a5 m5 c5) ∧ w'.cell? ⟨n, 1, none⟩ = some (.slice a6 n6 c6))
              (first | go_keep | exact ⟨e0, e1⟩ | exact ⟨g1, g2⟩)
              (first
                | (go_at_call 17; refine (held_any (HL.out.1.below (by repeat (first | exact Below.refl _ _ | apply b_drew))).q (by have := HLEN.out; omega)).mono ?_; rintro e x8 ⟨vh, rfl, hvh, hb8⟩; have hx8 : Below w8.heap.size w8 x8 := undrew hb8; have g1 := bcell hx8 f0; have g2 := bcell hx8 f1)
                | (go_at_call_of 27 vh; refine (gsame_any vh (.slice a5 m5 c5) _ _ _ (by first | exact gread_of_ownsRow hvh | exact (gread_of_ownsRow hvh).below (b_drew (Below.refl _ _))) (HL.out.1.below (by repeat (first | exact hx8 | apply b_drew))).r1).mono ?_; rintro e x9 ⟨rfl, hb9⟩; have hx9 : Below w8.heap.size w8 x9 := hx8.trans (hb9.mono hx8.size); have g1 := bcell hx9 f0; have g2 := bcell hx9 f1; rw [decide_eq_true rfl])
                | (go_at_call 28; refine (waits_any (HL.out.1.below (by repeat (first | exact hx9 | apply b_drew))).q (by have := HLEN.out; omega)).mono ?_; rintro e x10 ⟨vw, rfl, hvw, hb10⟩; have hx10 : Below w8.heap.size w8 x10 := hx9.trans (hb10.mono hx9.size); have g1 := bcell hx10 f0; have g2 := bcell hx10 f1)
                | (go_at_call_of 27 vw; refine (gsame_any vw (.slice a6 n6 c6) _ _ _ (by first | exact gread_of_ownsRow hvw | exact (gread_of_ownsRow hvw).below (b_drew (Below.refl _ _))) (HL.out.1.below (by repeat (first | exact hx10 | apply b_drew))).r2).mono ?_; rintro e x11 ⟨rfl, hb11⟩; have hx11 : Below w8.heap.size w8 x11 := hx10.trans (hb11.mono hx10.size); have g1 := bcell hx11 f0; have g2 := bcell hx11 f1; rw [decide_eq_true rfl]))
            all_goals
              have HX := Lib.hid hx11
              clear e0 e1 f0 f1 hx8 hx9 hx10 hx11 hb8 hb9 hb10 hb11 hvh hvw g1 g2
              go_wp2
              go_roundg m
              case measure => omega
              case rel => exact ⟨k + 1, by go_num, by omega, ⟨_, _, _, by rw [HSS.out]; exact HL.out.1.below HX.out⟩, HL.out.2.trans (HX.out.mono HL.out.2.size)⟩
        · have hkd : decide (ac.k < 150) = false := by simpa using hkind
          have hge : ac.k ≥ 150 := by omega
          have hge2 : (150 : Int) ≤ ac.k := by omega
          have hst : stepL ss ac = freeS ss ac.id := by simp [stepL, hkind]
          have hss2 : runL (l.take (k + 1)) = freeS ss ac.id := by rw [HK.out.2, hst]
          have HSS := Lib.hid hss2
          clear hst hss2
          go_wp2_with fail
          refine (lfree_any _ _ _ _ ac.id w3 HT3.out.1.r1 HT3.out.1.r2 (by have := HLN.out; omega)).mono ?_
          rintro e w4 ⟨fa, fb, fc, rfl, hmf, hb4⟩
          obtain ⟨a5, m5, c5, rfl⟩ := ownsRow_slice hmf.held
          obtain ⟨_, a6, c6, rfl, _⟩ := (show _ from hmf.wait)
          obtain ⟨n6, hn6⟩ : ∃ n6, n6 = (freeQ ss.1 ss.2 ac.id).2.1.length := ⟨_, rfl⟩
          rw [← hn6] at hmf
          rw [← hn6]
          have hbA : Below w4.heap.size w4 (w4.alloc (.cells #[.slice a5 m5 c5, .slice a6 n6 c6] 39)) := (Below.refl _ _).alloc (Nat.le_refl _) _
          have hL4 := HT3.out.1.below (hb4.trans (hbA.mono hb4.size))
          have hset := hL4.set (w0 := w3) (m2 := freeS ss ac.id) (fun x hx => by
            rcases hx with hx | rfl
            · exact (HT3.out.1.lt x hx).2
            · exact HT3.out.1.blk.lt) ((gread_of_ownsRow hmf.held).below hbA) (hmf.wait.below hbA) (near_own hmf.held (Nat.le_refl _)) (fun g hg _ _ a k c e2 e3 => by have := (hmf.lt a k c e2).1; omega) ((up_own hmf.held).le hbA.size) (fun a k c e2 => Nat.lt_of_lt_of_le (hmf.lt a k c e2).2 hbA.size)
          have hc5 := own_only (own_below hmf.out hbA) hset.2 (fun g e1 e2 => own_ne hL4.blk (own_below hmf.out hbA) (by decide) g e1 e2)
          have hb5 : Below w.heap.size w (((w4.alloc (.cells #[.slice a5 m5 c5, .slice a6 n6 c6] 39)).setCell ⟨n, 0, none⟩ (.slice a5 m5 c5)).setCell ⟨n, 1, none⟩ (.slice a6 n6 c6)) := (HT3.out.2.trans ((hb4.trans (hbA.mono hb4.size)).mono HT3.out.2.size)).trans (hset.2.below (by have := HT3.out.2.size; have := hb4.size; simp; omega) (fun x hx e => by have := HLA.out.1.hn; omega))
          have H5 := Lib.hid (And.intro hset.1 (And.intro hb5 (And.intro hc5 hb4.size)))
          have ea0 : (w4.alloc (.cells #[.slice a5 m5 c5, .slice a6 n6 c6] 39)).cell? ⟨n, 0, none⟩ = some (.slice a1 n1 c1) := hL4.blk.cell 0
          have ea1 : (w4.alloc (.cells #[.slice a5 m5 c5, .slice a6 n6 c6] 39)).cell? ⟨n, 1, none⟩ = some (.slice a2 n2 c2) := hL4.blk.cell 1
          have ea2 := hL4.blk.frozen 0
          have ea3 := hL4.blk.frozen 1
          clear hmf hb4 hbA hL4 hset hc5 hb5 hn6 z0 z1 y0
          go_wp2_with fail
          refine (free_any ac.id H5.out.1.q (by have := HLN.out; omega) (fun b hb => (H5.out.1.lt b hb).2)).mono ?_
          rintro e w7 ⟨v7, rfl, hv7, hq7, ho7⟩
          have hsz5 := H5.out.2.1.size
          have hL7 := H5.out.1.step (s2 := freeS ss ac.id) hsz5 hq7 (fun b hb => by rcases hb with hb | hb; exact .inl hb; exact .inr hb.1) ho7
          have hc7 := own_only H5.out.2.2.1 ho7 (fun g e1 e2 => by have := own_blk_ge H5.out.2.2.1 e1; have := (HT3.out.1.lt g e2).2; omega)
          have hb7 : Below w.heap.size w w7 := H5.out.2.1.trans (ho7.below hsz5 (fun b hb e => by have := (H5.out.1.lt b e).1; omega))
          have H7 := Lib.hid (And.intro hL7 (And.intro hb7 (And.intro hc7 hv7)))
          clear hL7 hc7 hb7 hv7 hq7 ho7 ea0 ea1 ea2 ea3 hsz5
          go_wp2_with fail
          refine (same_any _ _ _ _ w7 (iread_of_own H7.out.2.2.2) (iread_of_own H7.out.2.2.1)).mono ?_
          rintro e w8 ⟨rfl, hb8⟩
          rw [decide_eq_true rfl]
          have HL := Lib.hid (And.intro (H7.out.1.below hb8) (H7.out.2.1.trans (hb8.mono H7.out.2.1.size)))
          have hlen8 : (freeS ss ac.id).1.length + (freeS ss ac.id).2.length ≤ 1000 := by rw [← HSS.out]; exact Nat.le_trans (runL_len _) (by rw [List.length_take]; omega)
          have HLEN := Lib.hid hlen8
          clear hb8 hlen8
          go_wp2
          have e0 : w8.drew.cell? ⟨n, 0, none⟩ = some (.slice a5 m5 c5) := HL.out.1.blk.cell 0
          have e1 : w8.drew.cell? ⟨n, 1, none⟩ = some (.slice a6 n6 c6) := HL.out.1.blk.cell 1
          have f0 : w8.cell? ⟨n, 0, none⟩ = some (.slice a5 m5 c5) := HL.out.1.blk.cell 0
          have f1 : w8.cell? ⟨n, 1, none⟩ = some (.slice a6 n6 c6) := HL.out.1.blk.cell 1
          go_region_held3 (fun w' => w'.cell? ⟨n, 0, none⟩ = some (.slice a5 m5 c5) ∧ w'.cell? ⟨n, 1, none⟩ = some (.slice a6 n6 c6))
            (first | go_keep | exact ⟨e0, e1⟩ | exact ⟨g1, g2⟩)
            (first
              | (go_at_call 17; refine (held_any (HL.out.1.below (by repeat (first | exact Below.refl _ _ | apply b_drew))).q (by have := HLEN.out; omega)).mono ?_; rintro e x8 ⟨vh, rfl, hvh, hb8⟩; have hx8 : Below w8.heap.size w8 x8 := undrew hb8; have g1 := bcell hx8 f0; have g2 := bcell hx8 f1)
              | (go_at_call_of 27 vh; refine (gsame_any vh (.slice a5 m5 c5) _ _ _ (by first | exact gread_of_ownsRow hvh | exact (gread_of_ownsRow hvh).below (b_drew (Below.refl _ _))) (HL.out.1.below (by repeat (first | exact hx8 | apply b_drew))).r1).mono ?_; rintro e x9 ⟨rfl, hb9⟩; have hx9 : Below w8.heap.size w8 x9 := hx8.trans (hb9.mono hx8.size); have g1 := bcell hx9 f0; have g2 := bcell hx9 f1; rw [decide_eq_true rfl])
              | (go_at_call 28; refine (waits_any (HL.out.1.below (by repeat (first | exact hx9 | apply b_drew))).q (by have := HLEN.out; omega)).mono ?_; rintro e x10 ⟨vw, rfl, hvw, hb10⟩; have hx10 : Below w8.heap.size w8 x10 := hx9.trans (hb10.mono hx9.size); have g1 := bcell hx10 f0; have g2 := bcell hx10 f1)
              | (go_at_call_of 27 vw; refine (gsame_any vw (.slice a6 n6 c6) _ _ _ (by first | exact gread_of_ownsRow hvw | exact (gread_of_ownsRow hvw).below (b_drew (Below.refl _ _))) (HL.out.1.below (by repeat (first | exact hx10 | apply b_drew))).r2).mono ?_; rintro e x11 ⟨rfl, hb11⟩; have hx11 : Below w8.heap.size w8 x11 := hx10.trans (hb11.mono hx10.size); have g1 := bcell hx11 f0; have g2 := bcell hx11 f1; rw [decide_eq_true rfl]))
          all_goals
            have HX := Lib.hid hx11
            clear e0 e1 f0 f1 hx8 hx9 hx10 hx11 hb8 hb9 hb10 hb11 hvh hvw g1 g2
            go_wp2
            go_roundg m
            case measure => omega
            case rel => exact ⟨k + 1, by go_num, by omega, ⟨_, _, _, by rw [HSS.out]; exact HL.out.1.below HX.out⟩, HL.out.2.trans (HX.out.mono HL.out.2.size)⟩
  · have hl80 : 100 ≤ l.length := by omega
    have hc80 : (100 : Int) ≤ (cap : Int) := by omega
    go_wp2
    rw [← HNN.out]
    go_loopg [35] 100 (fun m kv wr => ∃ k : Nat, kv = .int .i64 (k : Int) ∧ k + m = 100 ∧ (∃ S v1 v2, LA S v1 v2 w.heap.size n wr q (runL (l.take k)) (runL (l.take k))) ∧ Below w.heap.size w wr)
    case atStart => exact ⟨0, rfl, by omega, ⟨_, _, _, HS.out.1⟩, HS.out.2⟩
    case round =>
      obtain ⟨k, rfl, hkm, ⟨S, v1, v2, hla⟩, hbr⟩ := hrel
      have hlen : (runL (l.take k)).1.length + (runL (l.take k)).2.length ≤ 100 := Nat.le_trans (runL_len _) (by rw [List.length_take]; omega)
      obtain ⟨ss, hss⟩ : ∃ ss, ss = runL (l.take k) := ⟨_, rfl⟩
      rw [← hss] at hla hlen
      have HLN := Lib.hid hlen
      obtain ⟨_, a1, c1, rfl, _⟩ := (show _ from hla.r1)
      obtain ⟨_, a2, c2, rfl, _⟩ := (show _ from hla.r2)
      obtain ⟨n1, hn1⟩ : ∃ n1, n1 = ss.1.length := ⟨_, rfl⟩
      obtain ⟨n2, hn2⟩ : ∃ n2, n2 = ss.2.length := ⟨_, rfl⟩
      rw [← hn1, ← hn2] at hla
      have HLA := Lib.hid (And.intro hla hbr)
      have HSK := Lib.hid hss
      clear hla hbr hss hlen HS hn1 hn2
      cases gk with
      | zero =>
        have hkn : ¬ ((k : Int) < (100 : Int)) := by omega
        by_cases ho1 : odd < 1
        · have him : intentI odd = 0 := by unfold intentI; rw [if_neg (by omega), if_neg (by omega)]
          have haq : askQ ss.1 ss.2 id odd = (false, ss.1, ss.2) := by unfold askQ; rw [if_pos (.inl him)]
          have HIM := Lib.hid him
          have HAQ := Lib.hid haq
          clear him haq
          go_wp2_with fail
          refine (ask_any id odd HLA.out.1.q (by have := HLN.out; omega)).mono ?_
          rintro e w5 ⟨err, rfl, hq5, ho5, hat⟩
          rw [HAQ.out] at hq5
          rw [HAQ.out]
          unfold AskTold at hat
          rw [if_pos HIM.out] at hat
          have hL5 := HLA.out.1.step (s2 := ss) HLA.out.2.size hq5 (fun b hb => hb) ho5
          have hb5 : Below w.heap.size w w5 := HLA.out.2.trans (ho5.below HLA.out.2.size (fun b hb e => by have := (HLA.out.1.lt b e).1; omega))
          have HL := Lib.hid (And.intro hL5 hb5)
          have HERR := Lib.hid hat.chain
          have HET := Lib.hid (HG.out.below hb5)
          have HLEN := Lib.hid (Nat.le_trans HLN.out (show 100 ≤ 1000 by decide))
          clear hL5 hb5 hq5 ho5 hat
          go_wp2
          have e0 : w5.drew.cell? ⟨n, 0, none⟩ = some (.slice a1 n1 c1) := HL.out.1.blk.cell 0
          have e1 : w5.drew.cell? ⟨n, 1, none⟩ = some (.slice a2 n2 c2) := HL.out.1.blk.cell 1
          have f0 : w5.cell? ⟨n, 0, none⟩ = some (.slice a1 n1 c1) := HL.out.1.blk.cell 0
          have f1 : w5.cell? ⟨n, 1, none⟩ = some (.slice a2 n2 c2) := HL.out.1.blk.cell 1
          go_region_held3 (fun w' => w'.cell? ⟨n, 0, none⟩ = some (.slice a1 n1 c1) ∧ w'.cell? ⟨n, 1, none⟩ = some (.slice a2 n2 c2))
            (first | go_keep | exact ⟨e0, e1⟩ | exact ⟨g1, g2⟩)
            (first
              | (go_at_call 25; refine (code_chain 1 err 13 _ ((HERR.out).below (by repeat (first | exact Below.refl _ _ | apply b_drew))) (HET.out.below (by repeat (first | exact Below.refl _ _ | apply b_drew)))).mono ?_; rintro e x7 ⟨rfl, hb7⟩; have hx7 : Below w5.heap.size w5 x7 := undrew hb7; have g1 := bcell hx7 f0; have g2 := bcell hx7 f1)
              | (go_at_call 17; refine (held_any (HL.out.1.below (by repeat (first | exact hx7 | apply b_drew))).q (by have := HLEN.out; omega)).mono ?_; rintro e x8 ⟨vh, rfl, hvh, hb8⟩; have hx8 : Below w5.heap.size w5 x8 := hx7.trans (hb8.mono hx7.size); have g1 := bcell hx8 f0; have g2 := bcell hx8 f1)
              | (go_at_call_of 27 vh; refine (gsame_any vh (.slice a1 n1 c1) _ _ _ (by first | exact gread_of_ownsRow hvh | exact (gread_of_ownsRow hvh).below (b_drew (Below.refl _ _))) (HL.out.1.below (by repeat (first | exact hx8 | apply b_drew))).r1).mono ?_; rintro e x9 ⟨rfl, hb9⟩; have hx9 : Below w5.heap.size w5 x9 := hx8.trans (hb9.mono hx8.size); have g1 := bcell hx9 f0; have g2 := bcell hx9 f1; rw [decide_eq_true rfl])
              | (go_at_call 28; refine (waits_any (HL.out.1.below (by repeat (first | exact hx9 | apply b_drew))).q (by have := HLEN.out; omega)).mono ?_; rintro e x10 ⟨vw, rfl, hvw, hb10⟩; have hx10 : Below w5.heap.size w5 x10 := hx9.trans (hb10.mono hx9.size); have g1 := bcell hx10 f0; have g2 := bcell hx10 f1)
              | (go_at_call_of 27 vw; refine (gsame_any vw (.slice a2 n2 c2) _ _ _ (by first | exact gread_of_ownsRow hvw | exact (gread_of_ownsRow hvw).below (b_drew (Below.refl _ _))) (HL.out.1.below (by repeat (first | exact hx10 | apply b_drew))).r2).mono ?_; rintro e x11 ⟨rfl, hb11⟩; have hx11 : Below w5.heap.size w5 x11 := hx10.trans (hb11.mono hx10.size); have g1 := bcell hx11 f0; have g2 := bcell hx11 f1; rw [decide_eq_true rfl]))
          all_goals
            have HX := Lib.hid hx11
            clear e0 e1 f0 f1 hx7 hb7 hx8 hx9 hx10 hx11 hb8 hb9 hb10 hb11 hvh hvw g1 g2
            go_wp2
            go_ret
            exact ⟨rfl, HL.out.2.trans (HX.out.mono HL.out.2.size)⟩
        · by_cases ho4 : odd > 4
          · have him : intentI odd = 0 := by unfold intentI; rw [if_neg (by omega), if_neg (by omega)]
            have haq : askQ ss.1 ss.2 id odd = (false, ss.1, ss.2) := by unfold askQ; rw [if_pos (.inl him)]
            have HIM := Lib.hid him
            have HAQ := Lib.hid haq
            clear him haq
            go_wp2_with fail
            refine (ask_any id odd HLA.out.1.q (by have := HLN.out; omega)).mono ?_
            rintro e w5 ⟨err, rfl, hq5, ho5, hat⟩
            rw [HAQ.out] at hq5
            rw [HAQ.out]
            unfold AskTold at hat
            rw [if_pos HIM.out] at hat
            have hL5 := HLA.out.1.step (s2 := ss) HLA.out.2.size hq5 (fun b hb => hb) ho5
            have hb5 : Below w.heap.size w w5 := HLA.out.2.trans (ho5.below HLA.out.2.size (fun b hb e => by have := (HLA.out.1.lt b e).1; omega))
            have HL := Lib.hid (And.intro hL5 hb5)
            have HERR := Lib.hid hat.chain
            have HET := Lib.hid (HG.out.below hb5)
            have HLEN := Lib.hid (Nat.le_trans HLN.out (show 100 ≤ 1000 by decide))
            clear hL5 hb5 hq5 ho5 hat
            go_wp2
            have e0 : w5.drew.cell? ⟨n, 0, none⟩ = some (.slice a1 n1 c1) := HL.out.1.blk.cell 0
            have e1 : w5.drew.cell? ⟨n, 1, none⟩ = some (.slice a2 n2 c2) := HL.out.1.blk.cell 1
            have f0 : w5.cell? ⟨n, 0, none⟩ = some (.slice a1 n1 c1) := HL.out.1.blk.cell 0
            have f1 : w5.cell? ⟨n, 1, none⟩ = some (.slice a2 n2 c2) := HL.out.1.blk.cell 1
            go_region_held3 (fun w' => w'.cell? ⟨n, 0, none⟩ = some (.slice a1 n1 c1) ∧ w'.cell? ⟨n, 1, none⟩ = some (.slice a2 n2 c2))
              (first | go_keep | exact ⟨e0, e1⟩ | exact ⟨g1, g2⟩)
              (first
                | (go_at_call 25; refine (code_chain 1 err 13 _ ((HERR.out).below (by repeat (first | exact Below.refl _ _ | apply b_drew))) (HET.out.below (by repeat (first | exact Below.refl _ _ | apply b_drew)))).mono ?_; rintro e x7 ⟨rfl, hb7⟩; have hx7 : Below w5.heap.size w5 x7 := undrew hb7; have g1 := bcell hx7 f0; have g2 := bcell hx7 f1)
                | (go_at_call 17; refine (held_any (HL.out.1.below (by repeat (first | exact hx7 | apply b_drew))).q (by have := HLEN.out; omega)).mono ?_; rintro e x8 ⟨vh, rfl, hvh, hb8⟩; have hx8 : Below w5.heap.size w5 x8 := hx7.trans (hb8.mono hx7.size); have g1 := bcell hx8 f0; have g2 := bcell hx8 f1)
                | (go_at_call_of 27 vh; refine (gsame_any vh (.slice a1 n1 c1) _ _ _ (by first | exact gread_of_ownsRow hvh | exact (gread_of_ownsRow hvh).below (b_drew (Below.refl _ _))) (HL.out.1.below (by repeat (first | exact hx8 | apply b_drew))).r1).mono ?_; rintro e x9 ⟨rfl, hb9⟩; have hx9 : Below w5.heap.size w5 x9 := hx8.trans (hb9.mono hx8.size); have g1 := bcell hx9 f0; have g2 := bcell hx9 f1; rw [decide_eq_true rfl])
                | (go_at_call 28; refine (waits_any (HL.out.1.below (by repeat (first | exact hx9 | apply b_drew))).q (by have := HLEN.out; omega)).mono ?_; rintro e x10 ⟨vw, rfl, hvw, hb10⟩; have hx10 : Below w5.heap.size w5 x10 := hx9.trans (hb10.mono hx9.size); have g1 := bcell hx10 f0; have g2 := bcell hx10 f1)
                | (go_at_call_of 27 vw; refine (gsame_any vw (.slice a2 n2 c2) _ _ _ (by first | exact gread_of_ownsRow hvw | exact (gread_of_ownsRow hvw).below (b_drew (Below.refl _ _))) (HL.out.1.below (by repeat (first | exact hx10 | apply b_drew))).r2).mono ?_; rintro e x11 ⟨rfl, hb11⟩; have hx11 : Below w5.heap.size w5 x11 := hx10.trans (hb11.mono hx10.size); have g1 := bcell hx11 f0; have g2 := bcell hx11 f1; rw [decide_eq_true rfl]))
            all_goals
              have HX := Lib.hid hx11
              clear e0 e1 f0 f1 hx7 hb7 hx8 hx9 hx10 hx11 hb8 hb9 hb10 hb11 hvh hvw g1 g2
              go_wp2
              go_ret
              exact ⟨rfl, HL.out.2.trans (HX.out.mono HL.out.2.size)⟩
          · have him : intentI odd ≠ 0 := intentI_ok (by omega)
            have HIM := Lib.hid him
            clear him
            cases hth : thereB ss.1 ss.2 id with
            | true =>
              have HTH := Lib.hid hth
              clear hth
              go_wp2_with fail
              refine (ask_any id odd HLA.out.1.q (by have := HLN.out; omega)).mono ?_
              rintro e w5 ⟨err, rfl, hq5, ho5, hat⟩
              unfold AskTold at hat
              rw [if_neg HIM.out, if_pos HTH.out] at hat
              have hL5 := HLA.out.1.step (s2 := askS ss id odd) HLA.out.2.size hq5 (fun b hb => hb) ho5
              have hb5 : Below w.heap.size w w5 := HLA.out.2.trans (ho5.below HLA.out.2.size (fun b hb e => by have := (HLA.out.1.lt b e).1; omega))
              have H5 := Lib.hid (And.intro hL5 (And.intro hb5 hat.chain))
              have z0 : w5.cell? ⟨n, 0, none⟩ = some (.slice a1 n1 c1) := hL5.blk.cell 0
              have z1 : w5.cell? ⟨n, 1, none⟩ = some (.slice a2 n2 c2) := hL5.blk.cell 1
              clear hL5 hb5 hq5 ho5 hat
              go_wp2_with fail
              refine (lthere_any _ _ _ _ id w5 H5.out.1.r1 H5.out.1.r2 (by have := HLN.out; omega)).mono ?_
              rintro e w6 ⟨rfl, hb6⟩
              rw [HTH.out]
              have H6 := Lib.hid (And.intro (H5.out.2.2.below hb6) (H5.out.2.1.trans (hb6.mono H5.out.2.1.size)))
              clear hb6 z0 z1
              go_wp2_with fail
              refine (code_chain 1 err 11 w6 H6.out.1 (HG.out.below H6.out.2)).mono ?_
              rintro e w7 ⟨rfl, hb7⟩
              have H7 := Lib.hid (H6.out.2.trans (hb7.mono H6.out.2.size))
              clear hb7
              go_wp2
              go_ret
              exact ⟨rfl, H7.out⟩
            | false =>
              have HTH := Lib.hid hth
              clear hth
              go_wp2_with fail
              refine (ask_any id odd HLA.out.1.q (by have := HLN.out; omega)).mono ?_
              rintro e w5 ⟨err, rfl, hq5, ho5, hat⟩
              unfold AskTold at hat
              rw [if_neg HIM.out, if_neg (by rw [HTH.out]; simp)] at hat
              subst hat
              have hL5 := HLA.out.1.step (s2 := askS ss id odd) HLA.out.2.size hq5 (fun b hb => hb) ho5
              have hb5 : Below w.heap.size w w5 := HLA.out.2.trans (ho5.below HLA.out.2.size (fun b hb e => by have := (HLA.out.1.lt b e).1; omega))
              have H5 := Lib.hid (And.intro hL5 hb5)
              have z0 : w5.cell? ⟨n, 0, none⟩ = some (.slice a1 n1 c1) := hL5.blk.cell 0
              have z1 : w5.cell? ⟨n, 1, none⟩ = some (.slice a2 n2 c2) := hL5.blk.cell 1
              clear hL5 hb5 hq5 ho5
              go_wp2_with fail
              refine (lthere_any _ _ _ _ id w5 H5.out.1.r1 H5.out.1.r2 (by have := HLN.out; omega)).mono ?_
              rintro e w6 ⟨rfl, hb6⟩
              rw [HTH.out]
              have H6 := Lib.hid (H5.out.2.trans (hb6.mono H5.out.2.size))
              clear hb6 z0 z1
              go_wp2_with fail
              refine (code_nil _).mono ?_
              rintro e w7 ⟨rfl, rfl⟩
              go_wp2
              go_ret
              exact ⟨rfl, H6.out⟩
      | succ m =>
        have hkn : (k : Int) < (100 : Int) := by omega
        have hkl : k < l.length := by omega
        have hk0 : (0 : Int) ≤ (k : Int) := by omega
        obtain ⟨_, _, a0, cap0, e2, _, _, hvc⟩ := HV.out.below HLA.out.2
        injection e2 with e3 _ e4
        subst e3 e4
        obtain ⟨b, off, rfl, hc⟩ := hvc (by omega)
        obtain ⟨x0, x1, x2⟩ := hc k hkl
        obtain ⟨ac, hac⟩ : ∃ ac, ac = l[k] := ⟨_, rfl⟩
        rw [← hac] at x0 x1 x2
        have haok : ac.OK := by rw [hac]; exact HOK0.out _ (List.getElem_mem hkl)
        have hstep : runL (l.take (k + 1)) = stepL ss ac := by rw [List.take_succ_eq_append_getElem hkl, runL_snoc, hac, HSK.out]
        have HK := Lib.hid (And.intro haok hstep)
        have hb1 : Below wr.heap.size wr (wr.alloc (.cells #[.int .u8 ac.k, .int .u8 ac.i, .int .u8 ac.m] 41)) := (Below.refl _ _).alloc (Nat.le_refl _) _
        have HB1 := Lib.hid hb1
        have hk150 : 0 ≤ ac.k := haok.k.1
        clear hc hvc hac haok hstep hb1
        go_wp2_with fail
        refine (lof_any ac HK.out.1 _).mono ?_
        rintro e w3 ⟨rfl, hb3⟩
        have y0 : w3.cell? ⟨wr.heap.size, 0, none⟩ = some (.int .u8 ac.k) := bcell hb3 (by simp)
        have hb4 : Below wr.heap.size wr w3 := HB1.out.trans (hb3.mono HB1.out.size)
        have HT3 := Lib.hid (And.intro (HLA.out.1.below hb4) (HLA.out.2.trans (hb4.mono HLA.out.2.size)))
        have z0 : w3.cell? ⟨n, 0, none⟩ = some (.slice a1 n1 c1) := HT3.out.1.blk.cell 0
        have z1 : w3.cell? ⟨n, 1, none⟩ = some (.slice a2 n2 c2) := HT3.out.1.blk.cell 1
        have HMO := Lib.hid (intentI_ok (m := ac.mode) LDeed.mode_ok)
        clear hb3 hb4 x0 x1 x2
        by_cases hkind : ac.k < 150
        · have hkd : decide (ac.k < 150) = true := by simpa using hkind
          have hge : ¬ (ac.k ≥ 150) := by omega
          have hge2 : ¬ ((150 : Int) ≤ ac.k) := by omega
          have hst : stepL ss ac = askS ss ac.id ac.mode := by simp [stepL, hkind]
          cases hth : thereB ss.1 ss.2 ac.id with
          | true =>
            have HTH := Lib.hid hth
            clear hth
            have haq : askQ ss.1 ss.2 ac.id ac.mode = (false, ss.1, ss.2) := by unfold askQ; rw [if_pos (.inr HTH.out)]
            have hss2 : runL (l.take (k + 1)) = ss := by rw [HK.out.2, hst]; unfold askS; rw [haq]
            have HSS := Lib.hid hss2
            have HAQ := Lib.hid haq
            clear hst hss2 haq
            go_wp2_with fail
            refine (lthere_any _ _ _ _ ac.id w3 HT3.out.1.r1 HT3.out.1.r2 (by have := HLN.out; omega)).mono ?_
            rintro e w4 ⟨rfl, hb4⟩
            rw [HTH.out]
            have H4 := Lib.hid (And.intro (HT3.out.1.below hb4) (HT3.out.2.trans (hb4.mono HT3.out.2.size)))
            clear hb4
            go_wp2_with fail
            refine (ask_any ac.id ac.mode H4.out.1.q (by have := HLN.out; omega)).mono ?_
            rintro e w5 ⟨err, rfl, hq5, ho5, hat⟩
            rw [HAQ.out] at hq5
            rw [HAQ.out]
            unfold AskTold at hat
            rw [if_neg HMO.out, if_pos HTH.out] at hat
            have hL5 := H4.out.1.step (s2 := ss) H4.out.2.size hq5 (fun b hb => hb) ho5
            have hb5 : Below w.heap.size w w5 := H4.out.2.trans (ho5.below H4.out.2.size (fun b hb e => by have := (H4.out.1.lt b e).1; omega))
            have H5 := Lib.hid (And.intro hL5 (And.intro hb5 hat.chain))
            clear hL5 hb5 hq5 ho5 hat
            go_wp2_with fail
            refine (code_chain 1 err 11 w5 H5.out.2.2 (HG.out.below H5.out.2.1)).mono ?_
            rintro e w8 ⟨rfl, hb8⟩
            have HL := Lib.hid (And.intro (H5.out.1.below hb8) (H5.out.2.1.trans (hb8.mono H5.out.2.1.size)))
            have HLEN := Lib.hid (Nat.le_trans HLN.out (show 100 ≤ 1000 by decide))
            clear hb8 z0 z1 y0
            go_wp2
            have e0 : w8.drew.cell? ⟨n, 0, none⟩ = some (.slice a1 n1 c1) := HL.out.1.blk.cell 0
            have e1 : w8.drew.cell? ⟨n, 1, none⟩ = some (.slice a2 n2 c2) := HL.out.1.blk.cell 1
            have f0 : w8.cell? ⟨n, 0, none⟩ = some (.slice a1 n1 c1) := HL.out.1.blk.cell 0
            have f1 : w8.cell? ⟨n, 1, none⟩ = some (.slice a2 n2 c2) := HL.out.1.blk.cell 1
            go_region_held3 (fun w' => w'.cell? ⟨n, 0, none⟩ = some (.slice a1 n1 c1) ∧ w'.cell? ⟨n, 1, none⟩ = some (.slice a2 n2 c2))
              (first | go_keep | exact ⟨e0, e1⟩ | exact ⟨g1, g2⟩)
              (first
                | (go_at_call 17; refine (held_any (HL.out.1.below (by repeat (first | exact Below.refl _ _ | apply b_drew))).q (by have := HLEN.out; omega)).mono ?_; rintro e x8 ⟨vh, rfl, hvh, hb8⟩; have hx8 : Below w8.heap.size w8 x8 := undrew hb8; have g1 := bcell hx8 f0; have g2 := bcell hx8 f1)
                | (go_at_call_of 27 vh; refine (gsame_any vh (.slice a1 n1 c1) _ _ _ (by first | exact gread_of_ownsRow hvh | exact (gread_of_ownsRow hvh).below (b_drew (Below.refl _ _))) (HL.out.1.below (by repeat (first | exact hx8 | apply b_drew))).r1).mono ?_; rintro e x9 ⟨rfl, hb9⟩; have hx9 : Below w8.heap.size w8 x9 := hx8.trans (hb9.mono hx8.size); have g1 := bcell hx9 f0; have g2 := bcell hx9 f1; rw [decide_eq_true rfl])
                | (go_at_call 28; refine (waits_any (HL.out.1.below (by repeat (first | exact hx9 | apply b_drew))).q (by have := HLEN.out; omega)).mono ?_; rintro e x10 ⟨vw, rfl, hvw, hb10⟩; have hx10 : Below w8.heap.size w8 x10 := hx9.trans (hb10.mono hx9.size); have g1 := bcell hx10 f0; have g2 := bcell hx10 f1)
                | (go_at_call_of 27 vw; refine (gsame_any vw (.slice a2 n2 c2) _ _ _ (by first | exact gread_of_ownsRow hvw | exact (gread_of_ownsRow hvw).below (b_drew (Below.refl _ _))) (HL.out.1.below (by repeat (first | exact hx10 | apply b_drew))).r2).mono ?_; rintro e x11 ⟨rfl, hb11⟩; have hx11 : Below w8.heap.size w8 x11 := hx10.trans (hb11.mono hx10.size); have g1 := bcell hx11 f0; have g2 := bcell hx11 f1; rw [decide_eq_true rfl]))
            all_goals
              have HX := Lib.hid hx11
              clear e0 e1 f0 f1 hx8 hx9 hx10 hx11 hb8 hb9 hb10 hb11 hvh hvw g1 g2
              go_wp2
              go_roundg m
              case measure => omega
              case rel => exact ⟨k + 1, by go_num, by omega, ⟨_, _, _, by rw [HSS.out]; exact HL.out.1.below HX.out⟩, HL.out.2.trans (HX.out.mono HL.out.2.size)⟩
          | false =>
            have HTH := Lib.hid hth
            clear hth
            have hss2 : runL (l.take (k + 1)) = askS ss ac.id ac.mode := by rw [HK.out.2, hst]
            have HSS := Lib.hid hss2
            clear hst hss2
            go_wp2_with fail
            refine (lthere_any _ _ _ _ ac.id w3 HT3.out.1.r1 HT3.out.1.r2 (by have := HLN.out; omega)).mono ?_
            rintro e w4 ⟨rfl, hb4⟩
            rw [HTH.out]
            have H4 := Lib.hid (And.intro (HT3.out.1.below hb4) (HT3.out.2.trans (hb4.mono HT3.out.2.size)))
            have z2 := bcell hb4 z0
            have z3 := bcell hb4 z1
            clear hb4 z0 z1 y0
            go_wp2_with fail
            refine (lask_any _ _ _ _ ac.id ac.mode w4 H4.out.1.r1 H4.out.1.r2 H4.out.1.b1 H4.out.1.b2 (by have := HLN.out; omega) HMO.out HTH.out).mono ?_
            rintro e w5 ⟨fa, fb, rfl, ga, gb, na, nb, ua, ub, hb5⟩
            obtain ⟨_, a5, c5, rfl, _⟩ := (show _ from ga)
            obtain ⟨_, a6, c6, rfl, _⟩ := (show _ from gb)
            obtain ⟨ok, hok⟩ : ∃ ok, ok = (askQ ss.1 ss.2 ac.id ac.mode).1 := ⟨_, rfl⟩
            obtain ⟨m5, hm5⟩ : ∃ m5, m5 = (askQ ss.1 ss.2 ac.id ac.mode).2.1.length := ⟨_, rfl⟩
            obtain ⟨n6, hn6⟩ : ∃ n6, n6 = (askQ ss.1 ss.2 ac.id ac.mode).2.2.length := ⟨_, rfl⟩
            rw [← hm5] at ga na ua
            rw [← hn6] at gb nb ub
            rw [← hok, ← hm5, ← hn6]
            have hbA : Below w5.heap.size w5 (w5.alloc (.cells #[.slice a5 m5 c5, .slice a6 n6 c6] 39)) := (Below.refl _ _).alloc (Nat.le_refl _) _
            have hL4 := H4.out.1.below (hb5.trans (hbA.mono hb5.size))
            have hset := hL4.set (w0 := w4) (m2 := askS ss ac.id ac.mode) (fun x hx => by
              rcases hx with hx | rfl
              · exact (H4.out.1.lt x hx).2
              · exact H4.out.1.blk.lt) (ga.below hbA) (gb.below hbA) na nb (ua.le hbA.size) (ub.le hbA.size)
            have hb6 : Below w.heap.size w (((w5.alloc (.cells #[.slice a5 m5 c5, .slice a6 n6 c6] 39)).setCell ⟨n, 0, none⟩ (.slice a5 m5 c5)).setCell ⟨n, 1, none⟩ (.slice a6 n6 c6)) := (H4.out.2.trans ((hb5.trans (hbA.mono hb5.size)).mono H4.out.2.size)).trans (hset.2.below (by have := H4.out.2.size; have := hb5.size; simp; omega) (fun x hx e => by have := HLA.out.1.hn; omega))
            have H6 := Lib.hid (And.intro hset.1 hb6)
            have ea0 : (w5.alloc (.cells #[.slice a5 m5 c5, .slice a6 n6 c6] 39)).cell? ⟨n, 0, none⟩ = some (.slice a1 n1 c1) := hL4.blk.cell 0
            have ea1 : (w5.alloc (.cells #[.slice a5 m5 c5, .slice a6 n6 c6] 39)).cell? ⟨n, 1, none⟩ = some (.slice a2 n2 c2) := hL4.blk.cell 1
            have ea2 := hL4.blk.frozen 0
            have ea3 := hL4.blk.frozen 1
            have HOK := Lib.hid hok
            clear ga gb na nb ua ub hb5 hbA hL4 hset hb6 hok hm5 hn6 z2 z3
            go_wp2_with fail
            refine (ask_any ac.id ac.mode H6.out.1.q (by have := HLN.out; omega)).mono ?_
            rintro e w8 ⟨err, rfl, hq8, ho8, hat⟩
            unfold AskTold at hat
            rw [if_neg HMO.out, if_neg (by rw [HTH.out]; simp)] at hat
            subst hat
            rw [← HOK.out]
            have hL8 := H6.out.1.step (s2 := askS ss ac.id ac.mode) H6.out.2.size hq8 (fun b hb => hb) ho8
            have hb8 : Below w.heap.size w w8 := H6.out.2.trans (ho8.below H6.out.2.size (fun b hb e => by have := (H6.out.1.lt b e).1; omega))
            have HL := Lib.hid (And.intro hL8 hb8)
            have hlen8 : (askS ss ac.id ac.mode).1.length + (askS ss ac.id ac.mode).2.length ≤ 1000 := by rw [← HSS.out]; exact Nat.le_trans (runL_len _) (by rw [List.length_take]; omega)
            have HLEN := Lib.hid hlen8
            clear hL8 hb8 hq8 ho8 ea0 ea1 ea2 ea3 hlen8
            go_wp2
            have e0 : w8.drew.cell? ⟨n, 0, none⟩ = some (.slice a5 m5 c5) := HL.out.1.blk.cell 0
            have e1 : w8.drew.cell? ⟨n, 1, none⟩ = some (.slice a6 n6 c6) := HL.out.1.blk.cell 1
            have f0 : w8.cell? ⟨n, 0, none⟩ = some (.slice a5 m5 c5) := HL.out.1.blk.cell 0
            have f1 : w8.cell? ⟨n, 1, none⟩ = some (.slice a6 n6 c6) := HL.out.1.blk.cell 1
            go_region_held3 (fun w' => w'.cell? ⟨n, 0, none⟩ = some (.slice a5 m5 c5) ∧ w'.cell? ⟨n, 1, none⟩ = some (.slice a6 n6 c6))
              (first | go_keep | exact ⟨e0, e1⟩ | exact ⟨g1, g2⟩)
              (first
                | (go_at_call 17; refine (held_any (HL.out.1.below (by repeat (first | exact Below.refl _ _ | apply b_drew))).q (by have := HLEN.out; omega)).mono ?_; rintro e x8 ⟨vh, rfl, hvh, hb8⟩; have hx8 : Below w8.heap.size w8 x8 := undrew hb8; have g1 := bcell hx8 f0; have g2 := bcell hx8 f1)
                | (go_at_call_of 27 vh; refine (gsame_any vh (.slice a5 m5 c5) _ _ _ (by first | exact gread_of_ownsRow hvh | exact (gread_of_ownsRow hvh).below (b_drew (Below.refl _ _))) (HL.out.1.below (by repeat (first | exact hx8 | apply b_drew))).r1).mono ?_; rintro e x9 ⟨rfl, hb9⟩; have hx9 : Below w8.heap.size w8 x9 := hx8.trans (hb9.mono hx8.size); have g1 := bcell hx9 f0; have g2 := bcell hx9 f1; rw [decide_eq_true rfl])
                | (go_at_call 28; refine (waits_any (HL.out.1.below (by repeat (first | exact hx9 | apply b_drew))).q (by have := HLEN.out; omega)).mono ?_; rintro e x10 ⟨vw, rfl, hvw, hb10⟩; have hx10 : Below w8.heap.size w8 x10 := hx9.trans (hb10.mono hx9.size); have g1 := bcell hx10 f0; have g2 := bcell hx10 f1)
                | (go_at_call_of 27 vw; refine (gsame_any vw (.slice a6 n6 c6) _ _ _ (by first | exact gread_of_ownsRow hvw | exact (gread_of_ownsRow hvw).below (b_drew (Below.refl _ _))) (HL.out.1.below (by repeat (first | exact hx10 | apply b_drew))).r2).mono ?_; rintro e x11 ⟨rfl, hb11⟩; have hx11 : Below w8.heap.size w8 x11 := hx10.trans (hb11.mono hx10.size); have g1 := bcell hx11 f0; have g2 := bcell hx11 f1; rw [decide_eq_true rfl]))
            all_goals
              have HX := Lib.hid hx11
              clear e0 e1 f0 f1 hx8 hx9 hx10 hx11 hb8 hb9 hb10 hb11 hvh hvw g1 g2
              go_wp2
              go_roundg m
              case measure => omega
              case rel => exact ⟨k + 1, by go_num, by omega, ⟨_, _, _, by rw [HSS.out]; exact HL.out.1.below HX.out⟩, HL.out.2.trans (HX.out.mono HL.out.2.size)⟩
        · have hkd : decide (ac.k < 150) = false := by simpa using hkind
          have hge : ac.k ≥ 150 := by omega
          have hge2 : (150 : Int) ≤ ac.k := by omega
          have hst : stepL ss ac = freeS ss ac.id := by simp [stepL, hkind]
          have hss2 : runL (l.take (k + 1)) = freeS ss ac.id := by rw [HK.out.2, hst]
          have HSS := Lib.hid hss2
          clear hst hss2
          go_wp2_with fail
          refine (lfree_any _ _ _ _ ac.id w3 HT3.out.1.r1 HT3.out.1.r2 (by have := HLN.out; omega)).mono ?_
          rintro e w4 ⟨fa, fb, fc, rfl, hmf, hb4⟩
          obtain ⟨a5, m5, c5, rfl⟩ := ownsRow_slice hmf.held
          obtain ⟨_, a6, c6, rfl, _⟩ := (show _ from hmf.wait)
          obtain ⟨n6, hn6⟩ : ∃ n6, n6 = (freeQ ss.1 ss.2 ac.id).2.1.length := ⟨_, rfl⟩
          rw [← hn6] at hmf
          rw [← hn6]
          have hbA : Below w4.heap.size w4 (w4.alloc (.cells #[.slice a5 m5 c5, .slice a6 n6 c6] 39)) := (Below.refl _ _).alloc (Nat.le_refl _) _
          have hL4 := HT3.out.1.below (hb4.trans (hbA.mono hb4.size))
          have hset := hL4.set (w0 := w3) (m2 := freeS ss ac.id) (fun x hx => by
            rcases hx with hx | rfl
            · exact (HT3.out.1.lt x hx).2
            · exact HT3.out.1.blk.lt) ((gread_of_ownsRow hmf.held).below hbA) (hmf.wait.below hbA) (near_own hmf.held (Nat.le_refl _)) (fun g hg _ _ a k c e2 e3 => by have := (hmf.lt a k c e2).1; omega) ((up_own hmf.held).le hbA.size) (fun a k c e2 => Nat.lt_of_lt_of_le (hmf.lt a k c e2).2 hbA.size)
          have hc5 := own_only (own_below hmf.out hbA) hset.2 (fun g e1 e2 => own_ne hL4.blk (own_below hmf.out hbA) (by decide) g e1 e2)
          have hb5 : Below w.heap.size w (((w4.alloc (.cells #[.slice a5 m5 c5, .slice a6 n6 c6] 39)).setCell ⟨n, 0, none⟩ (.slice a5 m5 c5)).setCell ⟨n, 1, none⟩ (.slice a6 n6 c6)) := (HT3.out.2.trans ((hb4.trans (hbA.mono hb4.size)).mono HT3.out.2.size)).trans (hset.2.below (by have := HT3.out.2.size; have := hb4.size; simp; omega) (fun x hx e => by have := HLA.out.1.hn; omega))
          have H5 := Lib.hid (And.intro hset.1 (And.intro hb5 (And.intro hc5 hb4.size)))
          have ea0 : (w4.alloc (.cells #[.slice a5 m5 c5, .slice a6 n6 c6] 39)).cell? ⟨n, 0, none⟩ = some (.slice a1 n1 c1) := hL4.blk.cell 0
          have ea1 : (w4.alloc (.cells #[.slice a5 m5 c5, .slice a6 n6 c6] 39)).cell? ⟨n, 1, none⟩ = some (.slice a2 n2 c2) := hL4.blk.cell 1
          have ea2 := hL4.blk.frozen 0
          have ea3 := hL4.blk.frozen 1
          clear hmf hb4 hbA hL4 hset hc5 hb5 hn6 z0 z1 y0
          go_wp2_with fail
          refine (free_any ac.id H5.out.1.q (by have := HLN.out; omega) (fun b hb => (H5.out.1.lt b hb).2)).mono ?_
          rintro e w7 ⟨v7, rfl, hv7, hq7, ho7⟩
          have hsz5 := H5.out.2.1.size
          have hL7 := H5.out.1.step (s2 := freeS ss ac.id) hsz5 hq7 (fun b hb => by rcases hb with hb | hb; exact .inl hb; exact .inr hb.1) ho7
          have hc7 := own_only H5.out.2.2.1 ho7 (fun g e1 e2 => by have := own_blk_ge H5.out.2.2.1 e1; have := (HT3.out.1.lt g e2).2; omega)
          have hb7 : Below w.heap.size w w7 := H5.out.2.1.trans (ho7.below hsz5 (fun b hb e => by have := (H5.out.1.lt b e).1; omega))
          have H7 := Lib.hid (And.intro hL7 (And.intro hb7 (And.intro hc7 hv7)))
          clear hL7 hc7 hb7 hv7 hq7 ho7 ea0 ea1 ea2 ea3 hsz5
          go_wp2_with fail
          refine (same_any _ _ _ _ w7 (iread_of_own H7.out.2.2.2) (iread_of_own H7.out.2.2.1)).mono ?_
          rintro e w8 ⟨rfl, hb8⟩
          rw [decide_eq_true rfl]
          have HL := Lib.hid (And.intro (H7.out.1.below hb8) (H7.out.2.1.trans (hb8.mono H7.out.2.1.size)))
          have hlen8 : (freeS ss ac.id).1.length + (freeS ss ac.id).2.length ≤ 1000 := by rw [← HSS.out]; exact Nat.le_trans (runL_len _) (by rw [List.length_take]; omega)
          have HLEN := Lib.hid hlen8
          clear hb8 hlen8
          go_wp2
          have e0 : w8.drew.cell? ⟨n, 0, none⟩ = some (.slice a5 m5 c5) := HL.out.1.blk.cell 0
          have e1 : w8.drew.cell? ⟨n, 1, none⟩ = some (.slice a6 n6 c6) := HL.out.1.blk.cell 1
          have f0 : w8.cell? ⟨n, 0, none⟩ = some (.slice a5 m5 c5) := HL.out.1.blk.cell 0
          have f1 : w8.cell? ⟨n, 1, none⟩ = some (.slice a6 n6 c6) := HL.out.1.blk.cell 1
          go_region_held3 (fun w' => w'.cell? ⟨n, 0, none⟩ = some (.slice a5 m5 c5) ∧ w'.cell? ⟨n, 1, none⟩ = some (.slice a6 n6 c6))
            (first | go_keep | exact ⟨e0, e1⟩ | exact ⟨g1, g2⟩)
            (first
              | (go_at_call 17; refine (held_any (HL.out.1.below (by repeat (first | exact Below.refl _ _ | apply b_drew))).q (by have := HLEN.out; omega)).mono ?_; rintro e x8 ⟨vh, rfl, hvh, hb8⟩; have hx8 : Below w8.heap.size w8 x8 := undrew hb8; have g1 := bcell hx8 f0; have g2 := bcell hx8 f1)
              | (go_at_call_of 27 vh; refine (gsame_any vh (.slice a5 m5 c5) _ _ _ (by first | exact gread_of_ownsRow hvh | exact (gread_of_ownsRow hvh).below (b_drew (Below.refl _ _))) (HL.out.1.below (by repeat (first | exact hx8 | apply b_drew))).r1).mono ?_; rintro e x9 ⟨rfl, hb9⟩; have hx9 : Below w8.heap.size w8 x9 := hx8.trans (hb9.mono hx8.size); have g1 := bcell hx9 f0; have g2 := bcell hx9 f1; rw [decide_eq_true rfl])
              | (go_at_call 28; refine (waits_any (HL.out.1.below (by repeat (first | exact hx9 | apply b_drew))).q (by have := HLEN.out; omega)).mono ?_; rintro e x10 ⟨vw, rfl, hvw, hb10⟩; have hx10 : Below w8.heap.size w8 x10 := hx9.trans (hb10.mono hx9.size); have g1 := bcell hx10 f0; have g2 := bcell hx10 f1)
              | (go_at_call_of 27 vw; refine (gsame_any vw (.slice a6 n6 c6) _ _ _ (by first | exact gread_of_ownsRow hvw | exact (gread_of_ownsRow hvw).below (b_drew (Below.refl _ _))) (HL.out.1.below (by repeat (first | exact hx10 | apply b_drew))).r2).mono ?_; rintro e x11 ⟨rfl, hb11⟩; have hx11 : Below w8.heap.size w8 x11 := hx10.trans (hb11.mono hx10.size); have g1 := bcell hx11 f0; have g2 := bcell hx11 f1; rw [decide_eq_true rfl]))
          all_goals
            have HX := Lib.hid hx11
            clear e0 e1 f0 f1 hx8 hx9 hx10 hx11 hb8 hb9 hb10 hb11 hvh hvw g1 g2
            go_wp2
            go_roundg m
            case measure => omega
            case rel => exact ⟨k + 1, by go_num, by omega, ⟨_, _, _, by rw [HSS.out]; exact HL.out.1.below HX.out⟩, HL.out.2.trans (HX.out.mono HL.out.2.size)⟩
end Go.Proofs.YteghcgiclpbkdaaDoor
