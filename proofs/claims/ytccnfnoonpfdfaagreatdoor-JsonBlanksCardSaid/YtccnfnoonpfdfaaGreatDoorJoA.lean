/- JsonBlanks: the law's walk (printed by wip/gen_joa.py). -/
import Derived.Test.YtccnfnoonpfdfaaGreatDoorJnX
namespace Go.Proofs.YtccnfnoonpfdfaaGreatDoor
open Go.Shelf Go.RowKit Go.Lib

/-- the blanks that the law puts. -/
def padA (l : BL) (i : Nat) : BL := if l.length = 0 then [] else ([32, 9, 10, 13] : BL).drop ((l.getD (i % l.length) 0).toNat % 4)
theorem padA_pads (l : BL) : Pads (padA l) := fun i c h => by
  unfold padA at h
  split at h
  · cases h
  · have h2 : c ∈ ([32, 9, 10, 13] : BL) := List.mem_of_mem_drop h
    simp only [List.mem_cons, List.not_mem_nil, or_false] at h2
    rcases h2 with rfl | rfl | rfl | rfl <;> rfl
theorem ba_get {s : BL} {K : ByteArray} (h : BA s = K) (i : Nat) (hi : i < K.size) : s[i]? = some K[i] := by
  subst h
  have h2 : i < s.length := by rw [← ba_size]; exact hi
  rw [List.getElem?_eq_getElem h2]
  congr 1
theorem u8_eq (c : UInt8) (k : Nat) (hk : k < 256) : (((c.toNat : Nat) : Int) == (k : Int)) = (c == UInt8.ofNat k) := by
  rw [Bool.eq_iff_iff]
  simp only [beq_iff_eq]
  constructor
  · intro h
    have : c.toNat = k := by omega
    rw [← this]; simp
  · rintro rfl
    rw [UInt8.toNat_ofNat']
    omega
theorem scan_step {pd : Nat → BL} {s O : BL} {i : Nat} {p2 p1 c : UInt8} {b b3 : Bool} (hsc : scanO pd 0 s = O ++ scanF pd i p2 p1 b (s.drop i)) (hc : s[i]? = some c) (hb3 : b3 = inB p2 p1 b c) :
    scanO pd 0 s = (O ++ [c] ++ (if !b3 && sepB c then pd i else [])) ++ scanF pd (i + 1) p1 c b3 (s.drop (i + 1)) := by
  obtain ⟨hi, he⟩ := List.getElem?_eq_some_iff.1 hc
  rw [hsc, List.drop_eq_getElem_cons hi, he, scanF, hb3]
  simp
theorem ba_one {s : BL} {K : ByteArray} (h : BA s = K) {i : Nat} {c : UInt8} (hc : s[i]? = some c) : K.extract i (i + 1) = BA [c] := by
  obtain ⟨hi, he⟩ := List.getElem?_eq_some_iff.1 hc
  rw [← h]
  exact ba_mid s [c] (s.drop (i + 1)) i (by rw [List.drop_eq_getElem_cons hi, he]; rfl)
theorem pad_no {m : BL} {i : Nat} {c : UInt8} {b3 : Bool} (h : (!b3 && (sepB c && decide (0 < m.length))) = false) : (if !b3 && sepB c then padA m i else []) = [] := by
  split
  · next h2 =>
    rw [← Bool.and_assoc, h2, Bool.true_and, decide_eq_false_iff_not] at h
    unfold padA
    rw [if_pos (by omega)]
  · rfl
theorem pad_yes {m : BL} {i : Nat} {c : UInt8} {b3 : Bool} (h : (!b3 && (sepB c && decide (0 < m.length))) = true) : 0 < m.length ∧ (if !b3 && sepB c then padA m i else []) = ([32, 9, 10, 13] : BL).drop ((m.getD (i % m.length) 0).toNat % 4) := by
  rw [← Bool.and_assoc, Bool.and_eq_true, decide_eq_true_iff] at h
  refine ⟨h.2, ?_⟩
  rw [if_pos h.1]
  unfold padA
  rw [if_neg (by omega)]
theorem padA_small (l : BL) : Small (padA l) := fun i => by
  unfold padA
  split
  · exact Nat.zero_le _
  · rw [List.length_drop]; exact Nat.sub_le _ _

set_option maxHeartbeats 8000000 in
set_option maxRecDepth 100000 in
theorem jblanks_law (nb : Nat) (w : World) (sv pv : Value) (l m : BL) (hnb : nb ≤ w.heap.size) (h : BRead nb w sv l) (h2 : BRead nb w pv m) (hJ : JW w) :
    Calls Tryz.prog 7 #[sv, pv] w fun e w' => e = .returned (.bool true) ∧ Below w.heap.size w w' := by
  obtain ⟨hm1, a1, cap1, rfl, hcap1, hx1⟩ := h2
  have H := Lib.hid (And.intro hnb (And.intro h (And.intro hx1 hJ)))
  have hml := Lib.hid hm1
  clear hnb h hJ hx1 hm1
  go_enter Tryz.func7, Tryz.ntmps7
  go_wp2_with fail
  refine (jawake_any _ H.out.2.2.2.1).mono ?_
  rintro e w1 ⟨rfl, hb1⟩
  have H1 := Lib.hid hb1
  clear hb1
  go_wp2_with fail
  refine (of_any nb w1 sv l (Nat.le_trans H.out.1 H1.out.size) (H.out.2.1.later (H1.out.mono H.out.1)) (H.out.2.2.2.2.later H1.out)).mono ?_
  rintro e w2 ⟨x, rfl, hx, hb2⟩
  have hokl := Lib.hid hx.ok
  have hx0 : VAt (fun b => w1.heap.size ≤ b ∧ b < w2.heap.size) w2 (ofL l) x := hx
  obtain ⟨q0, q1, q2, q3, q4, q5, q6, q7, q8, rfl⟩ := hx0.shape
  obtain ⟨P, hP⟩ : ∃ P, w2.heap.size = P := ⟨_, rfl⟩
  obtain ⟨W2, hW2⟩ : ∃ W, w2.alloc (.cells #[.int .i64 q0, .int .i64 q1, .string q2, .slice q3 q4 q5, .slice q6 q7 q8] 28) = W := ⟨_, rfl⟩
  have hk2 : Blk W2 P 28 [.int .i64 q0, .int .i64 q1, .string q2, .slice q3 q4 q5, .slice q6 q7 q8] := by rw [← hW2, ← hP]; exact heap_alloc_new w2 _
  have hb2a : Below w2.heap.size w2 W2 := by rw [← hW2]; exact (Below.refl _ w2).alloc (Nat.le_refl _) _
  have H2 := Lib.hid (And.intro (hx0.later hb2a) (And.intro hk2 (And.intro ((H1.out.trans (hb2.mono H1.out.size)).trans (hb2a.mono (Nat.le_trans H1.out.size hb2.size))) (And.intro hP hW2))))
  clear hb2 hx hx0 hk2 hb2a hP hW2
  go_wp2_with fail
  rw [H2.out.2.2.2.2]
  (try rw [H2.out.2.2.2.1])
  refine (show Calls _ _ _ _ _ from print_any (ofL l) _ _ _ H2.out.1 (H.out.2.2.2.1.below H2.out.2.2.1) (by have := print_size l; omega)).mono ?_
  rintro e w3 ⟨rfl, hb3⟩
  have H3 := Lib.hid (And.intro (H2.out.1.later hb3) (And.intro (H2.out.2.1.below hb3) (H2.out.2.2.1.trans (hb3.mono H2.out.2.2.1.size))))
  clear hb3
  obtain ⟨s, hs⟩ : ∃ s, printV (ofL l) = s := ⟨_, rfl⟩
  have hs0 := Lib.hid hs
  rw [hs]
  obtain ⟨K, hK⟩ : ∃ K, BA s = K := ⟨_, rfl⟩
  rw [hK]
  have hN : K.size = s.length := by rw [← hK, ba_size]
  have hNs : s.length ≤ 2498 := by rw [← hs]; exact print_size l
  have HK := Lib.hid hK
  clear hK hs
  go_wp2_with fail
  go_loopg [7, 8, 9] s.length (fun gk ov bv iv wr => ∃ (i : Nat) (O : BL) (b : Bool) (p2 p1 : UInt8) (X : ByteArray), gk + i = s.length ∧ ov = .string X ∧ bv = .bool b ∧ iv = .int .i64 i ∧ X.size ≤ 5 * i ∧ Hid (X = BA O ∧ scanO (padA m) 0 s = O ++ scanF (padA m) i p2 p1 b (s.drop i) ∧ (i < 1 → p1 = 0) ∧ (1 ≤ i → s[i - 1]? = some p1) ∧ (i < 2 → p2 = 0) ∧ (2 ≤ i → s[i - 2]? = some p2)) ∧ Hid (Below w3.heap.size w3 wr))
  case atStart => exact ⟨0, [], false, 0, 0, _, Nat.add_zero _, rfl, rfl, rfl, by decide, Lib.hid ⟨rfl, rfl, fun _ => rfl, fun h => absurd h (by omega), fun _ => rfl, fun h => absurd h (by omega)⟩, Lib.hid (Below.refl _ _)⟩
  case round =>
    obtain ⟨i, O, b, p2, p1, X, hg, rfl, rfl, rfl, hxs, HC, HB⟩ := hrel
    by_cases hi : i < s.length
    · have hiz : (i : Int) < (s.length : Int) := by omega
      have hwK : IntKind.i64.wrap ((i : Int) + 1) = ((i + 1 : Nat) : Int) := by rw [IntWalk.i64_in _ (by omega)]; omega
      have hiK : i < K.size := by rw [hN]; exact hi
      obtain ⟨c, hc⟩ : ∃ c, K[i] = c := ⟨_, rfl⟩
      have hcs : s[i]? = some c := by rw [← hc]; exact ba_get HK.out i hiK
      have HS := Lib.hid hcs
      clear hcs
      go_upto_region 10 with fail
      go_cut [11] from 29 to 51 (fun v wx => v = .bool (escB p2 p1 b) ∧ Hid (Below w3.heap.size w3 wx))
      case first =>
        cases b with
        | false =>
          go_wp2
          go_meet
          exact ⟨rfl, HB⟩
        | true =>
          by_cases hi1 : i < 1
          · have e1 : ¬ (0 : Int) < (i : Int) := by omega
            have e2 : decide ((0 : Int) < (i : Int)) = false := by simpa using e1
            have ep := HC.out.2.2.1 hi1
            go_wp2
            go_meet
            exact ⟨by rw [ep]; rfl, HB⟩
          · have e1 : (0 : Int) < (i : Int) := by omega
            have e2 : decide ((0 : Int) < (i : Int)) = true := by simpa using e1
            obtain ⟨j1, hj1⟩ : ∃ j, i - 1 = j := ⟨_, rfl⟩
            have hw1 : IntKind.i64.wrap ((i : Int) - 1) = (j1 : Int) := by rw [IntWalk.i64_in _ (by omega)]; omega
            have hk1 : j1 < K.size := by omega
            have hz1 : (j1 : Int) < (K.size : Int) := by omega
            have hp1 : K[j1] = p1 := by
              have h := HC.out.2.2.2.1 (by omega)
              rw [hj1, ba_get HK.out j1 hk1] at h
              exact Option.some.inj h
            have ep : (((p1.toNat : Nat) : Int) == 92) = (p1 == 92) := u8_eq p1 92 (by decide)
            by_cases hp92 : p1 = 92
            · have e3 : (p1 == 92) = true := by simpa using hp92
              rw [e3] at ep
              have he0 : escB p2 p1 true = (p2 != 92) := by unfold escB; rw [e3]; simp
              have HE0 := Lib.hid he0
              clear e3 he0
              by_cases hi2 : i < 2
              · have e4 : (i : Int) < 2 := by omega
                have ep2 := HC.out.2.2.2.2.1 hi2
                go_wp2
                go_meet
                exact ⟨by rw [HE0.out, ep2]; rfl, HB⟩
              · have e4 : ¬ (i : Int) < 2 := by omega
                obtain ⟨j2, hj2⟩ : ∃ j, i - 2 = j := ⟨_, rfl⟩
                have hw2 : IntKind.i64.wrap ((i : Int) - 2) = (j2 : Int) := by rw [IntWalk.i64_in _ (by omega)]; omega
                have hk2 : j2 < K.size := by omega
                have hz2 : (j2 : Int) < (K.size : Int) := by omega
                have hp2 : K[j2] = p2 := by
                  have h := HC.out.2.2.2.2.2 (by omega)
                  rw [hj2, ba_get HK.out j2 hk2] at h
                  exact Option.some.inj h
                have ep2 : (((p2.toNat : Nat) : Int) == 92) = (p2 == 92) := u8_eq p2 92 (by decide)
                go_wp2
                go_meet
                exact ⟨by rw [HE0.out]; simp [bne]; exact u8_eq p2 92 (by decide), HB⟩
            · have e3 : (p1 == 92) = false := by simpa using hp92
              rw [e3] at ep
              have he0 : escB p2 p1 true = false := by unfold escB; rw [e3]; simp
              have HE0 := Lib.hid he0
              clear e3 he0
              go_wp2
              go_meet
              exact ⟨by rw [HE0.out], HB⟩
      case rest =>
        obtain ⟨rfl, HB⟩ := hcut
        obtain ⟨eb, heb⟩ : ∃ e, escB p2 p1 b = e := ⟨_, rfl⟩
        rw [heb]
        have HEB := Lib.hid heb
        clear heb
        have ec : (((c.toNat : Nat) : Int) == 34) = (c == 34) := u8_eq c 34 (by decide)
        obtain ⟨c34, hc34⟩ : ∃ x, (c == 34) = x := ⟨_, rfl⟩
        have H34 := Lib.hid hc34
        rw [hc34] at ec
        clear hc34
        go_upto_region 11 with fail
        go_cut [57] from 52 to 57 (fun v wx => v = .bool (c34 && !eb) ∧ Hid (Below w3.heap.size w3 wx))
        case first =>
          cases c34 <;> cases eb <;> (
            go_wp2
            go_meet
            exact ⟨by first | rfl | simp, HB⟩)
        case rest =>
          obtain ⟨rfl, HB⟩ := hcut
          obtain ⟨f, hf⟩ : ∃ f, (c34 && !eb) = f := ⟨_, rfl⟩
          have h2 : (if f then !b else b) = inB p2 p1 b c := by rw [← hf]; unfold inB; rw [HEB.out, H34.out]
          rw [hf]
          have HH := Lib.hid h2
          clear h2 hf ec H34 HEB
          have hb2 : (i : Int) + 1 ≤ (K.size : Int) := by omega
          cases f with
          | false =>
            have HB2 := Lib.hid (show b = inB p2 p1 b c from HH.out)
            clear HH
            go_upto_region 13 with fail
            go_cut [7] from 60 to 66 (fun v wx => ∃ Y : ByteArray, v = .string Y ∧ Hid (Y = BA (O ++ [c])) ∧ Y.size ≤ 5 * i + 1 ∧ Hid (Below w3.heap.size w3 wx))
            case first =>
              go_wp2
              go_meet
              have e := ba_one HK.out HS.out
              refine ⟨_, rfl, Lib.hid ?_, ?_, HB⟩
              · rw [e, BA_append, HC.out.1]
              · have z1 : (BA [c]).size = 1 := ba_size [c]
                rw [e, ByteArray.size_append, z1]; omega
            case rest =>
              obtain ⟨Y, rfl, HY, hys, HB⟩ := hcut
              obtain ⟨b3, hb3⟩ : ∃ x, b = x := ⟨_, rfl⟩
              rw [hb3]
              have HB3 := Lib.hid (show b3 = inB p2 p1 b c from hb3.symm.trans HB2.out)
              clear hb3 HB2
              go_upto_region 14 with fail
              go_cut [89] from 67 to 89 (fun v wx => v = .bool (!b3 && (sepB c && decide (0 < m.length))) ∧ Hid (Below w3.heap.size w3 wx))
              case first =>
                obtain ⟨f0, hf0⟩ : ∃ f, decide (0 < m.length) = f := ⟨_, rfl⟩
                have HM0 := Lib.hid hf0
                have e5 : decide ((0 : Int) < (m.length : Int)) = f0 := by rw [← hf0]; exact decide_eq_decide.2 (by omega)
                have hsp : sepB c = (c == 44 || c == 58 || c == 91 || c == 123) := rfl
                obtain ⟨x1, hx1⟩ : ∃ x, (c == 44) = x := ⟨_, rfl⟩
                have q1 : (((c.toNat : Nat) : Int) == 44) = x1 := (u8_eq c 44 (by decide)).trans hx1
                obtain ⟨x2, hx2⟩ : ∃ x, (c == 58) = x := ⟨_, rfl⟩
                have q2 : (((c.toNat : Nat) : Int) == 58) = x2 := (u8_eq c 58 (by decide)).trans hx2
                obtain ⟨x3, hx3⟩ : ∃ x, (c == 91) = x := ⟨_, rfl⟩
                have q3 : (((c.toNat : Nat) : Int) == 91) = x3 := (u8_eq c 91 (by decide)).trans hx3
                obtain ⟨x4, hx4⟩ : ∃ x, (c == 123) = x := ⟨_, rfl⟩
                have q4 : (((c.toNat : Nat) : Int) == 123) = x4 := (u8_eq c 123 (by decide)).trans hx4
                rw [hx1, hx2, hx3, hx4] at hsp
                have HSP := Lib.hid hsp
                clear hf0 hsp hx1 hx2 hx3 hx4
                cases b3 with
                | true =>
                  go_wp2
                  go_meet
                  exact ⟨rfl, HB⟩
                | false =>
                  cases x1 with
                  | true =>
                    go_wp2
                    go_meet
                    exact ⟨by rw [HSP.out]; simp [HM0.out], HB⟩
                  | false =>
                    cases x2 with
                    | true =>
                      go_wp2
                      go_meet
                      exact ⟨by rw [HSP.out]; simp [HM0.out], HB⟩
                    | false =>
                      cases x3 with
                      | true =>
                        go_wp2
                        go_meet
                        exact ⟨by rw [HSP.out]; simp [HM0.out], HB⟩
                      | false =>
                        cases x4 with
                        | true =>
                          go_wp2
                          go_meet
                          exact ⟨by rw [HSP.out]; simp [HM0.out], HB⟩
                        | false =>
                          go_wp2
                          go_meet
                          exact ⟨by rw [HSP.out]; simp [HM0.out], HB⟩
              case rest =>
                obtain ⟨rfl, HB⟩ := hcut
                have hst := scan_step HC.out.2.1 HS.out HB3.out
                obtain ⟨f, hf⟩ : ∃ f, (!b3 && (sepB c && decide (0 < m.length))) = f := ⟨_, rfl⟩
                rw [hf]
                have HF := Lib.hid hf
                clear hf
                cases f with
                | false =>
                  rw [pad_no HF.out, List.append_nil] at hst
                  have HST := Lib.hid hst
                  clear hst
                  go_wp2
                  go_roundg (gk - 1)
                  case rel => exact ⟨i + 1, O ++ [c], b3, p1, c, Y, by omega, rfl, rfl, rfl, by omega, Lib.hid ⟨HY.out, HST.out, fun h => absurd h (by omega), fun _ => by rw [Nat.add_sub_cancel]; exact HS.out, fun h => HC.out.2.2.1 (by omega), fun h => by rw [show i + 1 - 2 = i - 1 by omega]; exact HC.out.2.2.2.1 (by omega)⟩, HB⟩
                  case measure => omega
                | true =>
                  obtain ⟨hm0, hpe⟩ := pad_yes HF.out
                  rw [hpe] at hst
                  have hm1 := H.out.2.2.1 hm0
                  obtain ⟨pb, off, rfl, hpb, hcells⟩ := hm1
                  obtain ⟨j2, hj2⟩ : ∃ j, i % m.length = j := ⟨_, rfl⟩
                  have hjl : j2 < m.length := by rw [← hj2]; exact Nat.mod_lt _ hm0
                  obtain ⟨x, hx⟩ : ∃ x, m.getD j2 0 = x := ⟨_, rfl⟩
                  have hmx : m[j2]? = some x := by rw [← hx, List.getD_eq_getElem?_getD, List.getElem?_eq_getElem hjl]; rfl
                  have hcl := bcell (H3.out.2.2.trans (HB.out.mono H3.out.2.2.size)) (hcells j2 x hmx)
                  obtain ⟨r, hr⟩ : ∃ r, x.toNat % 4 = r := ⟨_, rfl⟩
                  have zf : (i : Int).tmod (m.length : Int) = (j2 : Int) := by rw [← hj2]; exact (Int.ofNat_tmod i m.length).symm
                  have zr : ((x.toNat : Nat) : Int).tmod 4 = (r : Int) := by rw [← hr]; exact (Int.ofNat_tmod x.toNat 4).symm
                  have hjz : (j2 : Int) < (m.length : Int) := by omega
                  have hnz : ¬ (m.length : Int) = 0 := by omega
                  have hr4 : r < 4 := by omega
                  have hrz : (r : Int) ≤ 4 := by omega
                  have HST := Lib.hid hst
                  have HR := Lib.hid (And.intro hj2 (And.intro hx hr))
                  clear hst hcells hmx hx hj2 hr hpe HF
                  go_wp2
                  go_roundg (gk - 1)
                  case rel =>
                    have e := ba_ext [32, 9, 10, 13] r
                    have e2 : ((⟨#[32, 9, 10, 13]⟩ : ByteArray).extract r 4) = BA (([32, 9, 10, 13] : BL).drop r) := e
                    rw [HR.out.1, HR.out.2.1, HR.out.2.2] at HST
                    refine ⟨i + 1, O ++ [c] ++ ([32, 9, 10, 13] : BL).drop r, b3, p1, c, _, by omega, rfl, rfl, rfl, ?_, Lib.hid ⟨?_, HST.out, fun h => absurd h (by omega), fun _ => by rw [Nat.add_sub_cancel]; exact HS.out, fun h => HC.out.2.2.1 (by omega), fun h => by rw [show i + 1 - 2 = i - 1 by omega]; exact HC.out.2.2.2.1 (by omega)⟩, HB⟩
                    · have z1 : (BA (([32, 9, 10, 13] : BL).drop r)).size = 4 - r := (ba_size _).trans (List.length_drop ..)
                      rw [e2, ByteArray.size_append, z1]; omega
                    · rw [e2, HY.out, ← BA_append]
                  case measure => omega
          | true =>
            have HB2 := Lib.hid (show (!b) = inB p2 p1 b c from HH.out)
            clear HH
            go_upto_region 13 with fail
            go_cut [7] from 60 to 66 (fun v wx => ∃ Y : ByteArray, v = .string Y ∧ Hid (Y = BA (O ++ [c])) ∧ Y.size ≤ 5 * i + 1 ∧ Hid (Below w3.heap.size w3 wx))
            case first =>
              go_wp2
              go_meet
              have e := ba_one HK.out HS.out
              refine ⟨_, rfl, Lib.hid ?_, ?_, HB⟩
              · rw [e, BA_append, HC.out.1]
              · have z1 : (BA [c]).size = 1 := ba_size [c]
                rw [e, ByteArray.size_append, z1]; omega
            case rest =>
              obtain ⟨Y, rfl, HY, hys, HB⟩ := hcut
              obtain ⟨b3, hb3⟩ : ∃ x, (!b) = x := ⟨_, rfl⟩
              rw [hb3]
              have HB3 := Lib.hid (show b3 = inB p2 p1 b c from hb3.symm.trans HB2.out)
              clear hb3 HB2
              go_upto_region 14 with fail
              go_cut [89] from 67 to 89 (fun v wx => v = .bool (!b3 && (sepB c && decide (0 < m.length))) ∧ Hid (Below w3.heap.size w3 wx))
              case first =>
                obtain ⟨f0, hf0⟩ : ∃ f, decide (0 < m.length) = f := ⟨_, rfl⟩
                have HM0 := Lib.hid hf0
                have e5 : decide ((0 : Int) < (m.length : Int)) = f0 := by rw [← hf0]; exact decide_eq_decide.2 (by omega)
                have hsp : sepB c = (c == 44 || c == 58 || c == 91 || c == 123) := rfl
                obtain ⟨x1, hx1⟩ : ∃ x, (c == 44) = x := ⟨_, rfl⟩
                have q1 : (((c.toNat : Nat) : Int) == 44) = x1 := (u8_eq c 44 (by decide)).trans hx1
                obtain ⟨x2, hx2⟩ : ∃ x, (c == 58) = x := ⟨_, rfl⟩
                have q2 : (((c.toNat : Nat) : Int) == 58) = x2 := (u8_eq c 58 (by decide)).trans hx2
                obtain ⟨x3, hx3⟩ : ∃ x, (c == 91) = x := ⟨_, rfl⟩
                have q3 : (((c.toNat : Nat) : Int) == 91) = x3 := (u8_eq c 91 (by decide)).trans hx3
                obtain ⟨x4, hx4⟩ : ∃ x, (c == 123) = x := ⟨_, rfl⟩
                have q4 : (((c.toNat : Nat) : Int) == 123) = x4 := (u8_eq c 123 (by decide)).trans hx4
                rw [hx1, hx2, hx3, hx4] at hsp
                have HSP := Lib.hid hsp
                clear hf0 hsp hx1 hx2 hx3 hx4
                cases b3 with
                | true =>
                  go_wp2
                  go_meet
                  exact ⟨rfl, HB⟩
                | false =>
                  cases x1 with
                  | true =>
                    go_wp2
                    go_meet
                    exact ⟨by rw [HSP.out]; simp [HM0.out], HB⟩
                  | false =>
                    cases x2 with
                    | true =>
                      go_wp2
                      go_meet
                      exact ⟨by rw [HSP.out]; simp [HM0.out], HB⟩
                    | false =>
                      cases x3 with
                      | true =>
                        go_wp2
                        go_meet
                        exact ⟨by rw [HSP.out]; simp [HM0.out], HB⟩
                      | false =>
                        cases x4 with
                        | true =>
                          go_wp2
                          go_meet
                          exact ⟨by rw [HSP.out]; simp [HM0.out], HB⟩
                        | false =>
                          go_wp2
                          go_meet
                          exact ⟨by rw [HSP.out]; simp [HM0.out], HB⟩
              case rest =>
                obtain ⟨rfl, HB⟩ := hcut
                have hst := scan_step HC.out.2.1 HS.out HB3.out
                obtain ⟨f, hf⟩ : ∃ f, (!b3 && (sepB c && decide (0 < m.length))) = f := ⟨_, rfl⟩
                rw [hf]
                have HF := Lib.hid hf
                clear hf
                cases f with
                | false =>
                  rw [pad_no HF.out, List.append_nil] at hst
                  have HST := Lib.hid hst
                  clear hst
                  go_wp2
                  go_roundg (gk - 1)
                  case rel => exact ⟨i + 1, O ++ [c], b3, p1, c, Y, by omega, rfl, rfl, rfl, by omega, Lib.hid ⟨HY.out, HST.out, fun h => absurd h (by omega), fun _ => by rw [Nat.add_sub_cancel]; exact HS.out, fun h => HC.out.2.2.1 (by omega), fun h => by rw [show i + 1 - 2 = i - 1 by omega]; exact HC.out.2.2.2.1 (by omega)⟩, HB⟩
                  case measure => omega
                | true =>
                  obtain ⟨hm0, hpe⟩ := pad_yes HF.out
                  rw [hpe] at hst
                  have hm1 := H.out.2.2.1 hm0
                  obtain ⟨pb, off, rfl, hpb, hcells⟩ := hm1
                  obtain ⟨j2, hj2⟩ : ∃ j, i % m.length = j := ⟨_, rfl⟩
                  have hjl : j2 < m.length := by rw [← hj2]; exact Nat.mod_lt _ hm0
                  obtain ⟨x, hx⟩ : ∃ x, m.getD j2 0 = x := ⟨_, rfl⟩
                  have hmx : m[j2]? = some x := by rw [← hx, List.getD_eq_getElem?_getD, List.getElem?_eq_getElem hjl]; rfl
                  have hcl := bcell (H3.out.2.2.trans (HB.out.mono H3.out.2.2.size)) (hcells j2 x hmx)
                  obtain ⟨r, hr⟩ : ∃ r, x.toNat % 4 = r := ⟨_, rfl⟩
                  have zf : (i : Int).tmod (m.length : Int) = (j2 : Int) := by rw [← hj2]; exact (Int.ofNat_tmod i m.length).symm
                  have zr : ((x.toNat : Nat) : Int).tmod 4 = (r : Int) := by rw [← hr]; exact (Int.ofNat_tmod x.toNat 4).symm
                  have hjz : (j2 : Int) < (m.length : Int) := by omega
                  have hnz : ¬ (m.length : Int) = 0 := by omega
                  have hr4 : r < 4 := by omega
                  have hrz : (r : Int) ≤ 4 := by omega
                  have HST := Lib.hid hst
                  have HR := Lib.hid (And.intro hj2 (And.intro hx hr))
                  clear hst hcells hmx hx hj2 hr hpe HF
                  go_wp2
                  go_roundg (gk - 1)
                  case rel =>
                    have e := ba_ext [32, 9, 10, 13] r
                    have e2 : ((⟨#[32, 9, 10, 13]⟩ : ByteArray).extract r 4) = BA (([32, 9, 10, 13] : BL).drop r) := e
                    rw [HR.out.1, HR.out.2.1, HR.out.2.2] at HST
                    refine ⟨i + 1, O ++ [c] ++ ([32, 9, 10, 13] : BL).drop r, b3, p1, c, _, by omega, rfl, rfl, rfl, ?_, Lib.hid ⟨?_, HST.out, fun h => absurd h (by omega), fun _ => by rw [Nat.add_sub_cancel]; exact HS.out, fun h => HC.out.2.2.1 (by omega), fun h => by rw [show i + 1 - 2 = i - 1 by omega]; exact HC.out.2.2.2.1 (by omega)⟩, HB⟩
                    · have z1 : (BA (([32, 9, 10, 13] : BL).drop r)).size = 4 - r := (ba_size _).trans (List.length_drop ..)
                      rw [e2, ByteArray.size_append, z1]; omega
                    · rw [e2, HY.out, ← BA_append]
                  case measure => omega
    · have hiz : ¬ (i : Int) < (s.length : Int) := by omega
      have hiN : i = s.length := by omega
      have hfin : scanO (padA m) 0 s = O := by
        have h := HC.out.2.1
        rw [List.drop_eq_nil_of_le (by omega), scanF, List.append_nil] at h
        exact h
      have hpp := blanks_back l hokl.out (padA m) (padA_pads m) (padA_small m)
      rw [hs0.out, hfin] at hpp
      have hx2 : X.size ≤ 12490 := by omega
      have HP := Lib.hid hpp
      clear hfin hpp
      go_wp2_with fail
      refine Calls.mono (parse_ok HP.out _ (by rw [BA_append, BA_append, HC.out.1, ← ByteArray.append_assoc]) wr (H.out.2.2.2.1.below (H3.out.2.2.trans (HB.out.mono H3.out.2.2.size)))) ?_
      rintro e w4 ⟨r0, r1, r2, r3, r4, r5, r6, r7, r8, rfl, hy, hb4⟩
      have hb34 := HB.out.trans (hb4.mono HB.out.size)
      obtain ⟨Z, hZ⟩ : ∃ Z, w4.heap.size = Z := ⟨_, rfl⟩
      obtain ⟨W4, hW4⟩ : ∃ W, w4.alloc (.cells #[.int .i64 r0, .int .i64 r1, .string r2, .slice r3 r4 r5, .slice r6 r7 r8] 28) = W := ⟨_, rfl⟩
      have hk4 : Blk W4 Z 28 [.int .i64 r0, .int .i64 r1, .string r2, .slice r3 r4 r5, .slice r6 r7 r8] := by rw [← hW4, ← hZ]; exact heap_alloc_new w4 _
      have hb4a : Below w4.heap.size w4 W4 := by rw [← hW4]; exact (Below.refl _ w4).alloc (Nat.le_refl _) _
      have hb3 : Below w3.heap.size w3 W4 := hb34.trans (hb4a.mono hb34.size)
      have H4 := Lib.hid (And.intro (H3.out.1.later hb3) (And.intro (hy.later hb4a) (And.intro (H3.out.2.1.below hb3) (And.intro hk4 (And.intro (H3.out.2.2.trans (hb3.mono H3.out.2.2.size)) (And.intro hZ hW4))))))
      have hq : Blk (w4.alloc (.cells #[.int .i64 r0, .int .i64 r1, .string r2, .slice r3 r4 r5, .slice r6 r7 r8] 28)) P 28 [.int .i64 q0, .int .i64 q1, .string q2, .slice q3 q4 q5, .slice q6 q7 q8] := (H3.out.2.1.below hb34).alloc _
      have p0 := hq.cell 0
      have p1 := hq.cell 1
      have p2 := hq.cell 2
      have p3 := hq.cell 3
      have p4 := hq.cell 4
      clear hb4 hy hk4 hb4a hb34 hb3 hZ hW4 hq
      go_wp2_with fail
      (try rw [H4.out.2.2.2.2.2.2])
      (try rw [H4.out.2.2.2.2.2.1])
      clear p0 p1 p2 p3 p4
      refine (show Calls _ _ _ _ _ from vsame_any (ofL l) (ofL l) _ _ _ _ _ H4.out.1 H4.out.2.1).mono ?_
      rintro e w5 ⟨rfl, hb5⟩
      rw [same_refl]
      have H5 := Lib.hid (H4.out.2.2.2.2.1.trans (hb5.mono H4.out.2.2.2.2.1.size))
      clear hb5
      go_wp2
      go_ret
      exact ⟨by first | rfl | simp, H5.out⟩
end Go.Proofs.YtccnfnoonpfdfaaGreatDoor
