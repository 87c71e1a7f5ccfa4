/- JsonReads: the law's walk (printed by wip/gen_jpj.py). -/
import Derived.Test.YtccnfnoonpfdfaaGreatDoorJpI
import Derived.Test.YtccnfnoonpfdfaaGreatDoorJpB
namespace Go.Proofs.YtccnfnoonpfdfaaGreatDoor
open Go.Shelf Go.RowKit Go.Lib

theorem bread_mono {n m : Nat} {w : World} {v : Value} {l : BL} (h : BRead n w v l) (hnm : n ≤ m) : BRead m w v l := by
  obtain ⟨hm, a, cap, hv, hc, hx⟩ := h
  refine ⟨hm, a, cap, hv, hc, fun hl => ?_⟩
  obtain ⟨b, off, ha, hb, hr⟩ := hx hl
  exact ⟨b, off, ha, Nat.lt_of_lt_of_le hb hnm, hr⟩
theorem u8_nat {n : Int} (h : (Lit.int .u8 n).wf = true) : ∃ k : Nat, n = (k : Int) ∧ k < 256 := by
  have hs : 0 ≤ n ∧ n ≤ 255 := by simpa [Lit.wf, IntKind.min, IntKind.max, IntKind.signed, IntKind.bits] using h
  exact ⟨n.toNat, by omega, by omega⟩
theorem u16_nat {n : Int} (h : (Lit.int .u16 n).wf = true) : ∃ k : Nat, n = (k : Int) ∧ k < 65536 := by
  have hs : 0 ≤ n ∧ n ≤ 65535 := by simpa [Lit.wf, IntKind.min, IntKind.max, IntKind.signed, IntKind.bits] using h
  exact ⟨n.toNat, by omega, by omega⟩
set_option maxHeartbeats 16000000 in
set_option maxRecDepth 100000 in
theorem jreads_0 (nb : Nat) (w : World) (S : ByteArray) (h at_ c : Nat) (hm : h % 4 = 0) (ha : at_ < 65536) (hc : c < 256) (v2 v3 : Value) (l2 l3 : BL) (hnb : nb ≤ w.heap.size) (h2 : BRead nb w v2 l2) (h3 : BRead nb w v3 l3) (hJ : JW w) :
    Calls Tryz.prog 6 #[.string S, .int .u8 h, v2, v3, .int .u16 at_, .int .u8 c] w fun e w' => e = .returned (.bool true) ∧ Below w.heap.size w w' := by
  have H := Lib.hid (And.intro hnb (And.intro h2 (And.intro h3 (And.intro hJ.1 hJ.2))))
  have HI := Lib.hid (And.intro ha hc)
  have zf : ((h : Nat) : Int).tmod 4 = 0 := by have := (Int.ofNat_tmod h 4).symm; rw [hm] at this; exact this
  have z4 : (h : Int) % 4 = 0 := by omega
  clear hnb h2 h3 hJ ha hc hm
  go_enter Tryz.func6, Tryz.ntmps6
  go_wp2_with fail
  refine (jawake_any w H.out.2.2.2.1).mono ?_
  rintro e w1 ⟨rfl, hb1⟩
  have HA := Lib.hid hb1
  clear hb1
  have HZ := HA
  obtain ⟨m, hmm⟩ : ∃ m, min S.size 600 = m := ⟨_, rfl⟩
  have hm6 : m ≤ 600 := by omega
  have hmS : m ≤ S.size := by omega
  have hmin : min (S.size : Int) 600 = (m : Int) := by omega
  have hmz : (m : Int) ≤ (S.size : Int) := by omega
  obtain ⟨K, hK0⟩ : ∃ K, S.extract 0 m = K := ⟨_, rfl⟩
  have hKs : K.size ≤ 600 := by rw [← hK0, ByteArray.size_extract, Nat.min_eq_left hmS]; exact hm6
  obtain ⟨s, hs0⟩ : ∃ s, K.data.toList = s := ⟨_, rfl⟩
  have hK : BA s = K := (congrArg BA hs0).symm.trans (ba_list K)
  have hs : s.length ≤ 4096 := by rw [← hs0, ← size_eq]; exact Nat.le_trans hKs (by decide)
  have HK := Lib.hid (And.intro hK hs0)
  have HK0 := Lib.hid hK0
  clear hs0 hK0 hmm hK
  cases hp : parseP s with
  | error k =>
    have hcp := parse_err hp K HK.out.1 w1 (H.out.2.2.2.1.below HZ.out)
    have HP := Lib.hid (And.intro hp hcp)
    clear hp hcp
    go_wp2_with fail
    (try rw [HK0.out])
    refine (show Calls _ _ _ _ _ from HP.out.2).mono ?_
    rintro e w4 ⟨t, u, rfl, hc4, hb4⟩
    obtain ⟨N4, hN4⟩ : ∃ N, w4.heap.size = N := ⟨_, rfl⟩
    obtain ⟨W4, hW4⟩ : ∃ W, w4.alloc (.cells #[.int .i64 0, .int .i64 0, .string ⟨#[]⟩, .slice none 0 0, .slice none 0 0] 28) = W := ⟨_, rfl⟩
    have hbW4 : Below w4.heap.size w4 W4 := by rw [← hW4]; exact (Below.refl _ w4).alloc (Nat.le_refl _) _
    have kW4 : Blk W4 N4 28 [.int .i64 0, .int .i64 0, .string ⟨#[]⟩, .slice none 0 0, .slice none 0 0] := by rw [← hW4, ← hN4]; exact heap_alloc_new w4 _
    have hbW := HZ.out.trans ((hb4.trans (hbW4.mono hb4.size)).mono HZ.out.size)
    have hrd := lRead_any s K HK.out.1 hs W4
    rw [HP.out.1] at hrd
    have H4 := Lib.hid (And.intro hW4 (And.intro hN4 (And.intro kW4 (And.intro hbW (And.intro (hc4.below hbW4) hrd)))))
    clear hW4 hN4 kW4 hbW hc4 hb4 hbW4 hrd
    go_wp2_with fail
    (try rw [H4.out.1])
    (try rw [H4.out.2.1])
    refine (show Calls _ _ _ _ _ from H4.out.2.2.2.2.2).mono ?_
    rintro e w5 ⟨q0, q1, q2, q3, q4, q5, q6, q7, q8, k5, rfl, hb5, ⟨hk5, hk0⟩⟩
    subst hk5
    obtain ⟨N5, hN5⟩ : ∃ N, w5.heap.size = N := ⟨_, rfl⟩
    obtain ⟨W5, hW5⟩ : ∃ W, w5.alloc (.cells #[.int .i64 q0, .int .i64 q1, .string q2, .slice q3 q4 q5, .slice q6 q7 q8] 28) = W := ⟨_, rfl⟩
    have hbW5 : Below w5.heap.size w5 W5 := by rw [← hW5]; exact (Below.refl _ w5).alloc (Nat.le_refl _) _
    have kW5 : Blk W5 N5 28 [.int .i64 q0, .int .i64 q1, .string q2, .slice q3 q4 q5, .slice q6 q7 q8] := by rw [← hW5, ← hN5]; exact heap_alloc_new w5 _
    have hb45 := hb5.trans (hbW5.mono hb5.size)
    have hbW := H4.out.2.2.2.1.trans (hb45.mono H4.out.2.2.2.1.size)
    have hcd := code_chain 1 _ k5 W5 (H4.out.2.2.2.2.1.below hb45) (H.out.2.2.2.1.below hbW).1.errt
    have H5 := Lib.hid (And.intro hW5 (And.intro hbW (And.intro (H4.out.2.2.1.below hb45) hcd)))
    have hz0 : ((k5 : Int) != 0) = true := by rw [bne, beq_eq_false_iff_ne.2 (show (k5 : Int) ≠ 0 by omega)]; rfl
    have hz1 : ¬ (k5 : Int) = 0 := by omega
    clear hW5 hbW kW5 hb45 hb5 hcd hbW5 hN5
    go_wp2_with fail
    (try rw [H5.out.1])
    refine (show Calls _ _ _ _ _ from H5.out.2.2.2).mono ?_
    rintro e w6 ⟨rfl, hb6⟩
    have k6 := H5.out.2.2.1.below hb6
    have r0 := k6.cell 0
    have r1 := k6.cell 1
    have r2 := k6.cell 2
    have r3 := k6.cell 3
    have r4 := k6.cell 4
    have HB6 := Lib.hid (H5.out.2.1.trans (hb6.mono H5.out.2.1.size))
    clear k6 hb6
    go_wp2_with fail
    refine (show Calls _ _ _ _ _ from vsame_any .null .null (fun _ => True) (fun _ => True) _ [.int .i64 0, .int .i64 0, .string ⟨#[]⟩, .slice none 0 0, .slice none 0 0] [.int .i64 0, .int .i64 0, .string ⟨#[]⟩, .slice none 0 0, .slice none 0 0] .null .null).mono ?_
    rintro e w7 ⟨rfl, hb7⟩
    rw [same_refl]
    have HF := Lib.hid (HB6.out.trans (hb7.mono HB6.out.size))
    clear hb7 r0 r1 r2 r3 r4
    go_wp2
    go_ret
    exact ⟨by first | rfl | simp, HF.out⟩
  | ok v =>
    have hcp := parse_ok hp K HK.out.1 w1 (H.out.2.2.2.1.below HZ.out)
    have HP := Lib.hid (And.intro hp hcp)
    clear hp hcp
    go_wp2_with fail
    (try rw [HK0.out])
    refine (show Calls _ _ _ _ _ from HP.out.2).mono ?_
    rintro e w4 ⟨p0, p1, p2, p3, p4, p5, p6, p7, p8, rfl, hv4, hb4⟩
    obtain ⟨N4, hN4⟩ : ∃ N, w4.heap.size = N := ⟨_, rfl⟩
    obtain ⟨W4, hW4⟩ : ∃ W, w4.alloc (.cells #[.int .i64 p0, .int .i64 p1, .string p2, .slice p3 p4 p5, .slice p6 p7 p8] 28) = W := ⟨_, rfl⟩
    have hbW4 : Below w4.heap.size w4 W4 := by rw [← hW4]; exact (Below.refl _ w4).alloc (Nat.le_refl _) _
    have kW4 : Blk W4 N4 28 [.int .i64 p0, .int .i64 p1, .string p2, .slice p3 p4 p5, .slice p6 p7 p8] := by rw [← hW4, ← hN4]; exact heap_alloc_new w4 _
    have hbW := HZ.out.trans ((hb4.trans (hbW4.mono hb4.size)).mono HZ.out.size)
    have hrd := lRead_any s K HK.out.1 hs W4
    rw [HP.out.1] at hrd
    have H4 := Lib.hid (And.intro hW4 (And.intro hN4 (And.intro kW4 (And.intro hbW (And.intro (hv4.later hbW4) hrd)))))
    clear hW4 hN4 kW4 hbW hv4 hb4 hbW4 hrd
    go_wp2_with fail
    (try rw [H4.out.1])
    (try rw [H4.out.2.1])
    refine (show Calls _ _ _ _ _ from H4.out.2.2.2.2.2).mono ?_
    rintro e w5 ⟨q0, q1, q2, q3, q4, q5, q6, q7, q8, k5, rfl, hb5, ⟨hk5, hv5⟩⟩
    subst hk5
    obtain ⟨N5, hN5⟩ : ∃ N, w5.heap.size = N := ⟨_, rfl⟩
    obtain ⟨W5, hW5⟩ : ∃ W, w5.alloc (.cells #[.int .i64 q0, .int .i64 q1, .string q2, .slice q3 q4 q5, .slice q6 q7 q8] 28) = W := ⟨_, rfl⟩
    have hbW5 : Below w5.heap.size w5 W5 := by rw [← hW5]; exact (Below.refl _ w5).alloc (Nat.le_refl _) _
    have kW5 : Blk W5 N5 28 [.int .i64 q0, .int .i64 q1, .string q2, .slice q3 q4 q5, .slice q6 q7 q8] := by rw [← hW5, ← hN5]; exact heap_alloc_new w5 _
    have hb45 := hb5.trans (hbW5.mono hb5.size)
    have hbW := H4.out.2.2.2.1.trans (hb45.mono H4.out.2.2.2.1.size)
    have k4 := H4.out.2.2.1.below hb45
    have k4x : Blk (w5.alloc (.cells #[.int .i64 q0, .int .i64 q1, .string q2, .slice q3 q4 q5, .slice q6 q7 q8] 28)) N4 28 [.int .i64 p0, .int .i64 p1, .string p2, .slice p3 p4 p5, .slice p6 p7 p8] := by rw [hW5]; exact k4
    have k5x : Blk (w5.alloc (.cells #[.int .i64 q0, .int .i64 q1, .string q2, .slice q3 q4 q5, .slice q6 q7 q8] 28)) w5.heap.size 28 [.int .i64 q0, .int .i64 q1, .string q2, .slice q3 q4 q5, .slice q6 q7 q8] := heap_alloc_new w5 _
    have H5 := Lib.hid (And.intro hW5 (And.intro hbW (And.intro (H4.out.2.2.2.2.1.later hb45) (hv5.later hbW5))))
    have r0 := k4x.cell 0
    have r1 := k4x.cell 1
    have r2 := k4x.cell 2
    have r3 := k4x.cell 3
    have r4 := k4x.cell 4
    have y0 := k5x.cell 0
    have y1 := k5x.cell 1
    have y2 := k5x.cell 2
    have y3 := k5x.cell 3
    have y4 := k5x.cell 4
    clear hW5 hbW kW5 hb45 hb5 hbW5 k4 k4x k5x hv5 hN5
    have hz0 : (((0 : Nat) : Int) != 0) = false := rfl
    go_wp2_with fail
    (try rw [H5.out.1])
    refine (show Calls _ _ _ _ _ from vsame_any v v _ _ _ _ _ H5.out.2.2.1 H5.out.2.2.2).mono ?_
    rintro e w7 ⟨rfl, hb7⟩
    rw [same_refl]
    have HF := Lib.hid (H5.out.2.1.trans (hb7.mono H5.out.2.1.size))
    clear hb7 r0 r1 r2 r3 r4 y0 y1 y2 y3 y4
    go_wp2
    go_ret
    exact ⟨by first | rfl | simp, HF.out⟩
set_option maxHeartbeats 16000000 in
set_option maxRecDepth 100000 in
theorem jreads_1 (nb : Nat) (w : World) (S : ByteArray) (h at_ c : Nat) (hm : h % 4 = 1) (ha : at_ < 65536) (hc : c < 256) (v2 v3 : Value) (l2 l3 : BL) (hnb : nb ≤ w.heap.size) (h2 : BRead nb w v2 l2) (h3 : BRead nb w v3 l3) (hJ : JW w) :
    Calls Tryz.prog 6 #[.string S, .int .u8 h, v2, v3, .int .u16 at_, .int .u8 c] w fun e w' => e = .returned (.bool true) ∧ Below w.heap.size w w' := by
  have H := Lib.hid (And.intro hnb (And.intro h2 (And.intro h3 (And.intro hJ.1 hJ.2))))
  have HI := Lib.hid (And.intro ha hc)
  have zf : ((h : Nat) : Int).tmod 4 = 1 := by have := (Int.ofNat_tmod h 4).symm; rw [hm] at this; exact this
  have z4 : (h : Int) % 4 = 1 := by omega
  clear hnb h2 h3 hJ ha hc hm
  go_enter Tryz.func6, Tryz.ntmps6
  go_wp2_with fail
  refine (jawake_any w H.out.2.2.2.1).mono ?_
  rintro e w1 ⟨rfl, hb1⟩
  have HA := Lib.hid hb1
  clear hb1
  go_wp2_with fail
  refine (parts_any w1 v2 l2 (bread_mono (H.out.2.1.later (HA.out.mono H.out.1)) (Nat.le_trans H.out.1 HA.out.size))).mono ?_
  rintro e wz ⟨S2, rfl, hb2⟩
  have HZ := Lib.hid (HA.out.trans (hb2.mono HA.out.size))
  clear hb2
  obtain ⟨m, hmm⟩ : ∃ m, min S2.size 600 = m := ⟨_, rfl⟩
  have hm6 : m ≤ 600 := by omega
  have hmS : m ≤ S2.size := by omega
  have hmin : min (S2.size : Int) 600 = (m : Int) := by omega
  have hmz : (m : Int) ≤ (S2.size : Int) := by omega
  obtain ⟨K, hK0⟩ : ∃ K, S2.extract 0 m = K := ⟨_, rfl⟩
  have hKs : K.size ≤ 600 := by rw [← hK0, ByteArray.size_extract, Nat.min_eq_left hmS]; exact hm6
  obtain ⟨s, hs0⟩ : ∃ s, K.data.toList = s := ⟨_, rfl⟩
  have hK : BA s = K := (congrArg BA hs0).symm.trans (ba_list K)
  have hs : s.length ≤ 4096 := by rw [← hs0, ← size_eq]; exact Nat.le_trans hKs (by decide)
  have HK := Lib.hid (And.intro hK hs0)
  have HK0 := Lib.hid hK0
  clear hs0 hK0 hmm hK
  cases hp : parseP s with
  | error k =>
    have hcp := parse_err hp K HK.out.1 wz (H.out.2.2.2.1.below HZ.out)
    have HP := Lib.hid (And.intro hp hcp)
    clear hp hcp
    go_wp2_with fail
    (try rw [HK0.out])
    refine (show Calls _ _ _ _ _ from HP.out.2).mono ?_
    rintro e w4 ⟨t, u, rfl, hc4, hb4⟩
    obtain ⟨N4, hN4⟩ : ∃ N, w4.heap.size = N := ⟨_, rfl⟩
    obtain ⟨W4, hW4⟩ : ∃ W, w4.alloc (.cells #[.int .i64 0, .int .i64 0, .string ⟨#[]⟩, .slice none 0 0, .slice none 0 0] 28) = W := ⟨_, rfl⟩
    have hbW4 : Below w4.heap.size w4 W4 := by rw [← hW4]; exact (Below.refl _ w4).alloc (Nat.le_refl _) _
    have kW4 : Blk W4 N4 28 [.int .i64 0, .int .i64 0, .string ⟨#[]⟩, .slice none 0 0, .slice none 0 0] := by rw [← hW4, ← hN4]; exact heap_alloc_new w4 _
    have hbW := HZ.out.trans ((hb4.trans (hbW4.mono hb4.size)).mono HZ.out.size)
    have hrd := lRead_any s K HK.out.1 hs W4
    rw [HP.out.1] at hrd
    have H4 := Lib.hid (And.intro hW4 (And.intro hN4 (And.intro kW4 (And.intro hbW (And.intro (hc4.below hbW4) hrd)))))
    clear hW4 hN4 kW4 hbW hc4 hb4 hbW4 hrd
    go_wp2_with fail
    (try rw [H4.out.1])
    (try rw [H4.out.2.1])
    refine (show Calls _ _ _ _ _ from H4.out.2.2.2.2.2).mono ?_
    rintro e w5 ⟨q0, q1, q2, q3, q4, q5, q6, q7, q8, k5, rfl, hb5, ⟨hk5, hk0⟩⟩
    subst hk5
    obtain ⟨N5, hN5⟩ : ∃ N, w5.heap.size = N := ⟨_, rfl⟩
    obtain ⟨W5, hW5⟩ : ∃ W, w5.alloc (.cells #[.int .i64 q0, .int .i64 q1, .string q2, .slice q3 q4 q5, .slice q6 q7 q8] 28) = W := ⟨_, rfl⟩
    have hbW5 : Below w5.heap.size w5 W5 := by rw [← hW5]; exact (Below.refl _ w5).alloc (Nat.le_refl _) _
    have kW5 : Blk W5 N5 28 [.int .i64 q0, .int .i64 q1, .string q2, .slice q3 q4 q5, .slice q6 q7 q8] := by rw [← hW5, ← hN5]; exact heap_alloc_new w5 _
    have hb45 := hb5.trans (hbW5.mono hb5.size)
    have hbW := H4.out.2.2.2.1.trans (hb45.mono H4.out.2.2.2.1.size)
    have hcd := code_chain 1 _ k5 W5 (H4.out.2.2.2.2.1.below hb45) (H.out.2.2.2.1.below hbW).1.errt
    have H5 := Lib.hid (And.intro hW5 (And.intro hbW (And.intro (H4.out.2.2.1.below hb45) hcd)))
    have hz0 : ((k5 : Int) != 0) = true := by rw [bne, beq_eq_false_iff_ne.2 (show (k5 : Int) ≠ 0 by omega)]; rfl
    have hz1 : ¬ (k5 : Int) = 0 := by omega
    clear hW5 hbW kW5 hb45 hb5 hcd hbW5 hN5
    go_wp2_with fail
    (try rw [H5.out.1])
    refine (show Calls _ _ _ _ _ from H5.out.2.2.2).mono ?_
    rintro e w6 ⟨rfl, hb6⟩
    have k6 := H5.out.2.2.1.below hb6
    have r0 := k6.cell 0
    have r1 := k6.cell 1
    have r2 := k6.cell 2
    have r3 := k6.cell 3
    have r4 := k6.cell 4
    have HB6 := Lib.hid (H5.out.2.1.trans (hb6.mono H5.out.2.1.size))
    clear k6 hb6
    go_wp2_with fail
    refine (show Calls _ _ _ _ _ from vsame_any .null .null (fun _ => True) (fun _ => True) _ [.int .i64 0, .int .i64 0, .string ⟨#[]⟩, .slice none 0 0, .slice none 0 0] [.int .i64 0, .int .i64 0, .string ⟨#[]⟩, .slice none 0 0, .slice none 0 0] .null .null).mono ?_
    rintro e w7 ⟨rfl, hb7⟩
    rw [same_refl]
    have HF := Lib.hid (HB6.out.trans (hb7.mono HB6.out.size))
    clear hb7 r0 r1 r2 r3 r4
    go_wp2
    go_ret
    exact ⟨by first | rfl | simp, HF.out⟩
  | ok v =>
    have hcp := parse_ok hp K HK.out.1 wz (H.out.2.2.2.1.below HZ.out)
    have HP := Lib.hid (And.intro hp hcp)
    clear hp hcp
    go_wp2_with fail
    (try rw [HK0.out])
    refine (show Calls _ _ _ _ _ from HP.out.2).mono ?_
    rintro e w4 ⟨p0, p1, p2, p3, p4, p5, p6, p7, p8, rfl, hv4, hb4⟩
    obtain ⟨N4, hN4⟩ : ∃ N, w4.heap.size = N := ⟨_, rfl⟩
    obtain ⟨W4, hW4⟩ : ∃ W, w4.alloc (.cells #[.int .i64 p0, .int .i64 p1, .string p2, .slice p3 p4 p5, .slice p6 p7 p8] 28) = W := ⟨_, rfl⟩
    have hbW4 : Below w4.heap.size w4 W4 := by rw [← hW4]; exact (Below.refl _ w4).alloc (Nat.le_refl _) _
    have kW4 : Blk W4 N4 28 [.int .i64 p0, .int .i64 p1, .string p2, .slice p3 p4 p5, .slice p6 p7 p8] := by rw [← hW4, ← hN4]; exact heap_alloc_new w4 _
    have hbW := HZ.out.trans ((hb4.trans (hbW4.mono hb4.size)).mono HZ.out.size)
    have hrd := lRead_any s K HK.out.1 hs W4
    rw [HP.out.1] at hrd
    have H4 := Lib.hid (And.intro hW4 (And.intro hN4 (And.intro kW4 (And.intro hbW (And.intro (hv4.later hbW4) hrd)))))
    clear hW4 hN4 kW4 hbW hv4 hb4 hbW4 hrd
    go_wp2_with fail
    (try rw [H4.out.1])
    (try rw [H4.out.2.1])
    refine (show Calls _ _ _ _ _ from H4.out.2.2.2.2.2).mono ?_
    rintro e w5 ⟨q0, q1, q2, q3, q4, q5, q6, q7, q8, k5, rfl, hb5, ⟨hk5, hv5⟩⟩
    subst hk5
    obtain ⟨N5, hN5⟩ : ∃ N, w5.heap.size = N := ⟨_, rfl⟩
    obtain ⟨W5, hW5⟩ : ∃ W, w5.alloc (.cells #[.int .i64 q0, .int .i64 q1, .string q2, .slice q3 q4 q5, .slice q6 q7 q8] 28) = W := ⟨_, rfl⟩
    have hbW5 : Below w5.heap.size w5 W5 := by rw [← hW5]; exact (Below.refl _ w5).alloc (Nat.le_refl _) _
    have kW5 : Blk W5 N5 28 [.int .i64 q0, .int .i64 q1, .string q2, .slice q3 q4 q5, .slice q6 q7 q8] := by rw [← hW5, ← hN5]; exact heap_alloc_new w5 _
    have hb45 := hb5.trans (hbW5.mono hb5.size)
    have hbW := H4.out.2.2.2.1.trans (hb45.mono H4.out.2.2.2.1.size)
    have k4 := H4.out.2.2.1.below hb45
    have k4x : Blk (w5.alloc (.cells #[.int .i64 q0, .int .i64 q1, .string q2, .slice q3 q4 q5, .slice q6 q7 q8] 28)) N4 28 [.int .i64 p0, .int .i64 p1, .string p2, .slice p3 p4 p5, .slice p6 p7 p8] := by rw [hW5]; exact k4
    have k5x : Blk (w5.alloc (.cells #[.int .i64 q0, .int .i64 q1, .string q2, .slice q3 q4 q5, .slice q6 q7 q8] 28)) w5.heap.size 28 [.int .i64 q0, .int .i64 q1, .string q2, .slice q3 q4 q5, .slice q6 q7 q8] := heap_alloc_new w5 _
    have H5 := Lib.hid (And.intro hW5 (And.intro hbW (And.intro (H4.out.2.2.2.2.1.later hb45) (hv5.later hbW5))))
    have r0 := k4x.cell 0
    have r1 := k4x.cell 1
    have r2 := k4x.cell 2
    have r3 := k4x.cell 3
    have r4 := k4x.cell 4
    have y0 := k5x.cell 0
    have y1 := k5x.cell 1
    have y2 := k5x.cell 2
    have y3 := k5x.cell 3
    have y4 := k5x.cell 4
    clear hW5 hbW kW5 hb45 hb5 hbW5 k4 k4x k5x hv5 hN5
    have hz0 : (((0 : Nat) : Int) != 0) = false := rfl
    go_wp2_with fail
    (try rw [H5.out.1])
    refine (show Calls _ _ _ _ _ from vsame_any v v _ _ _ _ _ H5.out.2.2.1 H5.out.2.2.2).mono ?_
    rintro e w7 ⟨rfl, hb7⟩
    rw [same_refl]
    have HF := Lib.hid (H5.out.2.1.trans (hb7.mono H5.out.2.1.size))
    clear hb7 r0 r1 r2 r3 r4 y0 y1 y2 y3 y4
    go_wp2
    go_ret
    exact ⟨by first | rfl | simp, HF.out⟩
set_option maxHeartbeats 16000000 in
set_option maxRecDepth 100000 in
theorem jreads_2 (nb : Nat) (w : World) (S : ByteArray) (h at_ c : Nat) (hm : h % 4 = 2) (ha : at_ < 65536) (hc : c < 256) (v2 v3 : Value) (l2 l3 : BL) (hnb : nb ≤ w.heap.size) (h2 : BRead nb w v2 l2) (h3 : BRead nb w v3 l3) (hJ : JW w) :
    Calls Tryz.prog 6 #[.string S, .int .u8 h, v2, v3, .int .u16 at_, .int .u8 c] w fun e w' => e = .returned (.bool true) ∧ Below w.heap.size w w' := by
  have H := Lib.hid (And.intro hnb (And.intro h2 (And.intro h3 (And.intro hJ.1 hJ.2))))
  have HI := Lib.hid (And.intro ha hc)
  have zf : ((h : Nat) : Int).tmod 4 = 2 := by have := (Int.ofNat_tmod h 4).symm; rw [hm] at this; exact this
  have z4 : (h : Int) % 4 = 2 := by omega
  clear hnb h2 h3 hJ ha hc hm
  go_enter Tryz.func6, Tryz.ntmps6
  go_wp2_with fail
  refine (jawake_any w H.out.2.2.2.1).mono ?_
  rintro e w1 ⟨rfl, hb1⟩
  have HA := Lib.hid hb1
  clear hb1
  go_wp2_with fail
  refine (of_any nb w1 v3 l3 (Nat.le_trans H.out.1 HA.out.size) (H.out.2.2.1.later (HA.out.mono H.out.1)) (H.out.2.2.2.2.later HA.out)).mono ?_
  rintro e w2 ⟨x, rfl, hx, hb2⟩
  have hx0 : VAt (fun b => w1.heap.size ≤ b ∧ b < w2.heap.size) w2 (ofL l3) x := hx
  obtain ⟨o0, o1, o2, o3, o4, o5, o6, o7, o8, rfl⟩ := hx0.shape
  have hbo := HA.out.trans (hb2.mono HA.out.size)
  have H2 := Lib.hid (And.intro hx0 hbo)
  clear hb2 hx hx0 hbo
  go_wp2_with fail
  refine (show Calls _ _ _ _ _ from lput_any (ofL l3) _ _ _ H2.out.1 (H.out.2.2.2.1.below H2.out.2) (by have := print_size l3; omega)).mono ?_
  rintro e wz ⟨rfl, hb3⟩
  have HZ := Lib.hid (H2.out.2.trans (hb3.mono H2.out.2.size))
  clear hb3
  obtain ⟨S2, hS2⟩ : ∃ x, BA (printV (ofL l3)) = x := ⟨_, rfl⟩
  rw [hS2]
  clear hS2
  obtain ⟨m, hmm⟩ : ∃ m, min S2.size 600 = m := ⟨_, rfl⟩
  have hm6 : m ≤ 600 := by omega
  have hmS : m ≤ S2.size := by omega
  have hmin : min (S2.size : Int) 600 = (m : Int) := by omega
  have hmz : (m : Int) ≤ (S2.size : Int) := by omega
  obtain ⟨K, hK0⟩ : ∃ K, S2.extract 0 m = K := ⟨_, rfl⟩
  have hKs : K.size ≤ 600 := by rw [← hK0, ByteArray.size_extract, Nat.min_eq_left hmS]; exact hm6
  obtain ⟨s, hs0⟩ : ∃ s, K.data.toList = s := ⟨_, rfl⟩
  have hK : BA s = K := (congrArg BA hs0).symm.trans (ba_list K)
  have hs : s.length ≤ 4096 := by rw [← hs0, ← size_eq]; exact Nat.le_trans hKs (by decide)
  have HK := Lib.hid (And.intro hK hs0)
  have HK0 := Lib.hid hK0
  clear hs0 hK0 hmm hK
  cases hp : parseP s with
  | error k =>
    have hcp := parse_err hp K HK.out.1 wz (H.out.2.2.2.1.below HZ.out)
    have HP := Lib.hid (And.intro hp hcp)
    clear hp hcp
    go_wp2_with fail
    (try rw [HK0.out])
    refine (show Calls _ _ _ _ _ from HP.out.2).mono ?_
    rintro e w4 ⟨t, u, rfl, hc4, hb4⟩
    obtain ⟨N4, hN4⟩ : ∃ N, w4.heap.size = N := ⟨_, rfl⟩
    obtain ⟨W4, hW4⟩ : ∃ W, w4.alloc (.cells #[.int .i64 0, .int .i64 0, .string ⟨#[]⟩, .slice none 0 0, .slice none 0 0] 28) = W := ⟨_, rfl⟩
    have hbW4 : Below w4.heap.size w4 W4 := by rw [← hW4]; exact (Below.refl _ w4).alloc (Nat.le_refl _) _
    have kW4 : Blk W4 N4 28 [.int .i64 0, .int .i64 0, .string ⟨#[]⟩, .slice none 0 0, .slice none 0 0] := by rw [← hW4, ← hN4]; exact heap_alloc_new w4 _
    have hbW := HZ.out.trans ((hb4.trans (hbW4.mono hb4.size)).mono HZ.out.size)
    have hrd := lRead_any s K HK.out.1 hs W4
    rw [HP.out.1] at hrd
    have H4 := Lib.hid (And.intro hW4 (And.intro hN4 (And.intro kW4 (And.intro hbW (And.intro (hc4.below hbW4) hrd)))))
    clear hW4 hN4 kW4 hbW hc4 hb4 hbW4 hrd
    go_wp2_with fail
    (try rw [H4.out.1])
    (try rw [H4.out.2.1])
    refine (show Calls _ _ _ _ _ from H4.out.2.2.2.2.2).mono ?_
    rintro e w5 ⟨q0, q1, q2, q3, q4, q5, q6, q7, q8, k5, rfl, hb5, ⟨hk5, hk0⟩⟩
    subst hk5
    obtain ⟨N5, hN5⟩ : ∃ N, w5.heap.size = N := ⟨_, rfl⟩
    obtain ⟨W5, hW5⟩ : ∃ W, w5.alloc (.cells #[.int .i64 q0, .int .i64 q1, .string q2, .slice q3 q4 q5, .slice q6 q7 q8] 28) = W := ⟨_, rfl⟩
    have hbW5 : Below w5.heap.size w5 W5 := by rw [← hW5]; exact (Below.refl _ w5).alloc (Nat.le_refl _) _
    have kW5 : Blk W5 N5 28 [.int .i64 q0, .int .i64 q1, .string q2, .slice q3 q4 q5, .slice q6 q7 q8] := by rw [← hW5, ← hN5]; exact heap_alloc_new w5 _
    have hb45 := hb5.trans (hbW5.mono hb5.size)
    have hbW := H4.out.2.2.2.1.trans (hb45.mono H4.out.2.2.2.1.size)
    have hcd := code_chain 1 _ k5 W5 (H4.out.2.2.2.2.1.below hb45) (H.out.2.2.2.1.below hbW).1.errt
    have H5 := Lib.hid (And.intro hW5 (And.intro hbW (And.intro (H4.out.2.2.1.below hb45) hcd)))
    have hz0 : ((k5 : Int) != 0) = true := by rw [bne, beq_eq_false_iff_ne.2 (show (k5 : Int) ≠ 0 by omega)]; rfl
    have hz1 : ¬ (k5 : Int) = 0 := by omega
    clear hW5 hbW kW5 hb45 hb5 hcd hbW5 hN5
    go_wp2_with fail
    (try rw [H5.out.1])
    refine (show Calls _ _ _ _ _ from H5.out.2.2.2).mono ?_
    rintro e w6 ⟨rfl, hb6⟩
    have k6 := H5.out.2.2.1.below hb6
    have r0 := k6.cell 0
    have r1 := k6.cell 1
    have r2 := k6.cell 2
    have r3 := k6.cell 3
    have r4 := k6.cell 4
    have HB6 := Lib.hid (H5.out.2.1.trans (hb6.mono H5.out.2.1.size))
    clear k6 hb6
    go_wp2_with fail
    refine (show Calls _ _ _ _ _ from vsame_any .null .null (fun _ => True) (fun _ => True) _ [.int .i64 0, .int .i64 0, .string ⟨#[]⟩, .slice none 0 0, .slice none 0 0] [.int .i64 0, .int .i64 0, .string ⟨#[]⟩, .slice none 0 0, .slice none 0 0] .null .null).mono ?_
    rintro e w7 ⟨rfl, hb7⟩
    rw [same_refl]
    have HF := Lib.hid (HB6.out.trans (hb7.mono HB6.out.size))
    clear hb7 r0 r1 r2 r3 r4
    go_wp2
    go_ret
    exact ⟨by first | rfl | simp, HF.out⟩
  | ok v =>
    have hcp := parse_ok hp K HK.out.1 wz (H.out.2.2.2.1.below HZ.out)
    have HP := Lib.hid (And.intro hp hcp)
    clear hp hcp
    go_wp2_with fail
    (try rw [HK0.out])
    refine (show Calls _ _ _ _ _ from HP.out.2).mono ?_
    rintro e w4 ⟨p0, p1, p2, p3, p4, p5, p6, p7, p8, rfl, hv4, hb4⟩
    obtain ⟨N4, hN4⟩ : ∃ N, w4.heap.size = N := ⟨_, rfl⟩
    obtain ⟨W4, hW4⟩ : ∃ W, w4.alloc (.cells #[.int .i64 p0, .int .i64 p1, .string p2, .slice p3 p4 p5, .slice p6 p7 p8] 28) = W := ⟨_, rfl⟩
    have hbW4 : Below w4.heap.size w4 W4 := by rw [← hW4]; exact (Below.refl _ w4).alloc (Nat.le_refl _) _
    have kW4 : Blk W4 N4 28 [.int .i64 p0, .int .i64 p1, .string p2, .slice p3 p4 p5, .slice p6 p7 p8] := by rw [← hW4, ← hN4]; exact heap_alloc_new w4 _
    have hbW := HZ.out.trans ((hb4.trans (hbW4.mono hb4.size)).mono HZ.out.size)
    have hrd := lRead_any s K HK.out.1 hs W4
    rw [HP.out.1] at hrd
    have H4 := Lib.hid (And.intro hW4 (And.intro hN4 (And.intro kW4 (And.intro hbW (And.intro (hv4.later hbW4) hrd)))))
    clear hW4 hN4 kW4 hbW hv4 hb4 hbW4 hrd
    go_wp2_with fail
    (try rw [H4.out.1])
    (try rw [H4.out.2.1])
    refine (show Calls _ _ _ _ _ from H4.out.2.2.2.2.2).mono ?_
    rintro e w5 ⟨q0, q1, q2, q3, q4, q5, q6, q7, q8, k5, rfl, hb5, ⟨hk5, hv5⟩⟩
    subst hk5
    obtain ⟨N5, hN5⟩ : ∃ N, w5.heap.size = N := ⟨_, rfl⟩
    obtain ⟨W5, hW5⟩ : ∃ W, w5.alloc (.cells #[.int .i64 q0, .int .i64 q1, .string q2, .slice q3 q4 q5, .slice q6 q7 q8] 28) = W := ⟨_, rfl⟩
    have hbW5 : Below w5.heap.size w5 W5 := by rw [← hW5]; exact (Below.refl _ w5).alloc (Nat.le_refl _) _
    have kW5 : Blk W5 N5 28 [.int .i64 q0, .int .i64 q1, .string q2, .slice q3 q4 q5, .slice q6 q7 q8] := by rw [← hW5, ← hN5]; exact heap_alloc_new w5 _
    have hb45 := hb5.trans (hbW5.mono hb5.size)
    have hbW := H4.out.2.2.2.1.trans (hb45.mono H4.out.2.2.2.1.size)
    have k4 := H4.out.2.2.1.below hb45
    have k4x : Blk (w5.alloc (.cells #[.int .i64 q0, .int .i64 q1, .string q2, .slice q3 q4 q5, .slice q6 q7 q8] 28)) N4 28 [.int .i64 p0, .int .i64 p1, .string p2, .slice p3 p4 p5, .slice p6 p7 p8] := by rw [hW5]; exact k4
    have k5x : Blk (w5.alloc (.cells #[.int .i64 q0, .int .i64 q1, .string q2, .slice q3 q4 q5, .slice q6 q7 q8] 28)) w5.heap.size 28 [.int .i64 q0, .int .i64 q1, .string q2, .slice q3 q4 q5, .slice q6 q7 q8] := heap_alloc_new w5 _
    have H5 := Lib.hid (And.intro hW5 (And.intro hbW (And.intro (H4.out.2.2.2.2.1.later hb45) (hv5.later hbW5))))
    have r0 := k4x.cell 0
    have r1 := k4x.cell 1
    have r2 := k4x.cell 2
    have r3 := k4x.cell 3
    have r4 := k4x.cell 4
    have y0 := k5x.cell 0
    have y1 := k5x.cell 1
    have y2 := k5x.cell 2
    have y3 := k5x.cell 3
    have y4 := k5x.cell 4
    clear hW5 hbW kW5 hb45 hb5 hbW5 k4 k4x k5x hv5 hN5
    have hz0 : (((0 : Nat) : Int) != 0) = false := rfl
    go_wp2_with fail
    (try rw [H5.out.1])
    refine (show Calls _ _ _ _ _ from vsame_any v v _ _ _ _ _ H5.out.2.2.1 H5.out.2.2.2).mono ?_
    rintro e w7 ⟨rfl, hb7⟩
    rw [same_refl]
    have HF := Lib.hid (H5.out.2.1.trans (hb7.mono H5.out.2.1.size))
    clear hb7 r0 r1 r2 r3 r4 y0 y1 y2 y3 y4
    go_wp2
    go_ret
    exact ⟨by first | rfl | simp, HF.out⟩
set_option maxHeartbeats 16000000 in
set_option maxRecDepth 100000 in
theorem jreads_3 (nb : Nat) (w : World) (S : ByteArray) (h at_ c : Nat) (hm : h % 4 = 3) (ha : at_ < 65536) (hc : c < 256) (v2 v3 : Value) (l2 l3 : BL) (hnb : nb ≤ w.heap.size) (h2 : BRead nb w v2 l2) (h3 : BRead nb w v3 l3) (hJ : JW w) :
    Calls Tryz.prog 6 #[.string S, .int .u8 h, v2, v3, .int .u16 at_, .int .u8 c] w fun e w' => e = .returned (.bool true) ∧ Below w.heap.size w w' := by
  have H := Lib.hid (And.intro hnb (And.intro h2 (And.intro h3 (And.intro hJ.1 hJ.2))))
  have HI := Lib.hid (And.intro ha hc)
  have zf : ((h : Nat) : Int).tmod 4 = 3 := by have := (Int.ofNat_tmod h 4).symm; rw [hm] at this; exact this
  have z4 : (h : Int) % 4 = 3 := by omega
  clear hnb h2 h3 hJ ha hc hm
  go_enter Tryz.func6, Tryz.ntmps6
  go_wp2_with fail
  refine (jawake_any w H.out.2.2.2.1).mono ?_
  rintro e w1 ⟨rfl, hb1⟩
  have HA := Lib.hid hb1
  clear hb1
  go_wp2_with fail
  refine (of_any nb w1 v3 l3 (Nat.le_trans H.out.1 HA.out.size) (H.out.2.2.1.later (HA.out.mono H.out.1)) (H.out.2.2.2.2.later HA.out)).mono ?_
  rintro e w2 ⟨x, rfl, hx, hb2⟩
  have hx0 : VAt (fun b => w1.heap.size ≤ b ∧ b < w2.heap.size) w2 (ofL l3) x := hx
  obtain ⟨o0, o1, o2, o3, o4, o5, o6, o7, o8, rfl⟩ := hx0.shape
  have hbo := HA.out.trans (hb2.mono HA.out.size)
  have H2 := Lib.hid (And.intro hx0 hbo)
  clear hb2 hx hx0 hbo
  go_wp2_with fail
  refine (show Calls _ _ _ _ _ from lput_any (ofL l3) _ _ _ H2.out.1 (H.out.2.2.2.1.below H2.out.2) (by have := print_size l3; omega)).mono ?_
  rintro e w3 ⟨rfl, hb3⟩
  have hb13 := H2.out.2.trans (hb3.mono H2.out.2.size)
  have hsz : (BA (printV (ofL l3))).size ≤ 1099511627000 := by rw [ba_size]; have := print_size l3; omega
  obtain ⟨S1, hS1⟩ : ∃ x, BA (printV (ofL l3)) = x := ⟨_, rfl⟩
  rw [hS1] at hsz ⊢
  have H3 := Lib.hid (And.intro hb13 hsz)
  clear hS1 hsz hb13 hb3
  go_wp2_with fail
  refine (show Calls _ _ _ _ _ from bend_any S1 at_ c w3 H3.out.2 HI.out.1 HI.out.2).mono ?_
  rintro e wz ⟨⟨S2, rfl, hzz⟩, hb4⟩
  have HZ := Lib.hid (H3.out.1.trans (hb4.mono H3.out.1.size))
  clear hb4 hzz
  obtain ⟨m, hmm⟩ : ∃ m, min S2.size 600 = m := ⟨_, rfl⟩
  have hm6 : m ≤ 600 := by omega
  have hmS : m ≤ S2.size := by omega
  have hmin : min (S2.size : Int) 600 = (m : Int) := by omega
  have hmz : (m : Int) ≤ (S2.size : Int) := by omega
  obtain ⟨K, hK0⟩ : ∃ K, S2.extract 0 m = K := ⟨_, rfl⟩
  have hKs : K.size ≤ 600 := by rw [← hK0, ByteArray.size_extract, Nat.min_eq_left hmS]; exact hm6
  obtain ⟨s, hs0⟩ : ∃ s, K.data.toList = s := ⟨_, rfl⟩
  have hK : BA s = K := (congrArg BA hs0).symm.trans (ba_list K)
  have hs : s.length ≤ 4096 := by rw [← hs0, ← size_eq]; exact Nat.le_trans hKs (by decide)
  have HK := Lib.hid (And.intro hK hs0)
  have HK0 := Lib.hid hK0
  clear hs0 hK0 hmm hK
  cases hp : parseP s with
  | error k =>
    have hcp := parse_err hp K HK.out.1 wz (H.out.2.2.2.1.below HZ.out)
    have HP := Lib.hid (And.intro hp hcp)
    clear hp hcp
    go_wp2_with fail
    (try rw [HK0.out])
    refine (show Calls _ _ _ _ _ from HP.out.2).mono ?_
    rintro e w4 ⟨t, u, rfl, hc4, hb4⟩
    obtain ⟨N4, hN4⟩ : ∃ N, w4.heap.size = N := ⟨_, rfl⟩
    obtain ⟨W4, hW4⟩ : ∃ W, w4.alloc (.cells #[.int .i64 0, .int .i64 0, .string ⟨#[]⟩, .slice none 0 0, .slice none 0 0] 28) = W := ⟨_, rfl⟩
    have hbW4 : Below w4.heap.size w4 W4 := by rw [← hW4]; exact (Below.refl _ w4).alloc (Nat.le_refl _) _
    have kW4 : Blk W4 N4 28 [.int .i64 0, .int .i64 0, .string ⟨#[]⟩, .slice none 0 0, .slice none 0 0] := by rw [← hW4, ← hN4]; exact heap_alloc_new w4 _
    have hbW := HZ.out.trans ((hb4.trans (hbW4.mono hb4.size)).mono HZ.out.size)
    have hrd := lRead_any s K HK.out.1 hs W4
    rw [HP.out.1] at hrd
    have H4 := Lib.hid (And.intro hW4 (And.intro hN4 (And.intro kW4 (And.intro hbW (And.intro (hc4.below hbW4) hrd)))))
    clear hW4 hN4 kW4 hbW hc4 hb4 hbW4 hrd
    go_wp2_with fail
    (try rw [H4.out.1])
    (try rw [H4.out.2.1])
    refine (show Calls _ _ _ _ _ from H4.out.2.2.2.2.2).mono ?_
    rintro e w5 ⟨q0, q1, q2, q3, q4, q5, q6, q7, q8, k5, rfl, hb5, ⟨hk5, hk0⟩⟩
    subst hk5
    obtain ⟨N5, hN5⟩ : ∃ N, w5.heap.size = N := ⟨_, rfl⟩
    obtain ⟨W5, hW5⟩ : ∃ W, w5.alloc (.cells #[.int .i64 q0, .int .i64 q1, .string q2, .slice q3 q4 q5, .slice q6 q7 q8] 28) = W := ⟨_, rfl⟩
    have hbW5 : Below w5.heap.size w5 W5 := by rw [← hW5]; exact (Below.refl _ w5).alloc (Nat.le_refl _) _
    have kW5 : Blk W5 N5 28 [.int .i64 q0, .int .i64 q1, .string q2, .slice q3 q4 q5, .slice q6 q7 q8] := by rw [← hW5, ← hN5]; exact heap_alloc_new w5 _
    have hb45 := hb5.trans (hbW5.mono hb5.size)
    have hbW := H4.out.2.2.2.1.trans (hb45.mono H4.out.2.2.2.1.size)
    have hcd := code_chain 1 _ k5 W5 (H4.out.2.2.2.2.1.below hb45) (H.out.2.2.2.1.below hbW).1.errt
    have H5 := Lib.hid (And.intro hW5 (And.intro hbW (And.intro (H4.out.2.2.1.below hb45) hcd)))
    have hz0 : ((k5 : Int) != 0) = true := by rw [bne, beq_eq_false_iff_ne.2 (show (k5 : Int) ≠ 0 by omega)]; rfl
    have hz1 : ¬ (k5 : Int) = 0 := by omega
    clear hW5 hbW kW5 hb45 hb5 hcd hbW5 hN5
    go_wp2_with fail
    (try rw [H5.out.1])
    refine (show Calls _ _ _ _ _ from H5.out.2.2.2).mono ?_
    rintro e w6 ⟨rfl, hb6⟩
    have k6 := H5.out.2.2.1.below hb6
    have r0 := k6.cell 0
    have r1 := k6.cell 1
    have r2 := k6.cell 2
    have r3 := k6.cell 3
    have r4 := k6.cell 4
    have HB6 := Lib.hid (H5.out.2.1.trans (hb6.mono H5.out.2.1.size))
    clear k6 hb6
    go_wp2_with fail
    refine (show Calls _ _ _ _ _ from vsame_any .null .null (fun _ => True) (fun _ => True) _ [.int .i64 0, .int .i64 0, .string ⟨#[]⟩, .slice none 0 0, .slice none 0 0] [.int .i64 0, .int .i64 0, .string ⟨#[]⟩, .slice none 0 0, .slice none 0 0] .null .null).mono ?_
    rintro e w7 ⟨rfl, hb7⟩
    rw [same_refl]
    have HF := Lib.hid (HB6.out.trans (hb7.mono HB6.out.size))
    clear hb7 r0 r1 r2 r3 r4
    go_wp2
    go_ret
    exact ⟨by first | rfl | simp, HF.out⟩
  | ok v =>
    have hcp := parse_ok hp K HK.out.1 wz (H.out.2.2.2.1.below HZ.out)
    have HP := Lib.hid (And.intro hp hcp)
    clear hp hcp
    go_wp2_with fail
    (try rw [HK0.out])
    refine (show Calls _ _ _ _ _ from HP.out.2).mono ?_
    rintro e w4 ⟨p0, p1, p2, p3, p4, p5, p6, p7, p8, rfl, hv4, hb4⟩
    obtain ⟨N4, hN4⟩ : ∃ N, w4.heap.size = N := ⟨_, rfl⟩
    obtain ⟨W4, hW4⟩ : ∃ W, w4.alloc (.cells #[.int .i64 p0, .int .i64 p1, .string p2, .slice p3 p4 p5, .slice p6 p7 p8] 28) = W := ⟨_, rfl⟩
    have hbW4 : Below w4.heap.size w4 W4 := by rw [← hW4]; exact (Below.refl _ w4).alloc (Nat.le_refl _) _
    have kW4 : Blk W4 N4 28 [.int .i64 p0, .int .i64 p1, .string p2, .slice p3 p4 p5, .slice p6 p7 p8] := by rw [← hW4, ← hN4]; exact heap_alloc_new w4 _
    have hbW := HZ.out.trans ((hb4.trans (hbW4.mono hb4.size)).mono HZ.out.size)
    have hrd := lRead_any s K HK.out.1 hs W4
    rw [HP.out.1] at hrd
    have H4 := Lib.hid (And.intro hW4 (And.intro hN4 (And.intro kW4 (And.intro hbW (And.intro (hv4.later hbW4) hrd)))))
    clear hW4 hN4 kW4 hbW hv4 hb4 hbW4 hrd
    go_wp2_with fail
    (try rw [H4.out.1])
    (try rw [H4.out.2.1])
    refine (show Calls _ _ _ _ _ from H4.out.2.2.2.2.2).mono ?_
    rintro e w5 ⟨q0, q1, q2, q3, q4, q5, q6, q7, q8, k5, rfl, hb5, ⟨hk5, hv5⟩⟩
    subst hk5
    obtain ⟨N5, hN5⟩ : ∃ N, w5.heap.size = N := ⟨_, rfl⟩
    obtain ⟨W5, hW5⟩ : ∃ W, w5.alloc (.cells #[.int .i64 q0, .int .i64 q1, .string q2, .slice q3 q4 q5, .slice q6 q7 q8] 28) = W := ⟨_, rfl⟩
    have hbW5 : Below w5.heap.size w5 W5 := by rw [← hW5]; exact (Below.refl _ w5).alloc (Nat.le_refl _) _
    have kW5 : Blk W5 N5 28 [.int .i64 q0, .int .i64 q1, .string q2, .slice q3 q4 q5, .slice q6 q7 q8] := by rw [← hW5, ← hN5]; exact heap_alloc_new w5 _
    have hb45 := hb5.trans (hbW5.mono hb5.size)
    have hbW := H4.out.2.2.2.1.trans (hb45.mono H4.out.2.2.2.1.size)
    have k4 := H4.out.2.2.1.below hb45
    have k4x : Blk (w5.alloc (.cells #[.int .i64 q0, .int .i64 q1, .string q2, .slice q3 q4 q5, .slice q6 q7 q8] 28)) N4 28 [.int .i64 p0, .int .i64 p1, .string p2, .slice p3 p4 p5, .slice p6 p7 p8] := by rw [hW5]; exact k4
    have k5x : Blk (w5.alloc (.cells #[.int .i64 q0, .int .i64 q1, .string q2, .slice q3 q4 q5, .slice q6 q7 q8] 28)) w5.heap.size 28 [.int .i64 q0, .int .i64 q1, .string q2, .slice q3 q4 q5, .slice q6 q7 q8] := heap_alloc_new w5 _
    have H5 := Lib.hid (And.intro hW5 (And.intro hbW (And.intro (H4.out.2.2.2.2.1.later hb45) (hv5.later hbW5))))
    have r0 := k4x.cell 0
    have r1 := k4x.cell 1
    have r2 := k4x.cell 2
    have r3 := k4x.cell 3
    have r4 := k4x.cell 4
    have y0 := k5x.cell 0
    have y1 := k5x.cell 1
    have y2 := k5x.cell 2
    have y3 := k5x.cell 3
    have y4 := k5x.cell 4
    clear hW5 hbW kW5 hb45 hb5 hbW5 k4 k4x k5x hv5 hN5
    have hz0 : (((0 : Nat) : Int) != 0) = false := rfl
    go_wp2_with fail
    (try rw [H5.out.1])
    refine (show Calls _ _ _ _ _ from vsame_any v v _ _ _ _ _ H5.out.2.2.1 H5.out.2.2.2).mono ?_
    rintro e w7 ⟨rfl, hb7⟩
    rw [same_refl]
    have HF := Lib.hid (H5.out.2.1.trans (hb7.mono H5.out.2.1.size))
    clear hb7 r0 r1 r2 r3 r4 y0 y1 y2 y3 y4
    go_wp2
    go_ret
    exact ⟨by first | rfl | simp, HF.out⟩
theorem jreads_law (nb : Nat) (w : World) (S : ByteArray) (h at_ c : Int) (hh : (Lit.int .u8 h).wf = true) (ha : (Lit.int .u16 at_).wf = true) (hc : (Lit.int .u8 c).wf = true) (v2 v3 : Value) (l2 l3 : BL) (hnb : nb ≤ w.heap.size) (h2 : BRead nb w v2 l2) (h3 : BRead nb w v3 l3) (hJ : JW w) :
    Calls Tryz.prog 6 #[.string S, .int .u8 h, v2, v3, .int .u16 at_, .int .u8 c] w fun e w' => e = .returned (.bool true) ∧ Below w.heap.size w w' := by
  obtain ⟨h', rfl, _⟩ := u8_nat hh
  obtain ⟨a', rfl, ha'⟩ := u16_nat ha
  obtain ⟨c', rfl, hc'⟩ := u8_nat hc
  rcases (show h' % 4 = 0 ∨ h' % 4 = 1 ∨ h' % 4 = 2 ∨ h' % 4 = 3 by omega) with e | e | e | e
  · exact jreads_0 nb w S h' a' c' e ha' hc' v2 v3 l2 l3 hnb h2 h3 hJ
  · exact jreads_1 nb w S h' a' c' e ha' hc' v2 v3 l2 l3 hnb h2 h3 hJ
  · exact jreads_2 nb w S h' a' c' e ha' hc' v2 v3 l2 l3 hnb h2 h3 hJ
  · exact jreads_3 nb w S h' a' c' e ha' hc' v2 v3 l2 l3 hnb h2 h3 hJ
end Go.Proofs.YtccnfnoonpfdfaaGreatDoor
