/- IndexClash's walk. -/
import Derived.Test.YtecnjifincahaaaGreatDoorIyG
namespace Go.Proofs.YtecnjifincahaaaGreatDoor
open Go.Shelf Go.RowKit Go.Lib

theorem ERead.take {n : Nat} {w : World} {a : Option Addr} {k cap : Nat} {l : List Ent} (m : Nat) (h : ERead n w (.slice a k cap) l) : ERead n w (.slice a (min k m) cap) (l.take m) := by
  obtain ⟨a2, cap2, he, hc, h⟩ := h
  injection he with h1 h2 h3
  subst h1 h3
  have hl : (l.take m).length = min k m := by rw [List.length_take, h2]; omega
  refine ⟨a, cap, by rw [hl], by rw [hl]; omega, fun hp => ?_⟩
  obtain ⟨b, off, rfl, hbn, hx⟩ := h (by omega)
  exact ⟨b, off, rfl, hbn, fun i hi => by rw [List.getElem_take]; exact hx i (by omega)⟩
theorem recs_doc : ∀ (l : List BL) (k : Int), ∀ p ∈ recs l k, ∃ b, p.2 = docL b
  | [], _, p, h => by simp [recs] at h
  | b :: l, k, p, h => by
    rw [recs] at h
    rcases List.mem_cons.1 h with h | h
    · exact ⟨b, by rw [h]⟩
    · exact recs_doc l (k + 1) p h
set_option maxHeartbeats 16000000 in
set_option maxRecDepth 100000 in
theorem iclash_true (n : Nat) (hn : n < 256) (nb : Nat) (w : World) (sv sv2 : Value) (L : List BL) (l : List Ent) (hnb : nb ≤ w.heap.size) (h1 : LRead nb w sv L) (h2 : ERead nb w sv2 l) (hI : IxW w) :
    Calls Tryz.prog 5 #[.int .u8 n, sv, sv2, .bool true] w fun e w' => e = .returned (.bool true) ∧ Below w.heap.size w w' := by
  obtain ⟨a2, cap2, rfl, hc2, hx2⟩ := h2
  have h2 : ERead nb w (.slice a2 l.length cap2) l := ⟨a2, cap2, rfl, hc2, hx2⟩
  clear hx2
  have h3 := h2.take 30
  obtain ⟨n2, hn2⟩ : ∃ k, l.length = k := ⟨_, rfl⟩
  obtain ⟨m2, hm2⟩ : ∃ k, min n2 30 = k := ⟨_, rfl⟩
  rw [hn2] at h3 hc2 ⊢
  rw [hm2] at h3
  have hmz : min (n2 : Int) 30 = (m2 : Int) := by omega
  have hmn : m2 ≤ n2 := by omega
  have hmc : m2 ≤ cap2 := by omega
  have hmn2 : (m2 : Int) ≤ (n2 : Int) := by omega
  have hmc2 : (m2 : Int) ≤ (cap2 : Int) := by omega
  have hl30 : (l.take 30).length ≤ 100000 := by rw [List.length_take]; omega
  have hspec := fun W => spec_any n hn true W
  have hk5 : n % 5 < 5 := Nat.mod_lt _ (by omega)
  have H0 := Lib.hid (And.intro hI (And.intro hnb (And.intro h1 (And.intro h3 (And.intro hl30 (And.intro hspec hk5))))))
  clear hI hnb h1 h2 h3 hl30 hspec hk5 hn2 hm2 hn
  obtain ⟨s1, hs1⟩ : ∃ a m c, sv = .slice a m c := by obtain ⟨a, c, h, _⟩ := H0.out.2.2.1; exact ⟨a, _, c, h⟩
  obtain ⟨s2, s3, rfl⟩ := hs1
  go_enter Tryz.func5, Tryz.ntmps5
  go_wp2_with fail
  refine (ixawake_any w H0.out.1).mono ?_
  rintro e w1 ⟨rfl, hb1⟩
  have H1 := Lib.hid hb1
  clear hb1
  go_wp2_with fail
  refine (filled_any nb w1 _ L (Nat.le_trans H0.out.2.1 H1.out.size) (H0.out.2.2.1.later (H1.out.mono H0.out.2.1)) (H0.out.1.words.later H1.out)).mono ?_
  rintro e w2 ⟨T, ob, rfl, hF, hT, hb2⟩
  have H2 := Lib.hid (And.intro (H1.out.trans (hb2.mono H1.out.size)) (And.intro hF hT))
  obtain ⟨bh, hbh⟩ : ∃ b, w1.heap.size = b := ⟨_, rfl⟩
  rw [hbh] at H2 ⊢
  clear hb2 hF hT hbh
  go_wp2_with fail
  refine (H0.out.2.2.2.2.2.1 w2).mono ?_
  rintro e w3 ⟨rfl, hb3⟩
  have hbw3 := H2.out.1.trans (hb3.mono H2.out.1.size)
  have hF3 := H2.out.2.1.later hb3
  have hTl : T.length ≤ 30 := by
    have h := congrArg List.length H2.out.2.2
    rw [List.length_map, recs_len, List.length_take] at h
    omega
  have hsm : ∀ t ∈ T, smallV t.v ∧ (keyL t.v).length ≤ 1000000 := fun t ht => by
    have h : prT t ∈ recs (L.take 30) 1 := by rw [← H2.out.2.2]; exact List.mem_map_of_mem ht
    obtain ⟨b, hb⟩ := recs_doc _ _ _ h
    have hb2 : t.v = docL b := hb
    rw [hb2]
    exact ⟨small_made 3 _, Nat.le_trans (keyL_made 3 _) (by decide)⟩
  obtain ⟨ov, _, _, _, hvs, hS, _⟩ := hF3.1
  have hof := lof_any (BA (105 :: dig (n % 10))) true (n % 5) H0.out.2.2.2.2.2.2 w3 (bh + 1) T _ hF3.2.1 hvs (fun b hb => (hS b hb).1) hsm (by omega) (H0.out.1.ml.later hbw3)
  have H3 := Lib.hid (And.intro hbw3 (And.intro hof hTl))
  clear hb3 hbw3 hF3 hTl hsm hvs hS hof
  go_wp2_with fail
  refine (show Calls _ _ _ _ _ from H3.out.2.1).mono ?_
  rintro e w4 ⟨v4, P, rfl, her, hall, hb4⟩
  have hbw4 := H3.out.1.trans (hb4.mono H3.out.1.size)
  obtain ⟨ls, hls⟩ : ∃ x, ofL10 (n % 5) P = x := ⟨_, rfl⟩
  have hlen : ls.length ≤ 100000 := by
    have h1 := ofL10_len (n % 5) P
    have h2 := sub_len hall.1 (L := T.map (·.id)) (fun k hk => by
      obtain ⟨t, ht, rfl⟩ := List.mem_map.1 hk
      exact List.mem_map_of_mem (hall.2.1 t ht))
    have := H3.out.2.2
    rw [List.length_map, List.length_map] at h2
    rw [hls] at h1
    omega
  rw [hls] at her
  have H4 := Lib.hid (And.intro hbw4 (And.intro her hlen))
  clear hb4 hbw4 hls hlen hall
  obtain ⟨sa, cap, rfl, hcap, hx⟩ := H4.out.2.1
  have hclash := clash_any w4.heap.size w4 _ ls (Nat.le_refl _) H4.out.2.2 H4.out.2.1
  obtain ⟨nn, hnn⟩ : ∃ k, ls.length = k := ⟨_, rfl⟩
  have hl100 := H4.out.2.2
  rw [hnn] at hclash hcap hl100 ⊢
  have HC := Lib.hid (And.intro hclash (And.intro hx hnn))
  clear hclash hx hnn
  go_wp2_with fail
  refine (show Calls _ _ _ _ _ from HC.out.1).mono ?_
  rintro e w5 ⟨hcr, hb5⟩
  have H5 := Lib.hid (And.intro (H4.out.1.trans (hb5.mono H4.out.1.size)) hb5)
  clear hb5
  rcases hcr with ⟨j, hj, heq, hap, rfl⟩ | ⟨hap, rfl⟩
  · obtain ⟨⟨jk, ji⟩, hjx⟩ : ∃ x, ls[j + 1] = x := ⟨_, rfl⟩
    rw [hjx]
    have HJ := Lib.hid (And.intro hj (And.intro heq (And.intro hap hjx)))
    clear heq hap hjx
    simp only
    obtain ⟨w6, hw6⟩ : ∃ W, w5.alloc (.cells #[.string (BA jk), .int .i64 ji] 53) = W := ⟨_, rfl⟩
    have hb6 : Below w5.heap.size w5 w6 := by rw [← hw6]; exact (Below.refl _ _).alloc (Nat.le_refl _) _
    have hk6 : Blk w6 w5.heap.size 53 [.string (BA jk), .int .i64 ji] := by rw [← hw6]; exact heap_alloc_new w5 _
    have H6 := Lib.hid (And.intro hb6 (And.intro hk6 hw6))
    have HB6 := Lib.hid hb6
    obtain ⟨B, hB⟩ : ∃ B, w5.heap.size = B := ⟨_, rfl⟩
    clear hb6 hk6 hw6
    go_wp2_with fail
    rw [H6.out.2.2]
    rw [hB] at H6
    (try rw [hB])
    clear hB
    go_loopg [14] nn (fun gk iv wr => ∃ (i : Nat), gk + i = nn ∧ iv = .int .i64 ((i : Int) + 1) ∧ i ≤ j ∧ Below w5.heap.size w5 wr ∧ Blk wr B 53 [.string (BA jk), .int .i64 ji])
    case atStart => exact ⟨0, by omega, rfl, Nat.zero_le _, HB6.out, H6.out.2.1⟩
    case round =>
      obtain ⟨i, hgi, rfl, hij, hbr, hkr⟩ := hrel
      have HS := Lib.hid (And.intro hbr hkr)
      clear hbr hkr
      have hnn := HC.out.2.2
      have stay : ∀ nq, Below w5.heap.size w5 (wr.drewN nq) ∧ Blk (wr.drewN nq) B 53 [.string (BA jk), .int .i64 ji] := fun nq => ⟨HS.out.1.trans ((bel_drewN wr nq).mono HS.out.1.size), HS.out.2.below (bel_drewN wr nq)⟩
      have hil : i + 1 < ls.length := by have := HJ.out.1; omega
      obtain ⟨b, off, rfl, hbn, hcells⟩ := HC.out.2.1 (by omega)
      have hc := hcells (i + 1) hil
      have hd := hcells i (by omega)
      have tr : ∀ p v, w4.cell? ⟨b, p, none⟩ = some v → wr.cell? ⟨b, p, none⟩ = some v := fun p v hv => (World.cell?_of_block ((H5.out.2.mono (Nat.le_refl _) |>.trans (HS.out.1.mono H5.out.2.size)).block b hbn)).trans hv
      have f0 := tr _ _ hc.1
      have f1 := tr _ _ hc.2
      have g0 := tr _ _ hd.1
      have hwK : IntKind.i64.wrap ((i : Int) + 1 + 1) = (i : Int) + 1 + 1 := by rw [IntWalk.i64_in _ (by omega)]
      have hwM : IntKind.i64.wrap ((i : Int) + 1 - 1) = (i : Int) := by rw [IntWalk.i64_in _ (by omega)]; omega
      have htn : ((i : Int) + 1).toNat = i + 1 := by omega
      have hi0 : (0 : Int) ≤ (i : Int) + 1 := by omega
      have hiz2 : (i : Int) < (nn : Int) := by omega
      have hiz : (i : Int) + 1 < (nn : Int) := by omega
      by_cases hie : i = j
      · subst hie
        have heq := HJ.out.2.1
        rw [HJ.out.2.2.2] at heq f0 f1
        obtain ⟨⟨yk, yi⟩, hyd⟩ : ∃ x, ls[i] = x := ⟨_, rfl⟩
        rw [hyd] at heq g0
        simp only at heq f0 f1 g0
        subst yk
        have e0 := HS.out.2.cell 0
        have e1 := HS.out.2.cell 1
        clear hc hd tr hcells hyd
        go_wp2
        go_quiet (fail)
        go_wp2
        go_quiet (fail)
        go_wp2
        go_ret
        have hw := H5.out.1.trans (HS.out.1.mono H5.out.1.size)
        exact ⟨by first | rfl | simp, by first | exact hw | exact hw.trans ((bel_drewN _ _).mono hw.size) | exact (hw.trans ((bel_drewN _ _).mono hw.size)).trans ((bel_drewN _ _).mono (hw.trans ((bel_drewN _ _).mono hw.size)).size)⟩
      · have hxy0 := HJ.out.2.2.1 i hil (by omega)
        obtain ⟨⟨xk, xi⟩, hxd⟩ : ∃ x, ls[i + 1] = x := ⟨_, rfl⟩
        obtain ⟨⟨yk, yi⟩, hyd⟩ : ∃ x, ls[i] = x := ⟨_, rfl⟩
        rw [hxd] at f0 f1
        rw [hyd] at g0
        rw [hxd, hyd] at hxy0
        have hxy : ¬ xk = yk := hxy0
        simp only at f0 f1 g0
        clear hc hd tr hcells hxd hyd hxy0
        have hbb : ¬ BA xk = BA yk := fun h => hxy (by have := congrArg (fun z : ByteArray => z.data.toList) h; simpa [BA] using this)
        have hb4 : ((BA xk).toList == (BA yk).toList) = false := by rw [Lib.toList_data, Lib.toList_data]; simpa [BA] using hxy
        have hb5 : ¬ (BA xk).toList = (BA yk).toList := by rw [Lib.toList_data, Lib.toList_data]; simpa [BA] using hxy
        have hb6 : (xk == yk) = false := by rw [beq_eq_false_iff_ne]; exact hxy
        go_wp2
        go_quiet (fail)
        go_wp2
        go_roundg (gk - 1)
        case rel => exact ⟨i + 1, by omega, by rw [show (((i + 1 : Nat) : Int) + 1) = (i : Int) + 1 + 1 by omega], by omega, (stay nq).1, (stay nq).2⟩
        case measure => omega
  · have HJ := Lib.hid hap
    clear hap
    obtain ⟨w6, hw6⟩ : ∃ W, w5.alloc (.cells #[.string ⟨#[]⟩, .int .i64 0] 53) = W := ⟨_, rfl⟩
    have hb6 : Below w5.heap.size w5 w6 := by rw [← hw6]; exact (Below.refl _ _).alloc (Nat.le_refl _) _
    have hk6 : Blk w6 w5.heap.size 53 [.string ⟨#[]⟩, .int .i64 0] := by rw [← hw6]; exact heap_alloc_new w5 _
    have H6 := Lib.hid (And.intro hb6 (And.intro hk6 hw6))
    have HB6 := Lib.hid hb6
    obtain ⟨B, hB⟩ : ∃ B, w5.heap.size = B := ⟨_, rfl⟩
    clear hb6 hk6 hw6
    go_wp2_with fail
    rw [H6.out.2.2]
    rw [hB] at H6
    (try rw [hB])
    clear hB
    go_loopg [14] nn (fun gk iv wr => ∃ (i : Nat), gk + i = nn ∧ iv = .int .i64 ((i : Int) + 1) ∧ Below w5.heap.size w5 wr ∧ Blk wr B 53 [.string ⟨#[]⟩, .int .i64 0])
    case atStart => exact ⟨0, by omega, rfl, HB6.out, H6.out.2.1⟩
    case round =>
      obtain ⟨i, hgi, rfl, hbr, hkr⟩ := hrel
      have HS := Lib.hid (And.intro hbr hkr)
      clear hbr hkr
      have hnn := HC.out.2.2
      have stay : ∀ nq, Below w5.heap.size w5 (wr.drewN nq) ∧ Blk (wr.drewN nq) B 53 [.string ⟨#[]⟩, .int .i64 0] := fun nq => ⟨HS.out.1.trans ((bel_drewN wr nq).mono HS.out.1.size), HS.out.2.below (bel_drewN wr nq)⟩
      by_cases hi : i + 1 < nn
      · have hil : i + 1 < ls.length := by omega
        obtain ⟨b, off, rfl, hbn, hcells⟩ := HC.out.2.1 (by omega)
        have hc := hcells (i + 1) hil
        have hd := hcells i (by omega)
        have tr : ∀ p v, w4.cell? ⟨b, p, none⟩ = some v → wr.cell? ⟨b, p, none⟩ = some v := fun p v hv => (World.cell?_of_block ((H5.out.2.mono (Nat.le_refl _) |>.trans (HS.out.1.mono H5.out.2.size)).block b hbn)).trans hv
        have f0 := tr _ _ hc.1
        have f1 := tr _ _ hc.2
        have g0 := tr _ _ hd.1
        have hwK : IntKind.i64.wrap ((i : Int) + 1 + 1) = (i : Int) + 1 + 1 := by rw [IntWalk.i64_in _ (by omega)]
        have hwM : IntKind.i64.wrap ((i : Int) + 1 - 1) = (i : Int) := by rw [IntWalk.i64_in _ (by omega)]; omega
        have htn : ((i : Int) + 1).toNat = i + 1 := by omega
        have hi0 : (0 : Int) ≤ (i : Int) + 1 := by omega
        have hiz2 : (i : Int) < (nn : Int) := by omega
        have hiz : (i : Int) + 1 < (nn : Int) := by omega
        have hxy0 := HJ.out i hil (by omega)
        obtain ⟨⟨xk, xi⟩, hxd⟩ : ∃ x, ls[i + 1] = x := ⟨_, rfl⟩
        obtain ⟨⟨yk, yi⟩, hyd⟩ : ∃ x, ls[i] = x := ⟨_, rfl⟩
        rw [hxd] at f0 f1
        rw [hyd] at g0
        rw [hxd, hyd] at hxy0
        have hxy : ¬ xk = yk := hxy0
        simp only at f0 f1 g0
        clear hc hd tr hcells hxd hyd hxy0
        have hbb : ¬ BA xk = BA yk := fun h => hxy (by have := congrArg (fun z : ByteArray => z.data.toList) h; simpa [BA] using this)
        have hb4 : ((BA xk).toList == (BA yk).toList) = false := by rw [Lib.toList_data, Lib.toList_data]; simpa [BA] using hxy
        have hb5 : ¬ (BA xk).toList = (BA yk).toList := by rw [Lib.toList_data, Lib.toList_data]; simpa [BA] using hxy
        have hb6 : (xk == yk) = false := by rw [beq_eq_false_iff_ne]; exact hxy
        go_wp2
        go_quiet (fail)
        go_wp2
        go_roundg (gk - 1)
        case rel => exact ⟨i + 1, by omega, by rw [show (((i + 1 : Nat) : Int) + 1) = (i : Int) + 1 + 1 by omega], (stay nq).1, (stay nq).2⟩
        case measure => omega
      · have hiz : ¬ (i : Int) + 1 < (nn : Int) := by omega
        have e0 := HS.out.2.cell 0
        have e1 := HS.out.2.cell 1
        go_wp2
        go_ret
        have hw := H5.out.1.trans (HS.out.1.mono H5.out.1.size)
        exact ⟨by first | rfl | simp, by first | exact hw | exact hw.trans ((bel_drewN _ _).mono hw.size) | exact (hw.trans ((bel_drewN _ _).mono hw.size)).trans ((bel_drewN _ _).mono (hw.trans ((bel_drewN _ _).mono hw.size)).size)⟩
set_option maxHeartbeats 16000000 in
set_option maxRecDepth 100000 in
theorem iclash_false (n : Nat) (hn : n < 256) (nb : Nat) (w : World) (sv sv2 : Value) (L : List BL) (l : List Ent) (hnb : nb ≤ w.heap.size) (h1 : LRead nb w sv L) (h2 : ERead nb w sv2 l) (hI : IxW w) :
    Calls Tryz.prog 5 #[.int .u8 n, sv, sv2, .bool false] w fun e w' => e = .returned (.bool true) ∧ Below w.heap.size w w' := by
  obtain ⟨a2, cap2, rfl, hc2, hx2⟩ := h2
  have h2 : ERead nb w (.slice a2 l.length cap2) l := ⟨a2, cap2, rfl, hc2, hx2⟩
  clear hx2
  have h3 := h2.take 30
  obtain ⟨n2, hn2⟩ : ∃ k, l.length = k := ⟨_, rfl⟩
  obtain ⟨m2, hm2⟩ : ∃ k, min n2 30 = k := ⟨_, rfl⟩
  rw [hn2] at h3 hc2 ⊢
  rw [hm2] at h3
  have hmz : min (n2 : Int) 30 = (m2 : Int) := by omega
  have hmn : m2 ≤ n2 := by omega
  have hmc : m2 ≤ cap2 := by omega
  have hmn2 : (m2 : Int) ≤ (n2 : Int) := by omega
  have hmc2 : (m2 : Int) ≤ (cap2 : Int) := by omega
  have hl30 : (l.take 30).length ≤ 100000 := by rw [List.length_take]; omega
  have hspec := fun W => spec_any n hn true W
  have hk5 : n % 5 < 5 := Nat.mod_lt _ (by omega)
  have H0 := Lib.hid (And.intro hI (And.intro hnb (And.intro h1 (And.intro h3 (And.intro hl30 (And.intro hspec hk5))))))
  clear hI hnb h1 h2 h3 hl30 hspec hk5 hn2 hm2 hn
  obtain ⟨s1, hs1⟩ : ∃ a m c, sv = .slice a m c := by obtain ⟨a, c, h, _⟩ := H0.out.2.2.1; exact ⟨a, _, c, h⟩
  obtain ⟨s2, s3, rfl⟩ := hs1
  go_enter Tryz.func5, Tryz.ntmps5
  go_wp2_with fail
  refine (ixawake_any w H0.out.1).mono ?_
  rintro e w1 ⟨rfl, hb1⟩
  have H1 := Lib.hid hb1
  clear hb1
  go_wp2_with fail
  refine (filled_any nb w1 _ L (Nat.le_trans H0.out.2.1 H1.out.size) (H0.out.2.2.1.later (H1.out.mono H0.out.2.1)) (H0.out.1.words.later H1.out)).mono ?_
  rintro e w2 ⟨T, ob, rfl, hF, hT, hb2⟩
  have H2 := Lib.hid (And.intro (H1.out.trans (hb2.mono H1.out.size)) (And.intro hF hT))
  obtain ⟨bh, hbh⟩ : ∃ b, w1.heap.size = b := ⟨_, rfl⟩
  rw [hbh] at H2 ⊢
  clear hb2 hF hT hbh
  have H4 := Lib.hid (show Below w.heap.size w w2 ∧ ERead w2.heap.size w2 (.slice a2 m2 cap2) (l.take 30) ∧ (l.take 30).length ≤ 100000 from ⟨H2.out.1, (H0.out.2.2.2.1.later (H2.out.1.mono H0.out.2.1)).mono (Nat.le_trans H0.out.2.1 H2.out.1.size), H0.out.2.2.2.2.1⟩)
  obtain ⟨ls, hls⟩ : ∃ x, l.take 30 = x := ⟨_, rfl⟩
  obtain ⟨v4, hv4⟩ : ∃ x, Value.slice a2 m2 cap2 = x := ⟨_, rfl⟩
  rw [hls, hv4] at H4
  obtain ⟨w4, hw4⟩ : ∃ x, w2 = x := ⟨_, rfl⟩
  subst hw4
  obtain ⟨sa, cap, hsl, hcap, hx⟩ := H4.out.2.1
  have hsl2 := hv4.trans hsl
  injection hsl2 with e1 e2 e3
  subst hv4 e1 e2 e3
  have hclash := clash_any w2.heap.size w2 _ ls (Nat.le_refl _) H4.out.2.2 H4.out.2.1
  obtain ⟨nn, hnn⟩ : ∃ k, ls.length = k := ⟨_, rfl⟩
  have hl100 := H4.out.2.2
  rw [hnn] at hclash hcap hl100 hmz hmn hmc hmn2 hmc2
  have HC := Lib.hid (And.intro hclash (And.intro hx hnn))
  clear hclash hx hnn
  go_wp2_with fail
  refine (show Calls _ _ _ _ _ from HC.out.1).mono ?_
  rintro e w5 ⟨hcr, hb5⟩
  have H5 := Lib.hid (And.intro (H4.out.1.trans (hb5.mono H4.out.1.size)) hb5)
  clear hb5
  rcases hcr with ⟨j, hj, heq, hap, rfl⟩ | ⟨hap, rfl⟩
  · obtain ⟨⟨jk, ji⟩, hjx⟩ : ∃ x, ls[j + 1] = x := ⟨_, rfl⟩
    rw [hjx]
    have HJ := Lib.hid (And.intro hj (And.intro heq (And.intro hap hjx)))
    clear heq hap hjx
    simp only
    obtain ⟨w6, hw6⟩ : ∃ W, w5.alloc (.cells #[.string (BA jk), .int .i64 ji] 53) = W := ⟨_, rfl⟩
    have hb6 : Below w5.heap.size w5 w6 := by rw [← hw6]; exact (Below.refl _ _).alloc (Nat.le_refl _) _
    have hk6 : Blk w6 w5.heap.size 53 [.string (BA jk), .int .i64 ji] := by rw [← hw6]; exact heap_alloc_new w5 _
    have H6 := Lib.hid (And.intro hb6 (And.intro hk6 hw6))
    have HB6 := Lib.hid hb6
    obtain ⟨B, hB⟩ : ∃ B, w5.heap.size = B := ⟨_, rfl⟩
    clear hb6 hk6 hw6
    go_wp2_with fail
    rw [H6.out.2.2]
    rw [hB] at H6
    (try rw [hB])
    clear hB
    go_loopg [14] nn (fun gk iv wr => ∃ (i : Nat), gk + i = nn ∧ iv = .int .i64 ((i : Int) + 1) ∧ i ≤ j ∧ Below w5.heap.size w5 wr ∧ Blk wr B 53 [.string (BA jk), .int .i64 ji])
    case atStart => exact ⟨0, by omega, rfl, Nat.zero_le _, HB6.out, H6.out.2.1⟩
    case round =>
      obtain ⟨i, hgi, rfl, hij, hbr, hkr⟩ := hrel
      have HS := Lib.hid (And.intro hbr hkr)
      clear hbr hkr
      have hnn := HC.out.2.2
      have stay : ∀ nq, Below w5.heap.size w5 (wr.drewN nq) ∧ Blk (wr.drewN nq) B 53 [.string (BA jk), .int .i64 ji] := fun nq => ⟨HS.out.1.trans ((bel_drewN wr nq).mono HS.out.1.size), HS.out.2.below (bel_drewN wr nq)⟩
      have hil : i + 1 < ls.length := by have := HJ.out.1; omega
      obtain ⟨b, off, rfl, hbn, hcells⟩ := HC.out.2.1 (by omega)
      have hc := hcells (i + 1) hil
      have hd := hcells i (by omega)
      have tr : ∀ p v, w2.cell? ⟨b, p, none⟩ = some v → wr.cell? ⟨b, p, none⟩ = some v := fun p v hv => (World.cell?_of_block ((H5.out.2.mono (Nat.le_refl _) |>.trans (HS.out.1.mono H5.out.2.size)).block b hbn)).trans hv
      have f0 := tr _ _ hc.1
      have f1 := tr _ _ hc.2
      have g0 := tr _ _ hd.1
      have hwK : IntKind.i64.wrap ((i : Int) + 1 + 1) = (i : Int) + 1 + 1 := by rw [IntWalk.i64_in _ (by omega)]
      have hwM : IntKind.i64.wrap ((i : Int) + 1 - 1) = (i : Int) := by rw [IntWalk.i64_in _ (by omega)]; omega
      have htn : ((i : Int) + 1).toNat = i + 1 := by omega
      have hi0 : (0 : Int) ≤ (i : Int) + 1 := by omega
      have hiz2 : (i : Int) < (nn : Int) := by omega
      have hiz : (i : Int) + 1 < (nn : Int) := by omega
      by_cases hie : i = j
      · subst hie
        have heq := HJ.out.2.1
        rw [HJ.out.2.2.2] at heq f0 f1
        obtain ⟨⟨yk, yi⟩, hyd⟩ : ∃ x, ls[i] = x := ⟨_, rfl⟩
        rw [hyd] at heq g0
        simp only at heq f0 f1 g0
        subst yk
        have e0 := HS.out.2.cell 0
        have e1 := HS.out.2.cell 1
        clear hc hd tr hcells hyd
        go_wp2
        go_quiet (fail)
        go_wp2
        go_quiet (fail)
        go_wp2
        go_ret
        have hw := H5.out.1.trans (HS.out.1.mono H5.out.1.size)
        exact ⟨by first | rfl | simp, by first | exact hw | exact hw.trans ((bel_drewN _ _).mono hw.size) | exact (hw.trans ((bel_drewN _ _).mono hw.size)).trans ((bel_drewN _ _).mono (hw.trans ((bel_drewN _ _).mono hw.size)).size)⟩
      · have hxy0 := HJ.out.2.2.1 i hil (by omega)
        obtain ⟨⟨xk, xi⟩, hxd⟩ : ∃ x, ls[i + 1] = x := ⟨_, rfl⟩
        obtain ⟨⟨yk, yi⟩, hyd⟩ : ∃ x, ls[i] = x := ⟨_, rfl⟩
        rw [hxd] at f0 f1
        rw [hyd] at g0
        rw [hxd, hyd] at hxy0
        have hxy : ¬ xk = yk := hxy0
        simp only at f0 f1 g0
        clear hc hd tr hcells hxd hyd hxy0
        have hbb : ¬ BA xk = BA yk := fun h => hxy (by have := congrArg (fun z : ByteArray => z.data.toList) h; simpa [BA] using this)
        have hb4 : ((BA xk).toList == (BA yk).toList) = false := by rw [Lib.toList_data, Lib.toList_data]; simpa [BA] using hxy
        have hb5 : ¬ (BA xk).toList = (BA yk).toList := by rw [Lib.toList_data, Lib.toList_data]; simpa [BA] using hxy
        have hb6 : (xk == yk) = false := by rw [beq_eq_false_iff_ne]; exact hxy
        go_wp2
        go_quiet (fail)
        go_wp2
        go_roundg (gk - 1)
        case rel => exact ⟨i + 1, by omega, by rw [show (((i + 1 : Nat) : Int) + 1) = (i : Int) + 1 + 1 by omega], by omega, (stay nq).1, (stay nq).2⟩
        case measure => omega
  · have HJ := Lib.hid hap
    clear hap
    obtain ⟨w6, hw6⟩ : ∃ W, w5.alloc (.cells #[.string ⟨#[]⟩, .int .i64 0] 53) = W := ⟨_, rfl⟩
    have hb6 : Below w5.heap.size w5 w6 := by rw [← hw6]; exact (Below.refl _ _).alloc (Nat.le_refl _) _
    have hk6 : Blk w6 w5.heap.size 53 [.string ⟨#[]⟩, .int .i64 0] := by rw [← hw6]; exact heap_alloc_new w5 _
    have H6 := Lib.hid (And.intro hb6 (And.intro hk6 hw6))
    have HB6 := Lib.hid hb6
    obtain ⟨B, hB⟩ : ∃ B, w5.heap.size = B := ⟨_, rfl⟩
    clear hb6 hk6 hw6
    go_wp2_with fail
    rw [H6.out.2.2]
    rw [hB] at H6
    (try rw [hB])
    clear hB
    go_loopg [14] nn (fun gk iv wr => ∃ (i : Nat), gk + i = nn ∧ iv = .int .i64 ((i : Int) + 1) ∧ Below w5.heap.size w5 wr ∧ Blk wr B 53 [.string ⟨#[]⟩, .int .i64 0])
    case atStart => exact ⟨0, by omega, rfl, HB6.out, H6.out.2.1⟩
    case round =>
      obtain ⟨i, hgi, rfl, hbr, hkr⟩ := hrel
      have HS := Lib.hid (And.intro hbr hkr)
      clear hbr hkr
      have hnn := HC.out.2.2
      have stay : ∀ nq, Below w5.heap.size w5 (wr.drewN nq) ∧ Blk (wr.drewN nq) B 53 [.string ⟨#[]⟩, .int .i64 0] := fun nq => ⟨HS.out.1.trans ((bel_drewN wr nq).mono HS.out.1.size), HS.out.2.below (bel_drewN wr nq)⟩
      by_cases hi : i + 1 < nn
      · have hil : i + 1 < ls.length := by omega
        obtain ⟨b, off, rfl, hbn, hcells⟩ := HC.out.2.1 (by omega)
        have hc := hcells (i + 1) hil
        have hd := hcells i (by omega)
        have tr : ∀ p v, w2.cell? ⟨b, p, none⟩ = some v → wr.cell? ⟨b, p, none⟩ = some v := fun p v hv => (World.cell?_of_block ((H5.out.2.mono (Nat.le_refl _) |>.trans (HS.out.1.mono H5.out.2.size)).block b hbn)).trans hv
        have f0 := tr _ _ hc.1
        have f1 := tr _ _ hc.2
        have g0 := tr _ _ hd.1
        have hwK : IntKind.i64.wrap ((i : Int) + 1 + 1) = (i : Int) + 1 + 1 := by rw [IntWalk.i64_in _ (by omega)]
        have hwM : IntKind.i64.wrap ((i : Int) + 1 - 1) = (i : Int) := by rw [IntWalk.i64_in _ (by omega)]; omega
        have htn : ((i : Int) + 1).toNat = i + 1 := by omega
        have hi0 : (0 : Int) ≤ (i : Int) + 1 := by omega
        have hiz2 : (i : Int) < (nn : Int) := by omega
        have hiz : (i : Int) + 1 < (nn : Int) := by omega
        have hxy0 := HJ.out i hil (by omega)
        obtain ⟨⟨xk, xi⟩, hxd⟩ : ∃ x, ls[i + 1] = x := ⟨_, rfl⟩
        obtain ⟨⟨yk, yi⟩, hyd⟩ : ∃ x, ls[i] = x := ⟨_, rfl⟩
        rw [hxd] at f0 f1
        rw [hyd] at g0
        rw [hxd, hyd] at hxy0
        have hxy : ¬ xk = yk := hxy0
        simp only at f0 f1 g0
        clear hc hd tr hcells hxd hyd hxy0
        have hbb : ¬ BA xk = BA yk := fun h => hxy (by have := congrArg (fun z : ByteArray => z.data.toList) h; simpa [BA] using this)
        have hb4 : ((BA xk).toList == (BA yk).toList) = false := by rw [Lib.toList_data, Lib.toList_data]; simpa [BA] using hxy
        have hb5 : ¬ (BA xk).toList = (BA yk).toList := by rw [Lib.toList_data, Lib.toList_data]; simpa [BA] using hxy
        have hb6 : (xk == yk) = false := by rw [beq_eq_false_iff_ne]; exact hxy
        go_wp2
        go_quiet (fail)
        go_wp2
        go_roundg (gk - 1)
        case rel => exact ⟨i + 1, by omega, by rw [show (((i + 1 : Nat) : Int) + 1) = (i : Int) + 1 + 1 by omega], (stay nq).1, (stay nq).2⟩
        case measure => omega
      · have hiz : ¬ (i : Int) + 1 < (nn : Int) := by omega
        have e0 := HS.out.2.cell 0
        have e1 := HS.out.2.cell 1
        go_wp2
        go_ret
        have hw := H5.out.1.trans (HS.out.1.mono H5.out.1.size)
        exact ⟨by first | rfl | simp, by first | exact hw | exact hw.trans ((bel_drewN _ _).mono hw.size) | exact (hw.trans ((bel_drewN _ _).mono hw.size)).trans ((bel_drewN _ _).mono (hw.trans ((bel_drewN _ _).mono hw.size)).size)⟩
theorem iclash_law (n : Nat) (hn : n < 256) (own : Bool) (nb : Nat) (w : World) (sv sv2 : Value) (L : List BL) (l : List Ent) (hnb : nb ≤ w.heap.size) (h1 : LRead nb w sv L) (h2 : ERead nb w sv2 l) (hI : IxW w) :
    Calls Tryz.prog 5 #[.int .u8 n, sv, sv2, .bool own] w fun e w' => e = .returned (.bool true) ∧ Below w.heap.size w w' := by
  cases own with
  | true => exact iclash_true n hn nb w sv sv2 L l hnb h1 h2 hI
  | false => exact iclash_false n hn nb w sv sv2 L l hnb h1 h2 hI
theorem iclash_int (n : Int) (hw : (Lit.int .u8 n).wf = true) (own : Bool) (w : World) (sv sv2 : Value) (L : List BL) (l : List Ent) (h1 : LRead w.heap.size w sv L) (h2 : ERead w.heap.size w sv2 l) (hI : IxW w) :
    Calls Tryz.prog 5 #[.int .u8 n, sv, sv2, .bool own] w fun e w' => e = .returned (.bool true) ∧ Below w.heap.size w w' := by
  obtain ⟨k, hk, rfl⟩ := u8_nat hw
  exact iclash_law k hk own w.heap.size w sv sv2 L l (Nat.le_refl _) h1 h2 hI
end Go.Proofs.YtecnjifincahaaaGreatDoor
