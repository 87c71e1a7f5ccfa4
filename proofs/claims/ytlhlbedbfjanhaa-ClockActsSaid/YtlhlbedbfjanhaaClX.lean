/- ClockActs: the law's walk. -/
import Derived.Test.YtlhlbedbfjanhaaClW
import Derived.Test.YtlhlbedbfjanhaaClU
namespace Go.Proofs.Ytlhlbedbfjanhaa
open Go.RowKit

/-- the law's map holds the clock's deadlines. -/
structure ActAt (w wr : World) (b mB : Nat) (c : Clk) (n : Nat) : Prop where
  st : CSt w wr b c n
  map : MapS i64V wr mB (atF c)
  low : b + 66 ≤ mB
theorem CSt.mapped {w wr w2 : World} {b mB n : Nat} {c : Clk} (h : CSt w wr b c n) (ho : Only (fun x => x = mB) wr w2) (hl : b + 66 ≤ mB) : CSt w w2 b c n :=
  ⟨h.rep.only ho (fun x hx e => by unfold InW at hx; omega), h.ok, h.few, h.bel.trans (ho.below h.bel.size (fun k hk e => by have := h.low; omega)), h.low⟩
theorem ActAt.later {w wr w2 : World} {b mB n : Nat} {c : Clk} (h : ActAt w wr b mB c n) (hb : Below wr.heap.size wr w2) : ActAt w w2 b mB c n := ⟨h.st.later hb, h.map.only (Only.ofBelow hb NoneS) (fun e => e), h.low⟩
theorem ActAt.mono {w wr : World} {b mB n m : Nat} {c : Clk} (h : ActAt w wr b mB c n) (hm : n ≤ m) : ActAt w wr b mB c m := ⟨h.st.mono hm, h.map, h.low⟩

set_option maxHeartbeats 16000000 in
set_option maxRecDepth 100000 in
theorem cacts_law (v : Value) (l : List CDeed) (w : World) (hv : CRead w v l) :
    Calls Try.prog 5 #[v] w fun e w' => e = .returned (.bool true) ∧ Below w.heap.size w w' := by
  have HV := Lib.hid hv
  obtain ⟨hm, _, a, cap, rfl, hcap, hcap2, _⟩ := hv
  obtain ⟨n, hn⟩ : ∃ n, n = min l.length 60 := ⟨_, rfl⟩
  have hn1 : n ≤ l.length := by omega
  have hn2 : n ≤ 60 := by omega
  have hmn : min (l.length : Int) 60 = (n : Int) := by omega
  have hmi : (if (60 : Int) < (l.length : Int) then (60 : Int) else (l.length : Int)) = (n : Int) := by split <;> omega
  have hz1 : (0 : Int) ≤ (n : Int) := by omega
  have hz2 : (n : Int) ≤ (cap : Int) := by omega
  have hz3 : n ≤ cap := by omega
  have HN := Lib.hid (And.intro hn1 hn2)
  clear hn hn1 hn2 hm hcap hcap2
  obtain ⟨len, hlen⟩ : ∃ len, l.length = len := ⟨_, rfl⟩
  rw [hlen] at HV hmn hmi ⊢
  have HLEN := Lib.hid hlen
  clear hlen
  have hmm := @run_makeMap Try.prog
  go_enter Try.func5, Try.ntmps5
  go_wp2_with fail
  refine (cawake_any _).mono ?_
  rintro e w0 ⟨rfl, hb0⟩
  have H0 := Lib.hid hb0
  clear hb0
  go_wp2_with fail
  refine (new_any _).mono ?_
  rintro e w1 ⟨rfl, hr1, hb1, hs1⟩
  have H1 := Lib.hid (CSt.made H0.out hr1 hb1)
  obtain ⟨b, hbe⟩ : ∃ b, w0.heap.size = b := ⟨_, rfl⟩
  rw [hbe] at H1 hs1
  try rw [hbe]
  clear hr1 hb1 hbe
  obtain ⟨mB, hmB⟩ : ∃ m, w1.heap.size = m := ⟨_, rfl⟩
  have hst : ActAt w (w1.alloc (.map #[] 0)) b mB Clk.new 0 := by
    refine ⟨H1.out.later ((Below.refl _ w1).alloc (Nat.le_refl _) _), ?_, by omega⟩
    have h := MapS.made (inj := i64V) w1
    rw [hmB] at h
    exact h.congr (fun _ => rfl)
  have HST := Lib.hid hst
  clear hst hs1
  go_wp2_with fail
  try rw [hmB]
  clear hmB hmn hmi hz1 hz2 hz3 hmm
  go_loopg [5, 28] n (fun gk nv iv wr => ∃ (i : Nat) (c : Clk), gk + i = n ∧ nv = .int .i64 c.now ∧ iv = .int .i64 i ∧ Hid (ActAt w wr b mB c i))
  case atStart => exact ⟨0, Clk.new, by omega, rfl, rfl, HST⟩
  case round =>
    obtain ⟨i, c, hg, rfl, rfl, HC⟩ := hrel
    by_cases hi : i < n
    · have hiz : (i : Int) < (n : Int) := by omega
      have hwK : IntKind.i64.wrap ((i : Int) + 1) = ((i + 1 : Nat) : Int) := by rw [IntWalk.i64_in _ (by have := HN.out.2; omega)]; omega
      obtain ⟨bb, off, rfl, e0, e1, e2, hdo⟩ := (HV.out.below HC.out.st.bel).at i (by have := HN.out.1; omega)
      obtain ⟨dk, hdk⟩ : ∃ x, (l[i]'(by have := HN.out.1; have := HLEN.out; omega)).k = x := ⟨_, rfl⟩
      obtain ⟨di, hdi⟩ : ∃ x, (l[i]'(by have := HN.out.1; have := HLEN.out; omega)).i = x := ⟨_, rfl⟩
      obtain ⟨dn, hdn⟩ : ∃ x, (l[i]'(by have := HN.out.1; have := HLEN.out; omega)).n = x := ⟨_, rfl⟩
      rw [hdk] at e0
      rw [hdi] at e1
      rw [hdn] at e2
      have hir := hdo.i
      have hkr := hdo.k
      rw [hdi] at hir
      rw [hdk] at hkr
      obtain ⟨x, hx⟩ : ∃ x, Int.tmod di 16 = x := ⟨_, rfl⟩
      have hxb : 0 ≤ x ∧ x < 16 := by
        have h := Int.tmod_eq_emod_of_nonneg (b := 16) hir.1
        rw [hx] at h
        omega
      have hwx : IntKind.i64.wrap x = x := IntWalk.i64_in _ (by omega)
      obtain ⟨id, hid⟩ : ∃ id, x - 4 = id := ⟨_, rfl⟩
      have hwid : IntKind.i64.wrap (x - 4) = id := by rw [IntWalk.i64_in _ (by omega)]; exact hid
      obtain ⟨q, hq⟩ : ∃ q, Int.tmod dk 4 = q := ⟨_, rfl⟩
      clear hxb hir hkr hid
      obtain ⟨W3, hW3⟩ : ∃ W, wr.alloc (.cells #[.int .u8 dk, .int .u8 di, .int .i64 dn] 28) = W := ⟨_, rfl⟩
      have hb3 : Below wr.heap.size wr W3 := by rw [← hW3]; exact (Below.refl _ wr).alloc (Nat.le_refl _) _
      have hbk : Blk W3 wr.heap.size 28 [.int .u8 dk, .int .u8 di, .int .i64 dn] := by rw [← hW3]; exact heap_alloc_new wr _
      have hPm : mB < wr.heap.size := HC.out.map.lt
      have H3 := Lib.hid (And.intro (HC.out.later hb3) (And.intro hbk (And.intro hW3 hPm)))
      have hlk0 := H3.out.1.map.rep.lookup_ok keyI64 Try.underlying35 (zeroInt W3) id
      rw [atF_get, atF_is, ← hW3] at hlk0
      simp only [i64V] at hlk0
      obtain ⟨t0, ht0⟩ : ∃ t, (c.at_ id).getD 0 = t := ⟨_, rfl⟩
      obtain ⟨had, hhad⟩ : ∃ f, (c.at_ id).isSome = f := ⟨_, rfl⟩
      rw [ht0, hhad] at hlk0
      have HHAD := Lib.hid hhad
      have HHI := Lib.hid (show i ≤ 60 by have := HN.out.2; omega)
      clear hdo hdk hdi hdn hb3 hbk hPm ht0 hhad hW3
      by_cases hq0 : q = 0
      · subst hq0
        obtain ⟨M, hM⟩ : ∃ M, (if dn < 0 then 0 else dn) = M := ⟨_, rfl⟩
        obtain ⟨K, hK⟩ : ∃ K, (if 1048576 < M then 1048576 else M) = K := ⟨_, rfl⟩
        obtain ⟨nx, hnx⟩ : ∃ nx, (if 1099511627776 < c.now + K then 1099511627776 else c.now + K) = nx := ⟨_, rfl⟩
        have hM2 : max dn 0 = M := by rw [← hM]; split <;> omega
        have hK2 : min M 1048576 = K := by rw [← hK]; split <;> omega
        have hnx2 : min (c.now + K) 1099511627776 = nx := by rw [← hnx]; split <;> omega
        have hnext : c.next dn = nx := by
          rw [← hnx2, ← hK2, ← hM2]
          unfold Clk.next maxK maxT
          rfl
        have hlo := HC.out.st.ok.lo
        have hhi := HC.out.st.ok.hi
        have hmt : maxT = 1099511627776 := rfl
        rw [hmt] at hhi
        have hKb : 0 ≤ K ∧ K ≤ 1048576 := by
          rw [← hK, ← hM]
          repeat' split
          all_goals omega
        have hwA : IntKind.i64.wrap (c.now + K) = c.now + K := IntWalk.i64_in _ (by omega)
        have HNX := Lib.hid hnext
        clear hnext hlo hhi hmt hKb
        go_wp2_with fail
        try rw [H3.out.2.2.1]
        have hcall := tick_law H3.out.1.st (by have := HHI.out; omega) dn
        refine hcall.mono ?_
        rintro e w5 ⟨a5, c5, l5, rfl, _, hd5, h5, ho5, hown5, hl5, hsz5⟩
        rw [HNX.out] at hd5
        have hm5 := H3.out.1.map.only ho5 (fun e => by have := H3.out.1.low; unfold InW at e; omega)
        have hbs : mB < W3.heap.size + 1 := by have := H3.out.1.map.lt; omega
        obtain ⟨base, hbase⟩ : ∃ x, W3.heap.size + 1 = x := ⟨_, rfl⟩
        rw [hbase] at hown5 hbs
        have H5 := Lib.hid (And.intro hd5 (And.intro h5 (And.intro hown5 (And.intro hl5 (And.intro hm5 hbs)))))
        obtain ⟨m5, hm5e⟩ : ∃ m, l5.length = m := ⟨_, rfl⟩
        rw [hm5e] at H5
        try rw [hm5e]
        have HM5 := Lib.hid hm5e
        clear hcall hd5 h5 ho5 hown5 hl5 hsz5 hm5 hbs hbase hm5e hlk0 hM hK hnx hM2 hK2 hnx2 hwA e0 e1 e2 hx hwx hwid hq
        go_wp2_with fail
        have hcall := ldue_any mB c nx 1000 _ H5.out.2.2.2.2.1 (HC.out.st.few.mono (by have := HHI.out; omega)) (by omega)
        refine hcall.mono ?_
        rintro e w6 ⟨v6, l6, rfl, hown6, hd6, hm6, ho6⟩
        have heq : l6 = l5 := hd6.unique H5.out.1
        rw [heq] at hown6
        have hr5 : LRead w6 (.slice a5 m5 c5) l5 := by
          have h := own_only H5.out.2.2.1 ho6 (fun g hg e => by have := (own_lt H5.out.2.2.1 hg).1; have := H5.out.2.2.2.2.2; omega)
          rw [← HM5.out] at h ⊢
          exact LRead.own h (by have := H5.out.2.2.2.1; have := HM5.out; have := HHI.out; omega)
        have hr6 := LRead.own hown6 (by have := H5.out.2.2.2.1; have := HM5.out; have := HHI.out; omega)
        have h6 : ActAt w w6 b mB (c.tick dn) (i + 1) := by
          refine ⟨(H5.out.2.1.mapped ho6 H3.out.1.low).mono (by omega), hm6.congr fun k => ?_, H3.out.1.low⟩
          unfold Clk.tick
          rw [HNX.out]
        have H6 := Lib.hid (And.intro hr5 (And.intro hr6 h6))
        clear hcall hown6 hd6 hm6 ho6 heq hr5 hr6 h6
        go_wp2_with fail
        have hcall := csame_any _ _ _ _ _ H6.out.1 H6.out.2.1
        refine hcall.mono ?_
        rintro e w7 ⟨rfl, qd, rfl⟩
        rw [show decide (l5 = l5) = true by simp]
        clear hcall
        have HA := Lib.hid (H6.out.2.2.later (Below.refl _ _) |> fun h => (⟨⟨h.st.rep.only (Only.drewN NoneS w6 qd) (fun _ _ e => e), h.st.ok, h.st.few, h.st.bel.trans ((Only.drewN NoneS w6 qd).below h.st.bel.size (fun _ _ e => e)), h.st.low⟩, h.map.only (Only.drewN NoneS w6 qd) (fun e => e), h.low⟩ : ActAt w (w6.drewN qd) b mB (c.tick dn) (i + 1)))
        obtain ⟨D, hD⟩ : ∃ D, c.tick dn = D := ⟨_, rfl⟩
        rw [hD] at HA
        have hDn : (c.tick dn).now = D.now := by rw [hD]
        have HDN := Lib.hid hDn
        clear hD hDn
        go_wp2_with fail
        have hcall := now_any b (b + 1) b D _ HA.out.st.rep
        rw [← HDN.out, show (c.tick dn).now = nx from HNX.out] at hcall
        refine hcall.mono ?_
        rintro e wq ⟨rfl, rfl⟩
        clear hcall
        obtain ⟨GK, hGK⟩ : ∃ x, gk = x := ⟨_, rfl⟩
        have HGK := Lib.hid hGK
        rw [hGK] at hg
        clear hGK
        go_wp2_with fail
        go_loopg [11] 16 (fun gj iv wj => ∃ (j : Nat), gj + j = 16 ∧ iv = .int .i64 ((j : Int) - 4) ∧ Hid (ActAt w wj b mB D (i + 1)))
        case atStart => exact ⟨0, rfl, rfl, HA⟩
        case round =>
          obtain ⟨j, hgj, rfl, HJ⟩ := hrel
          by_cases hj : j < 16
          · have hjz : (j : Int) - 4 < 12 := by omega
            have hwJ : IntKind.i64.wrap ((j : Int) - 4 + 1) = ((j + 1 : Nat) : Int) - 4 := by rw [IntWalk.i64_in _ (by omega)]; omega
            obtain ⟨y, hy⟩ : ∃ y, (j : Int) - 4 = y := ⟨_, rfl⟩
            have hlk := HJ.out.map.rep.lookup_ok keyI64 Try.underlying35 (zeroInt wr) y
            rw [atF_get, atF_is] at hlk
            have hcall := at_any b (b + 1) b D y _ HJ.out.st.rep
            obtain ⟨t9, ht9⟩ : ∃ t, (D.at_ y).getD 0 = t := ⟨_, rfl⟩
            obtain ⟨f9, hf9⟩ : ∃ f, (D.at_ y).isSome = f := ⟨_, rfl⟩
            rw [ht9, hf9] at hlk hcall
            have HC9 := Lib.hid hcall
            simp only [i64V] at hlk
            rw [hy] at hjz hwJ
            try rw [hy]
            have HY := Lib.hid hy
            clear hcall ht9 hf9 hy
            go_wp2_with fail
            refine HC9.out.mono ?_
            rintro e wq ⟨rfl, rfl⟩
            go_wp2
            go_roundg (gk - 1)
            case rel => exact ⟨j + 1, by omega, (by first | rfl | (congr 1; omega)), HJ⟩
            case measure => omega
          · have hjz : ¬ (j : Int) - 4 < 12 := by omega
            go_wp2
            go_roundg (GK - 1)
            case rel => exact ⟨i + 1, D, by omega, by rw [← HDN.out, show (c.tick dn).now = nx from HNX.out], rfl, HJ⟩
            case measure => have := HGK.out; omega
      · by_cases hq3 : q = 3
        · subst hq3
          clear hq0
          obtain ⟨w5, hdel, hm5, ho5, _⟩ := H3.out.1.map.delete (ut := 2) (ty := 0) keyI64 Try.underlying35 id
          simp only [i64V] at hdel
          rw [← H3.out.2.2.1] at hdel
          have H5 := Lib.hid (And.intro (H3.out.1.st.mapped ho5 H3.out.1.low) hm5)
          clear hm5 ho5
          go_wp2_with fail
          have hcall := clear_any b (b + 1) b c id _ H5.out.1.rep
          rw [HHAD.out] at hcall
          refine hcall.mono ?_
          rintro e w6 ⟨rfl, hr6, ho6, _⟩
          have h6 : ActAt w w6 b mB (c.clear id) (i + 1) := ⟨(H5.out.1.clear hr6 ho6).mono (by omega), (H5.out.2.only ho6 (fun e => by have := H3.out.1.low; unfold InW at e; omega)).congr (fun k => atF_clear c id k), H3.out.1.low⟩
          have H6 := Lib.hid h6
          clear hcall hr6 ho6 h6 hdel hlk0 e0 e1 e2 hx hwx hwid hq
          have HA := Lib.hid (H6.out)
          obtain ⟨D, hD⟩ : ∃ D, c.clear id = D := ⟨_, rfl⟩
          rw [hD] at HA
          have hDn : (c.clear id).now = D.now := by rw [hD]
          have HDN := Lib.hid hDn
          clear hD hDn
          go_wp2_with fail
          have hcall := now_any b (b + 1) b D _ HA.out.st.rep
          rw [← HDN.out, show (c.clear id).now = c.now from rfl] at hcall
          refine hcall.mono ?_
          rintro e wq ⟨rfl, rfl⟩
          clear hcall
          obtain ⟨GK, hGK⟩ : ∃ x, gk = x := ⟨_, rfl⟩
          have HGK := Lib.hid hGK
          rw [hGK] at hg
          clear hGK
          go_wp2_with fail
          go_loopg [11] 16 (fun gj iv wj => ∃ (j : Nat), gj + j = 16 ∧ iv = .int .i64 ((j : Int) - 4) ∧ Hid (ActAt w wj b mB D (i + 1)))
          case atStart => exact ⟨0, rfl, rfl, HA⟩
          case round =>
            obtain ⟨j, hgj, rfl, HJ⟩ := hrel
            by_cases hj : j < 16
            · have hjz : (j : Int) - 4 < 12 := by omega
              have hwJ : IntKind.i64.wrap ((j : Int) - 4 + 1) = ((j + 1 : Nat) : Int) - 4 := by rw [IntWalk.i64_in _ (by omega)]; omega
              obtain ⟨y, hy⟩ : ∃ y, (j : Int) - 4 = y := ⟨_, rfl⟩
              have hlk := HJ.out.map.rep.lookup_ok keyI64 Try.underlying35 (zeroInt wr) y
              rw [atF_get, atF_is] at hlk
              have hcall := at_any b (b + 1) b D y _ HJ.out.st.rep
              obtain ⟨t9, ht9⟩ : ∃ t, (D.at_ y).getD 0 = t := ⟨_, rfl⟩
              obtain ⟨f9, hf9⟩ : ∃ f, (D.at_ y).isSome = f := ⟨_, rfl⟩
              rw [ht9, hf9] at hlk hcall
              have HC9 := Lib.hid hcall
              simp only [i64V] at hlk
              rw [hy] at hjz hwJ
              try rw [hy]
              have HY := Lib.hid hy
              clear hcall ht9 hf9 hy
              go_wp2_with fail
              refine HC9.out.mono ?_
              rintro e wq ⟨rfl, rfl⟩
              go_wp2
              go_roundg (gk - 1)
              case rel => exact ⟨j + 1, by omega, (by first | rfl | (congr 1; omega)), HJ⟩
              case measure => omega
            · have hjz : ¬ (j : Int) - 4 < 12 := by omega
              go_wp2
              go_roundg (GK - 1)
              case rel => exact ⟨i + 1, D, by omega, by rw [← HDN.out]; rfl, rfl, HJ⟩
              case measure => have := HGK.out; omega
        · obtain ⟨M, hM⟩ : ∃ M, (if dn < c.now then c.now else dn) = M := ⟨_, rfl⟩
          obtain ⟨A9, hA⟩ : ∃ K, (if 1099511627776 < M then 1099511627776 else M) = K := ⟨_, rfl⟩
          have hM2 : max dn c.now = M := by rw [← hM]; split <;> omega
          have hA2 : min M 1099511627776 = A9 := by rw [← hA]; split <;> omega
          have hwhen : c.when dn = A9 := by rw [← hA2, ← hM2]; unfold Clk.when maxT; rfl
          have HWH := Lib.hid hwhen
          clear hwhen
          go_wp2_with fail
          try rw [H3.out.2.2.1]
          have hcall := set_any b (b + 1) b c id dn _ H3.out.1.st.rep
          refine hcall.mono ?_
          rintro e w5 ⟨rfl, hr5, ho5, _⟩
          have hm5 := H3.out.1.map.only ho5 (fun e => by have := H3.out.1.low; unfold InW at e; omega)
          have hbk5 := H3.out.2.1.only ho5 (fun e => by have := H3.out.1.low; have := H3.out.2.2.2; unfold InW at e; omega)
          obtain ⟨w6, hup, hm6, ho6, _⟩ := hm5.update keyI64 Try.underlying35 id (.int .i64 A9)
          simp only [i64V] at hup
          have q2 := hbk5.cell 2
          have h6 : ActAt w w6 b mB (c.set id dn) (i + 1) := ⟨(H3.out.1.st.set hr5 ho5).mapped ho6 H3.out.1.low, hm6.congr (fun k => by rw [atF_set, HWH.out]), H3.out.1.low⟩
          have H6 := Lib.hid h6
          clear hcall hr5 ho5 hm5 hbk5 hm6 ho6 h6 hlk0 e0 e1 e2 hx hwx hwid
          have HA := Lib.hid (H6.out)
          obtain ⟨D, hD⟩ : ∃ D, c.set id dn = D := ⟨_, rfl⟩
          rw [hD] at HA
          have hDn : (c.set id dn).now = D.now := by rw [hD]
          have HDN := Lib.hid hDn
          clear hD hDn
          go_wp2_with fail
          clear hup q2 hM hA hM2 hA2 hq hq0 hq3
          have hcall := now_any b (b + 1) b D _ HA.out.st.rep
          rw [← HDN.out, show (c.set id dn).now = c.now from rfl] at hcall
          refine hcall.mono ?_
          rintro e wq ⟨rfl, rfl⟩
          clear hcall
          obtain ⟨GK, hGK⟩ : ∃ x, gk = x := ⟨_, rfl⟩
          have HGK := Lib.hid hGK
          rw [hGK] at hg
          clear hGK
          go_wp2_with fail
          go_loopg [11] 16 (fun gj iv wj => ∃ (j : Nat), gj + j = 16 ∧ iv = .int .i64 ((j : Int) - 4) ∧ Hid (ActAt w wj b mB D (i + 1)))
          case atStart => exact ⟨0, rfl, rfl, HA⟩
          case round =>
            obtain ⟨j, hgj, rfl, HJ⟩ := hrel
            by_cases hj : j < 16
            · have hjz : (j : Int) - 4 < 12 := by omega
              have hwJ : IntKind.i64.wrap ((j : Int) - 4 + 1) = ((j + 1 : Nat) : Int) - 4 := by rw [IntWalk.i64_in _ (by omega)]; omega
              obtain ⟨y, hy⟩ : ∃ y, (j : Int) - 4 = y := ⟨_, rfl⟩
              have hlk := HJ.out.map.rep.lookup_ok keyI64 Try.underlying35 (zeroInt wr) y
              rw [atF_get, atF_is] at hlk
              have hcall := at_any b (b + 1) b D y _ HJ.out.st.rep
              obtain ⟨t9, ht9⟩ : ∃ t, (D.at_ y).getD 0 = t := ⟨_, rfl⟩
              obtain ⟨f9, hf9⟩ : ∃ f, (D.at_ y).isSome = f := ⟨_, rfl⟩
              rw [ht9, hf9] at hlk hcall
              have HC9 := Lib.hid hcall
              simp only [i64V] at hlk
              rw [hy] at hjz hwJ
              try rw [hy]
              have HY := Lib.hid hy
              clear hcall ht9 hf9 hy
              go_wp2_with fail
              refine HC9.out.mono ?_
              rintro e wq ⟨rfl, rfl⟩
              go_wp2
              go_roundg (gk - 1)
              case rel => exact ⟨j + 1, by omega, (by first | rfl | (congr 1; omega)), HJ⟩
              case measure => omega
            · have hjz : ¬ (j : Int) - 4 < 12 := by omega
              go_wp2
              go_roundg (GK - 1)
              case rel => exact ⟨i + 1, D, by omega, by rw [← HDN.out]; rfl, rfl, HJ⟩
              case measure => have := HGK.out; omega
    · have hiz : ¬ (i : Int) < (n : Int) := by omega
      go_wp2
      go_ret
      exact ⟨rfl, HC.out.st.bel⟩
end Go.Proofs.Ytlhlbedbfjanhaa
