/- Locks' laws: play. -/
import Derived.Test.YteghcgiclpbkdaaDoorLkA
namespace Go.Proofs.YteghcgiclpbkdaaDoor
open Go.RowKit

/-- v is a slice that reads as the deeds l. -/
def LRead (w : World) (v : Value) (l : List LDeed) : Prop :=
  l.length ≤ 9223372036854775807 ∧ (∀ a ∈ l, a.OK) ∧ ∃ a cap, v = .slice a l.length cap ∧ l.length ≤ cap ∧ cap ≤ 9223372036854775807 ∧ (0 < l.length → ∃ b off, a = some ⟨b, off, none⟩ ∧
    ∀ i (h : i < l.length), w.cell? ⟨b, off + i * 3, none⟩ = some (.int .u8 l[i].k) ∧ w.cell? ⟨b, off + i * 3 + 1, none⟩ = some (.int .u8 l[i].i) ∧ w.cell? ⟨b, off + i * 3 + 2, none⟩ = some (.int .u8 l[i].m))
theorem LRead.below {w w2 : World} {v : Value} {l : List LDeed} (h : LRead w v l) (hb : Below w.heap.size w w2) : LRead w2 v l := by
  obtain ⟨hm, ho, a, cap, rfl, h1, h2, h⟩ := h
  refine ⟨hm, ho, a, cap, rfl, h1, h2, fun hl => ?_⟩
  obtain ⟨b, off, rfl, hc⟩ := h hl
  exact ⟨b, off, rfl, fun i hi => ⟨bcell hb (hc i hi).1, bcell hb (hc i hi).2.1, bcell hb (hc i hi).2.2⟩⟩

/-- What is asked of a queue behind each deed: it answers true, and leaves what is there alone. -/
def IsCL (f : Value) : Prop :=
  ∃ k, f = .func (.func k) #[] #[] ∧ (∀ args w1, (callFunc k args).run Tryd.prog w1 = .ok (.enter k args) w1) ∧ ∀ s B T q w1, ReachL s → LQ B T w1 q s →
    Calls Tryd.prog k (#[.pointer (some ⟨q, 0, none⟩)] ++ #[]) w1 fun e w2 => e = .returned (.bool true) ∧ Below w1.heap.size w1 w2

set_option maxHeartbeats 4000000 in
theorem lplay_any (v f : Value) (l : List LDeed) (w : World) (hv : LRead w v l) (hf : IsCL f) :
    Calls Tryd.prog 15 #[v, f] w fun e w' => ∃ q, e = .returned (.tuple #[.pointer (some ⟨q, 0, none⟩), .bool true]) ∧ LQ w.heap.size w'.heap.size w' q (runL (l.take 80)) ∧ ReachL (runL (l.take 80)) ∧ Below w.heap.size w w' := by
  have HV := Lib.hid hv
  obtain ⟨hm, hok, a, cap, rfl, hcap, hcap2, _⟩ := hv
  obtain ⟨kf, rfl, henter, hcall⟩ := hf
  have HC := Lib.hid hcall
  have hrp : ∀ k, ReachL (runL (l.take k)) := fun k => ⟨l.take k, fun a ha => hok a (List.mem_of_mem_take ha), rfl⟩
  have HRP := Lib.hid (And.intro hrp hok)
  clear hcall hrp hok
  go_enter Tryd.func15, Tryd.ntmps15
  go_wp2_with fail
  refine (lockNew_any _).mono ?_
  rintro e w2 ⟨rfl, hq, hb⟩
  obtain ⟨q, hqq⟩ : ∃ q, q = w.heap.size := ⟨_, rfl⟩
  have hq1 : LQ w.heap.size w2.heap.size w2 q ([], []) := by rw [hqq]; exact ⟨hq.mono (fun b h1 h2 => ⟨h2, h1⟩), Nat.le_refl _⟩
  rw [← hqq]
  clear hq hqq
  by_cases h80 : (l.length : Int) ≤ 80
  · have hte : l.take 80 = l.take l.length := by rw [List.take_of_length_le (by omega), List.take_length]
    have HTE := Lib.hid hte
    clear hte
    go_wp2
    go_loopg [20] l.length (fun m kv wr => ∃ k : Nat, kv = .int .i64 (k : Int) ∧ k + m = l.length ∧ LQ w.heap.size wr.heap.size wr q (runL (l.take k)) ∧ Below w.heap.size w wr)
    case atStart => exact ⟨0, rfl, by omega, hq1, hb⟩
    case round =>
      obtain ⟨k, rfl, hkm, hTr, hbr⟩ := hrel
      clear hq1 hb
      cases gk with
      | zero =>
        have hkn : ¬ ((k : Int) < (l.length : Int)) := by omega
        have hfin : Hid (LQ w.heap.size wr.heap.size wr q (runL (l.take 80)) ∧ ReachL (runL (l.take 80)) ∧ Below w.heap.size w wr) := Lib.hid ⟨by rw [HTE.out, show l.length = k by omega]; exact hTr, HRP.out.1 80, hbr⟩
        clear hTr hbr
        go_wp2
        go_ret2
        exact ⟨q, rfl, hfin.out⟩
      | succ m =>
        have hkn : (k : Int) < (l.length : Int) := by omega
        have hkl : k < l.length := by omega
        have hk0 : (0 : Int) ≤ (k : Int) := by omega
        obtain ⟨_, _, a2, cap2, e2, _, _, hvc⟩ := HV.out.below hbr
        injection e2 with e3 _ e4
        subst e3 e4
        obtain ⟨b, off, rfl, hc⟩ := hvc (by omega)
        obtain ⟨x0, x1, x2⟩ := hc k hkl
        obtain ⟨ac, hac⟩ : ∃ ac, ac = l[k] := ⟨_, rfl⟩
        rw [← hac] at x0 x1 x2
        have haok : ac.OK := by rw [hac]; exact HRP.out.2 _ (List.getElem_mem hkl)
        have hstep : runL (l.take (k + 1)) = stepL (runL (l.take k)) ac := by rw [List.take_succ_eq_append_getElem hkl, runL_snoc, hac]
        have hlen : (runL (l.take k)).1.length + (runL (l.take k)).2.length ≤ 1048576 := Nat.le_trans (reachL_len (HRP.out.1 k)) (by decide)
        have HK := Lib.hid (And.intro haok (And.intro hstep hlen))
        have hb1 : Below wr.heap.size wr (wr.alloc (.cells #[.int .u8 ac.k, .int .u8 ac.i, .int .u8 ac.m] 41)) := (Below.refl _ _).alloc (Nat.le_refl _) _
        have HT1 := Lib.hid (And.intro hTr (And.intro hbr hb1))
        have hk150 : 0 ≤ ac.k := haok.k.1
        clear hc hvc hac haok hstep hTr hbr hb1 hlen
        go_wp2_with fail
        refine (lof_any ac HK.out.1 _).mono ?_
        rintro e w3 ⟨rfl, hb3⟩
        have y0 : w3.cell? ⟨wr.heap.size, 0, none⟩ = some (.int .u8 ac.k) := bcell hb3 (by simp)
        have hb4 : Below wr.heap.size wr w3 := HT1.out.2.2.trans (hb3.mono (by simp))
        have HT3 := Lib.hid (And.intro (HT1.out.1.below hb4) (HT1.out.2.1.trans (hb4.mono HT1.out.2.1.size)))
        clear hb3 hb4 x0 x1 x2
        by_cases hkind : ac.k < 150
        · have hkd : decide (ac.k < 150) = true := by simpa using hkind
          have hst : stepL (runL (l.take k)) ac = askS (runL (l.take k)) ac.id ac.mode := by simp [stepL, hkind]
          go_wp2_with fail
          refine (lq_ask ac.id ac.mode HT3.out.1 HT3.out.2.size HK.out.2.2).mono ?_
          rintro e w4 ⟨err, rfl, hq4, hb4, _⟩
          rw [← hst, ← HK.out.2.1] at hq4
          have HT4 := Lib.hid (And.intro hq4 (HT3.out.2.trans hb4))
          clear hq4 hb4 hst
          go_wp2_with fail
          refine (HC.out _ _ _ q w4 (HRP.out.1 (k + 1)) HT4.out.1).mono ?_
          rintro e w5 ⟨rfl, hb5⟩
          have HT5 := Lib.hid (And.intro (HT4.out.1.below hb5).full (HT4.out.2.trans (hb5.mono HT4.out.2.size)))
          clear hb5
          go_wp2
          go_roundg m
          case measure => omega
          case rel => exact ⟨k + 1, by go_num, by omega, HT5.out⟩
        · have hkd : decide (ac.k < 150) = false := by simpa using hkind
          have hst : stepL (runL (l.take k)) ac = freeS (runL (l.take k)) ac.id := by simp [stepL, hkind]
          go_wp2_with fail
          refine (lq_free ac.id HT3.out.1 HK.out.2.2).mono ?_
          rintro e w4 ⟨vf, rfl, _, hq4, hO4⟩
          rw [← hst, ← HK.out.2.1] at hq4
          have HT4 := Lib.hid (And.intro hq4 (HT3.out.2.trans (hO4.lq HT3.out.2.size)))
          clear hq4 hO4 hst
          go_wp2_with fail
          refine (HC.out _ _ _ q w4 (HRP.out.1 (k + 1)) HT4.out.1).mono ?_
          rintro e w5 ⟨rfl, hb5⟩
          have HT5 := Lib.hid (And.intro (HT4.out.1.below hb5).full (HT4.out.2.trans (hb5.mono HT4.out.2.size)))
          clear hb5
          go_wp2
          go_roundg m
          case measure => omega
          case rel => exact ⟨k + 1, by go_num, by omega, HT5.out⟩
  · have hl80 : 80 ≤ l.length := by omega
    have hc80 : (80 : Int) ≤ (cap : Int) := by omega
    go_wp2
    go_loopg [20] 80 (fun m kv wr => ∃ k : Nat, kv = .int .i64 (k : Int) ∧ k + m = 80 ∧ LQ w.heap.size wr.heap.size wr q (runL (l.take k)) ∧ Below w.heap.size w wr)
    case atStart => exact ⟨0, rfl, by omega, hq1, hb⟩
    case round =>
      obtain ⟨k, rfl, hkm, hTr, hbr⟩ := hrel
      clear hq1 hb
      cases gk with
      | zero =>
        have hkn : ¬ ((k : Int) < (80 : Int)) := by omega
        have hfin : Hid (LQ w.heap.size wr.heap.size wr q (runL (l.take 80)) ∧ ReachL (runL (l.take 80)) ∧ Below w.heap.size w wr) := Lib.hid ⟨by rw [show 80 = k by omega]; exact hTr, HRP.out.1 80, hbr⟩
        clear hTr hbr
        go_wp2
        go_ret2
        exact ⟨q, rfl, hfin.out⟩
      | succ m =>
        have hkn : (k : Int) < (80 : Int) := by omega
        have hkl : k < l.length := by omega
        have hk0 : (0 : Int) ≤ (k : Int) := by omega
        obtain ⟨_, _, a2, cap2, e2, _, _, hvc⟩ := HV.out.below hbr
        injection e2 with e3 _ e4
        subst e3 e4
        obtain ⟨b, off, rfl, hc⟩ := hvc (by omega)
        obtain ⟨x0, x1, x2⟩ := hc k hkl
        obtain ⟨ac, hac⟩ : ∃ ac, ac = l[k] := ⟨_, rfl⟩
        rw [← hac] at x0 x1 x2
        have haok : ac.OK := by rw [hac]; exact HRP.out.2 _ (List.getElem_mem hkl)
        have hstep : runL (l.take (k + 1)) = stepL (runL (l.take k)) ac := by rw [List.take_succ_eq_append_getElem hkl, runL_snoc, hac]
        have hlen : (runL (l.take k)).1.length + (runL (l.take k)).2.length ≤ 1048576 := Nat.le_trans (reachL_len (HRP.out.1 k)) (by decide)
        have HK := Lib.hid (And.intro haok (And.intro hstep hlen))
        have hb1 : Below wr.heap.size wr (wr.alloc (.cells #[.int .u8 ac.k, .int .u8 ac.i, .int .u8 ac.m] 41)) := (Below.refl _ _).alloc (Nat.le_refl _) _
        have HT1 := Lib.hid (And.intro hTr (And.intro hbr hb1))
        have hk150 : 0 ≤ ac.k := haok.k.1
        clear hc hvc hac haok hstep hTr hbr hb1 hlen
        go_wp2_with fail
        refine (lof_any ac HK.out.1 _).mono ?_
        rintro e w3 ⟨rfl, hb3⟩
        have y0 : w3.cell? ⟨wr.heap.size, 0, none⟩ = some (.int .u8 ac.k) := bcell hb3 (by simp)
        have hb4 : Below wr.heap.size wr w3 := HT1.out.2.2.trans (hb3.mono (by simp))
        have HT3 := Lib.hid (And.intro (HT1.out.1.below hb4) (HT1.out.2.1.trans (hb4.mono HT1.out.2.1.size)))
        clear hb3 hb4 x0 x1 x2
        by_cases hkind : ac.k < 150
        · have hkd : decide (ac.k < 150) = true := by simpa using hkind
          have hst : stepL (runL (l.take k)) ac = askS (runL (l.take k)) ac.id ac.mode := by simp [stepL, hkind]
          go_wp2_with fail
          refine (lq_ask ac.id ac.mode HT3.out.1 HT3.out.2.size HK.out.2.2).mono ?_
          rintro e w4 ⟨err, rfl, hq4, hb4, _⟩
          rw [← hst, ← HK.out.2.1] at hq4
          have HT4 := Lib.hid (And.intro hq4 (HT3.out.2.trans hb4))
          clear hq4 hb4 hst
          go_wp2_with fail
          refine (HC.out _ _ _ q w4 (HRP.out.1 (k + 1)) HT4.out.1).mono ?_
          rintro e w5 ⟨rfl, hb5⟩
          have HT5 := Lib.hid (And.intro (HT4.out.1.below hb5).full (HT4.out.2.trans (hb5.mono HT4.out.2.size)))
          clear hb5
          go_wp2
          go_roundg m
          case measure => omega
          case rel => exact ⟨k + 1, by go_num, by omega, HT5.out⟩
        · have hkd : decide (ac.k < 150) = false := by simpa using hkind
          have hst : stepL (runL (l.take k)) ac = freeS (runL (l.take k)) ac.id := by simp [stepL, hkind]
          go_wp2_with fail
          refine (lq_free ac.id HT3.out.1 HK.out.2.2).mono ?_
          rintro e w4 ⟨vf, rfl, _, hq4, hO4⟩
          rw [← hst, ← HK.out.2.1] at hq4
          have HT4 := Lib.hid (And.intro hq4 (HT3.out.2.trans (hO4.lq HT3.out.2.size)))
          clear hq4 hO4 hst
          go_wp2_with fail
          refine (HC.out _ _ _ q w4 (HRP.out.1 (k + 1)) HT4.out.1).mono ?_
          rintro e w5 ⟨rfl, hb5⟩
          have HT5 := Lib.hid (And.intro (HT4.out.1.below hb5).full (HT4.out.2.trans (hb5.mono HT4.out.2.size)))
          clear hb5
          go_wp2
          go_roundg m
          case measure => omega
          case rel => exact ⟨k + 1, by go_num, by omega, HT5.out⟩
end Go.Proofs.YteghcgiclpbkdaaDoor
