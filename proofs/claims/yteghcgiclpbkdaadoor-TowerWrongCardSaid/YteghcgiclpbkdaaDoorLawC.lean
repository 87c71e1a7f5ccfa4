/- play. -/
import Derived.Test.YteghcgiclpbkdaaDoorLawB
import Derived.Test.YteghcgiclpbkdaaDoorLawG
namespace Go.Proofs.YteghcgiclpbkdaaDoor
open Go.RowKit

theorem things_odd {ss : List ByteArray} (h : ss ∈ thingsL) : ss.any oddB = false := by
  simp [thingsL] at h
  rcases h with rfl | rfl | rfl | rfl | rfl | rfl <;> decide +kernel

/-- v is a slice that reads as the deeds l. -/
def ARead (w : World) (v : Value) (l : List Deed) : Prop :=
  l.length ≤ 9223372036854775807 ∧ (∀ a ∈ l, a.OK) ∧ ∃ a cap, v = .slice a l.length cap ∧ l.length ≤ cap ∧ cap ≤ 9223372036854775807 ∧ (0 < l.length → ∃ b off, a = some ⟨b, off, none⟩ ∧
    ∀ i (h : i < l.length), w.cell? ⟨b, off + i * 4, none⟩ = some (.int .u8 l[i].k) ∧ w.cell? ⟨b, off + i * 4 + 1, none⟩ = some (.int .u8 l[i].i) ∧ w.cell? ⟨b, off + i * 4 + 2, none⟩ = some (.int .u8 l[i].n) ∧ w.cell? ⟨b, off + i * 4 + 3, none⟩ = some (.int .u8 l[i].m))
theorem ARead.below {w w2 : World} {v : Value} {l : List Deed} (h : ARead w v l) (hb : Below w.heap.size w w2) : ARead w2 v l := by
  obtain ⟨hm, ho, a, cap, rfl, h1, h2, h⟩ := h
  refine ⟨hm, ho, a, cap, rfl, h1, h2, fun hl => ?_⟩
  obtain ⟨b, off, rfl, hc⟩ := h hl
  exact ⟨b, off, rfl, fun i hi => ⟨bcell hb (hc i hi).1, bcell hb (hc i hi).2.1, bcell hb (hc i hi).2.2.1, bcell hb (hc i hi).2.2.2⟩⟩

/-- What is asked of a tower behind each deed: it answers true, and leaves what is there alone. -/
def IsC (f : Value) : Prop :=
  ∃ k, f = .func (.func k) #[] #[] ∧ (∀ args w1, (callFunc k args).run Tryd.prog w1 = .ok (.enter k args) w1) ∧ ∀ σ F t w1, Reach σ → TRep F w1 t σ →
    Calls Tryd.prog k (#[ptrV t] ++ #[]) w1 fun e w2 => e = .returned (.bool true) ∧ Below w1.heap.size w1 w2

def ReachOK : Prop := ∀ σ, Reach σ → WF I12 σ ∧ WaitIn σ none

theorem runD_snoc (l : List Deed) (a : Deed) : runD (l ++ [a]) = stepD (runD l) a := by simp [runD]

set_option maxHeartbeats 4000000 in
theorem play_any (hR : ReachOK) (v f : Value) (l : List Deed) (w : World) (hv : ARead w v l) (hf : IsC f) :
    Calls Tryd.prog 45 #[v, f] w fun e w' => ∃ t, e = .returned (.tuple #[ptrV t, .bool true]) ∧ TRep (fun b => w.heap.size ≤ b) w' t (runD (l.take 80)) ∧ Reach (runD (l.take 80)) ∧ Below w.heap.size w w' := by
  have HV := Lib.hid hv
  obtain ⟨hm, hok, a, cap, rfl, hcap, hcap2, _⟩ := hv
  obtain ⟨kf, rfl, henter, hcall⟩ := hf
  have HC := Lib.hid hcall
  have HR := Lib.hid hR
  have hrp : ∀ k, Reach (runD (l.take k)) := fun k => ⟨l.take k, fun a ha => hok a (List.mem_of_mem_take ha), rfl⟩
  have HRP := Lib.hid (And.intro hrp hok)
  obtain ⟨n, hn⟩ : ∃ n, n = min l.length 80 := ⟨_, rfl⟩
  have hn1 : n ≤ l.length := by omega
  have hn2 : n ≤ 80 := by omega
  have HN := Lib.hid hn
  clear hcall hR hrp hok
  go_enter Tryd.func45, Tryd.ntmps45
  go_wp2_with fail
  refine (towerNew_any _).mono ?_
  rintro e w2 ⟨t, rfl, hT, hb⟩
  unfold ptrV
  by_cases h80 : (l.length : Int) ≤ 80
  · have hte : l.take 80 = l.take l.length := by rw [List.take_of_length_le (by omega), List.take_length]
    have HTE := Lib.hid hte
    clear hte
    go_wp2
    go_loopg [21] l.length (fun m kv wr => ∃ k : Nat, kv = .int .i64 (k : Int) ∧ k + m = l.length ∧ TRep (fun b => w.heap.size ≤ b) wr t (runD (l.take k)) ∧ Below w.heap.size w wr)
    case atStart => exact ⟨0, rfl, by omega, hT, hb⟩
    case round =>
      obtain ⟨k, rfl, hkm, hTr, hbr⟩ := hrel
      clear hT hb
      cases gk with
      | zero =>
        have hkn : ¬ ((k : Int) < (l.length : Int)) := by omega
        have hfin : Hid (TRep (fun b => w.heap.size ≤ b) wr t (runD (l.take 80)) ∧ Reach (runD (l.take 80)) ∧ Below w.heap.size w wr) := Lib.hid ⟨by rw [HTE.out, show l.length = k by omega]; exact hTr, HRP.out.1 80, hbr⟩
        clear hTr hbr
        go_wp2
        go_ret2
        exact ⟨t, rfl, hfin.out⟩
      | succ m =>
        have hkn : (k : Int) < (l.length : Int) := by omega
        have hkl : k < l.length := by omega
        have hk0 : (0 : Int) ≤ (k : Int) := by omega
        obtain ⟨_, _, a2, cap2, e2, _, _, hvc⟩ := HV.out.below hbr
        injection e2 with e3 _ e4
        subst e3 e4
        obtain ⟨b, off, rfl, hc⟩ := hvc (by omega)
        obtain ⟨x0, x1, x2, x3⟩ := hc k hkl
        obtain ⟨ac, hac⟩ : ∃ ac, ac = l[k] := ⟨_, rfl⟩
        rw [← hac] at x0 x1 x2 x3
        have haok : ac.OK := by rw [hac]; exact HRP.out.2 _ (List.getElem_mem hkl)
        have hstep : runD (l.take (k + 1)) = stepD (runD (l.take k)) ac := by rw [List.take_succ_eq_append_getElem hkl, runD_snoc, hac]
        have HK := Lib.hid (And.intro haok hstep)
        have hb1 : Below wr.heap.size wr (wr.alloc (.cells #[.int .u8 ac.k, .int .u8 ac.i, .int .u8 ac.n, .int .u8 ac.m] 69)) := (Below.refl _ _).alloc (Nat.le_refl _) _
        have HT1 := Lib.hid (And.intro hTr (And.intro hbr hb1))
        have hk150 : 0 ≤ ac.k := haok.k.1
        clear hc hvc hac haok hstep hTr hbr hb1
        go_wp2_with fail
        refine (of_any ac HK.out.1 _).mono ?_
        rintro e w3 ⟨vn, rfl, hvn, hb3⟩
        have y0 : w3.cell? ⟨wr.heap.size, 0, none⟩ = some (.int .u8 ac.k) := bcell hb3 (by simp)
        have hb4 : Below wr.heap.size wr w3 := HT1.out.2.2.trans (hb3.mono (by simp))
        have HT3 := Lib.hid (And.intro (HT1.out.1.below hb4) (And.intro (HT1.out.2.1.trans (hb4.mono HT1.out.2.1.size)) hvn))
        clear hb3 hb4 hvn x0 x1 x2 x3
        have hsz : w.heap.size ≤ w3.heap.size := HT3.out.2.1.size
        by_cases hkind : ac.k < 150
        · have hkd : decide (ac.k < 150) = true := by simpa using hkind
          go_wp2_with fail
          obtain ⟨mq, mw, tag, qb, cb, hTA⟩ := HT3.out.1
          have hmo := intentI_ok (m := ac.mode) Deed.mode_ok
          have hln := things_len (Deed.names_mem HK.out.1)
          have hod := things_odd (Deed.names_mem HK.out.1)
          have hwf := HR.out _ (HRP.out.1 k)
          cases hth : (runD (l.take k)).there ac.id with
          | true =>
            have hst : stepD (runD (l.take k)) ac = runD (l.take k) := by simp [stepD, hkind, hth]
            refine (task_twice ac.id ac.mode vn ac.names hmo HT3.out.2.2 hln hod hTA hth).mono ?_
            rintro e w4 ⟨err, rfl, _, hb4⟩
            have hT4 : TRep (fun b => w.heap.size ≤ b) w4 t (runD (l.take (k + 1))) := by rw [HK.out.2, hst]; exact HT3.out.1.below hb4
            have HT4 := Lib.hid (And.intro hT4 (HT3.out.2.1.trans (hb4.mono hsz)))
            clear hT4 hb4 hst hTA hmo hln hod hwf hth
            go_wp2_with fail
            refine (HC.out _ _ t w4 (HRP.out.1 (k + 1)) HT4.out.1).mono ?_
            rintro e w5 ⟨rfl, hb5⟩
            have hsz4 : w.heap.size ≤ w4.heap.size := HT4.out.2.size
            have HT5 := Lib.hid (And.intro (HT4.out.1.below hb5) (HT4.out.2.trans (hb5.mono hsz4)))
            clear hb5
            go_wp2
            go_roundg m
            case measure => omega
            case rel => exact ⟨k + 1, by go_num, by omega, HT5.out⟩
          | false =>
            have hst : stepD (runD (l.take k)) ac = (startT (runD (l.take k)) ac.id ac.names ac.mode).1 := by simp [stepD, hkind, hth]
            refine (task_ok ac.id ac.mode vn ac.names I12 (by decide) (Deed.id_mem HK.out.1) hwf.1 hmo HT3.out.2.2 hln hod hTA hth).mono ?_
            rintro e w4 ⟨rfl, hT4', hO4⟩
            have hT4 : TRep (fun b => w.heap.size ≤ b) w4 t (runD (l.take (k + 1))) := by
              rw [HK.out.2, hst]
              exact hT4'.mono (fun b _ hb => by rcases hb with h | h <;> omega)
            have HT4 := Lib.hid (And.intro hT4 (HT3.out.2.1.trans (hO4.below hsz (fun k2 hk2 h => by omega))))
            clear hT4 hT4' hO4 hst hTA hmo hln hod hwf hth
            go_wp2_with fail
            refine (HC.out _ _ t w4 (HRP.out.1 (k + 1)) HT4.out.1).mono ?_
            rintro e w5 ⟨rfl, hb5⟩
            have hsz4 : w.heap.size ≤ w4.heap.size := HT4.out.2.size
            have HT5 := Lib.hid (And.intro (HT4.out.1.below hb5) (HT4.out.2.trans (hb5.mono hsz4)))
            clear hb5
            go_wp2
            go_roundg m
            case measure => omega
            case rel => exact ⟨k + 1, by go_num, by omega, HT5.out⟩
        · have hkd : decide (ac.k < 150) = false := by simpa using hkind
          have hst : stepD (runD (l.take k)) ac = (freeT (runD (l.take k)) ac.id).1 := by simp [stepD, hkind]
          go_wp2_with fail
          obtain ⟨mq, mw, tag, qb, cb, hTA⟩ := HT3.out.1
          have hwf := HR.out _ (HRP.out.1 k)
          refine (tfree_any ac.id I12 (by decide) hTA hwf.1 hwf.2).mono ?_
          rintro e w4 ⟨vf, rfl, hvf, hT4', hO4⟩
          have hT4 : TRep (fun b => w.heap.size ≤ b) w4 t (runD (l.take (k + 1))) := by
            rw [HK.out.2, hst]
            exact hT4'.mono (fun b _ hb => by rcases hb with h | h <;> omega)
          have HT4 := Lib.hid (And.intro hT4 (HT3.out.2.1.trans (hO4.below hsz (fun k2 hk2 h => by omega))))
          clear hT4 hT4' hO4 hst hTA hwf hvf
          go_wp2_with fail
          refine (HC.out _ _ t w4 (HRP.out.1 (k + 1)) HT4.out.1).mono ?_
          rintro e w5 ⟨rfl, hb5⟩
          have hsz4 : w.heap.size ≤ w4.heap.size := HT4.out.2.size
          have HT5 := Lib.hid (And.intro (HT4.out.1.below hb5) (HT4.out.2.trans (hb5.mono hsz4)))
          clear hb5
          go_wp2
          go_roundg m
          case measure => omega
          case rel => exact ⟨k + 1, by go_num, by omega, HT5.out⟩
  · have hl80 : 80 ≤ l.length := by omega
    have hc80 : (80 : Int) ≤ (cap : Int) := by omega
    go_wp2
    go_loopg [21] 80 (fun m kv wr => ∃ k : Nat, kv = .int .i64 (k : Int) ∧ k + m = 80 ∧ TRep (fun b => w.heap.size ≤ b) wr t (runD (l.take k)) ∧ Below w.heap.size w wr)
    case atStart => exact ⟨0, rfl, by omega, hT, hb⟩
    case round =>
      obtain ⟨k, rfl, hkm, hTr, hbr⟩ := hrel
      clear hT hb
      cases gk with
      | zero =>
        have hkn : ¬ ((k : Int) < (80 : Int)) := by omega
        have hfin : Hid (TRep (fun b => w.heap.size ≤ b) wr t (runD (l.take 80)) ∧ Reach (runD (l.take 80)) ∧ Below w.heap.size w wr) := Lib.hid ⟨by rw [show 80 = k by omega]; exact hTr, HRP.out.1 80, hbr⟩
        clear hTr hbr
        go_wp2
        go_ret2
        exact ⟨t, rfl, hfin.out⟩
      | succ m =>
        have hkn : (k : Int) < (80 : Int) := by omega
        have hkl : k < l.length := by omega
        have hk0 : (0 : Int) ≤ (k : Int) := by omega
        obtain ⟨_, _, a2, cap2, e2, _, _, hvc⟩ := HV.out.below hbr
        injection e2 with e3 _ e4
        subst e3 e4
        obtain ⟨b, off, rfl, hc⟩ := hvc (by omega)
        obtain ⟨x0, x1, x2, x3⟩ := hc k hkl
        obtain ⟨ac, hac⟩ : ∃ ac, ac = l[k] := ⟨_, rfl⟩
        rw [← hac] at x0 x1 x2 x3
        have haok : ac.OK := by rw [hac]; exact HRP.out.2 _ (List.getElem_mem hkl)
        have hstep : runD (l.take (k + 1)) = stepD (runD (l.take k)) ac := by rw [List.take_succ_eq_append_getElem hkl, runD_snoc, hac]
        have HK := Lib.hid (And.intro haok hstep)
        have hb1 : Below wr.heap.size wr (wr.alloc (.cells #[.int .u8 ac.k, .int .u8 ac.i, .int .u8 ac.n, .int .u8 ac.m] 69)) := (Below.refl _ _).alloc (Nat.le_refl _) _
        have HT1 := Lib.hid (And.intro hTr (And.intro hbr hb1))
        have hk150 : 0 ≤ ac.k := haok.k.1
        clear hc hvc hac haok hstep hTr hbr hb1
        go_wp2_with fail
        refine (of_any ac HK.out.1 _).mono ?_
        rintro e w3 ⟨vn, rfl, hvn, hb3⟩
        have y0 : w3.cell? ⟨wr.heap.size, 0, none⟩ = some (.int .u8 ac.k) := bcell hb3 (by simp)
        have hb4 : Below wr.heap.size wr w3 := HT1.out.2.2.trans (hb3.mono (by simp))
        have HT3 := Lib.hid (And.intro (HT1.out.1.below hb4) (And.intro (HT1.out.2.1.trans (hb4.mono HT1.out.2.1.size)) hvn))
        clear hb3 hb4 hvn x0 x1 x2 x3
        have hsz : w.heap.size ≤ w3.heap.size := HT3.out.2.1.size
        by_cases hkind : ac.k < 150
        · have hkd : decide (ac.k < 150) = true := by simpa using hkind
          go_wp2_with fail
          obtain ⟨mq, mw, tag, qb, cb, hTA⟩ := HT3.out.1
          have hmo := intentI_ok (m := ac.mode) Deed.mode_ok
          have hln := things_len (Deed.names_mem HK.out.1)
          have hod := things_odd (Deed.names_mem HK.out.1)
          have hwf := HR.out _ (HRP.out.1 k)
          cases hth : (runD (l.take k)).there ac.id with
          | true =>
            have hst : stepD (runD (l.take k)) ac = runD (l.take k) := by simp [stepD, hkind, hth]
            refine (task_twice ac.id ac.mode vn ac.names hmo HT3.out.2.2 hln hod hTA hth).mono ?_
            rintro e w4 ⟨err, rfl, _, hb4⟩
            have hT4 : TRep (fun b => w.heap.size ≤ b) w4 t (runD (l.take (k + 1))) := by rw [HK.out.2, hst]; exact HT3.out.1.below hb4
            have HT4 := Lib.hid (And.intro hT4 (HT3.out.2.1.trans (hb4.mono hsz)))
            clear hT4 hb4 hst hTA hmo hln hod hwf hth
            go_wp2_with fail
            refine (HC.out _ _ t w4 (HRP.out.1 (k + 1)) HT4.out.1).mono ?_
            rintro e w5 ⟨rfl, hb5⟩
            have hsz4 : w.heap.size ≤ w4.heap.size := HT4.out.2.size
            have HT5 := Lib.hid (And.intro (HT4.out.1.below hb5) (HT4.out.2.trans (hb5.mono hsz4)))
            clear hb5
            go_wp2
            go_roundg m
            case measure => omega
            case rel => exact ⟨k + 1, by go_num, by omega, HT5.out⟩
          | false =>
            have hst : stepD (runD (l.take k)) ac = (startT (runD (l.take k)) ac.id ac.names ac.mode).1 := by simp [stepD, hkind, hth]
            refine (task_ok ac.id ac.mode vn ac.names I12 (by decide) (Deed.id_mem HK.out.1) hwf.1 hmo HT3.out.2.2 hln hod hTA hth).mono ?_
            rintro e w4 ⟨rfl, hT4', hO4⟩
            have hT4 : TRep (fun b => w.heap.size ≤ b) w4 t (runD (l.take (k + 1))) := by
              rw [HK.out.2, hst]
              exact hT4'.mono (fun b _ hb => by rcases hb with h | h <;> omega)
            have HT4 := Lib.hid (And.intro hT4 (HT3.out.2.1.trans (hO4.below hsz (fun k2 hk2 h => by omega))))
            clear hT4 hT4' hO4 hst hTA hmo hln hod hwf hth
            go_wp2_with fail
            refine (HC.out _ _ t w4 (HRP.out.1 (k + 1)) HT4.out.1).mono ?_
            rintro e w5 ⟨rfl, hb5⟩
            have hsz4 : w.heap.size ≤ w4.heap.size := HT4.out.2.size
            have HT5 := Lib.hid (And.intro (HT4.out.1.below hb5) (HT4.out.2.trans (hb5.mono hsz4)))
            clear hb5
            go_wp2
            go_roundg m
            case measure => omega
            case rel => exact ⟨k + 1, by go_num, by omega, HT5.out⟩
        · have hkd : decide (ac.k < 150) = false := by simpa using hkind
          have hst : stepD (runD (l.take k)) ac = (freeT (runD (l.take k)) ac.id).1 := by simp [stepD, hkind]
          go_wp2_with fail
          obtain ⟨mq, mw, tag, qb, cb, hTA⟩ := HT3.out.1
          have hwf := HR.out _ (HRP.out.1 k)
          refine (tfree_any ac.id I12 (by decide) hTA hwf.1 hwf.2).mono ?_
          rintro e w4 ⟨vf, rfl, hvf, hT4', hO4⟩
          have hT4 : TRep (fun b => w.heap.size ≤ b) w4 t (runD (l.take (k + 1))) := by
            rw [HK.out.2, hst]
            exact hT4'.mono (fun b _ hb => by rcases hb with h | h <;> omega)
          have HT4 := Lib.hid (And.intro hT4 (HT3.out.2.1.trans (hO4.below hsz (fun k2 hk2 h => by omega))))
          clear hT4 hT4' hO4 hst hTA hwf hvf
          go_wp2_with fail
          refine (HC.out _ _ t w4 (HRP.out.1 (k + 1)) HT4.out.1).mono ?_
          rintro e w5 ⟨rfl, hb5⟩
          have hsz4 : w.heap.size ≤ w4.heap.size := HT4.out.2.size
          have HT5 := Lib.hid (And.intro (HT4.out.1.below hb5) (HT4.out.2.trans (hb5.mono hsz4)))
          clear hb5
          go_wp2
          go_roundg m
          case measure => omega
          case rel => exact ⟨k + 1, by go_num, by omega, HT5.out⟩
end Go.Proofs.YteghcgiclpbkdaaDoor
