/- The clock's Tick. -/
import Derived.Test.YtlhlbedbfjanhaaClH
namespace Go.Proofs.Ytlhlbedbfjanhaa
open Go.RowKit Go.Sort

set_option maxHeartbeats 8000000 in
set_option maxRecDepth 100000 in
theorem wtick_any (b p mb : Nat) (c : Clk) (n : Int) (N : Nat) (w : World) (h : WRep w b p mb c) (hc : c.OK) (hF : Few c N) (hN : N ≤ 400000) :
    Calls Try.prog 12 #[.pointer (some ⟨p, 0, none⟩), .int .i64 n] w fun e w' => ∃ v l, e = .returned v ∧ w'.ownsRow (w.heap.size + 1) 2 1 v l.length (i64s l) ∧ DueL c.at_ (c.next n) l ∧ WRep w' b p mb (c.tick n) ∧ Only (InW b) w w' ∧ w.heap.size + 1 ≤ w'.heap.size := by
  obtain ⟨M, hM⟩ : ∃ M, (if n < 0 then 0 else n) = M := ⟨_, rfl⟩
  obtain ⟨K, hK⟩ : ∃ K, (if 1048576 < M then 1048576 else M) = K := ⟨_, rfl⟩
  obtain ⟨nx, hnx⟩ : ∃ nx, (if 1099511627776 < c.now + K then 1099511627776 else c.now + K) = nx := ⟨_, rfl⟩
  have hM2 : max n 0 = M := by rw [← hM]; split <;> omega
  have hK2 : min M 1048576 = K := by rw [← hK]; split <;> omega
  have hnx2 : min (c.now + K) 1099511627776 = nx := by rw [← hnx]; split <;> omega
  obtain ⟨R, hR⟩ : ∃ R, (if 63 < nx - c.now then 63 else nx - c.now) = R := ⟨_, rfl⟩
  have hnext : c.next n = nx := by
    rw [← hnx, ← hK, ← hM]
    unfold Clk.next maxK maxT
    repeat' split
    all_goals omega
  have hin := Clk.next_in hc.weak n
  rw [hnext] at hin
  have hlo := hc.lo
  have hhi := hc.hi
  have hKb : 0 ≤ K ∧ K ≤ 1048576 := by
    rw [← hK, ← hM]
    repeat' split
    all_goals omega
  have hmt : maxT = 1099511627776 := rfl
  rw [hmt] at hin hhi
  have hwA : IntKind.i64.wrap (c.now + K) = c.now + K := IntWalk.i64_in _ (by omega)
  have hR2 : min (nx - c.now) 63 = R := by rw [← hR]; split <;> omega
  have hwD : IntKind.i64.wrap (nx - c.now) = nx - c.now := IntWalk.i64_in _ (by omega)
  have hRb : 0 ≤ R ∧ R ≤ 63 := by
    rw [← hR]
    split <;> omega
  have hwR : IntKind.i64.wrap (R + 1) = R + 1 := IntWalk.i64_in _ (by omega)
  obtain ⟨rr, hrr⟩ : ∃ rr : Nat, R + 1 = rr := ⟨(R + 1).toNat, by omega⟩
  have hrrw : rr = min (nx - c.now).toNat 63 + 1 := by
    rw [← hR] at hrr
    split at hrr <;> omega
  obtain ⟨W0, hW0⟩ : ∃ W, w.alloc (.cells #[.pointer (some ⟨p, 0, none⟩)] 25) = W := ⟨_, rfl⟩
  have hbx : Blk W0 w.heap.size 25 [.pointer (some ⟨p, 0, none⟩)] := by rw [← hW0]; exact heap_alloc_new w _
  have hr0 : WRep W0 b p mb c := by rw [← hW0]; exact h.alloc _
  have ho0 : Only (InW b) w W0 := by rw [← hW0]; exact Only.alloc _ w _
  have hs0 : W0.heap.size = w.heap.size + 1 := by rw [← hW0]; simp
  have hlow := h.top
  have hpb : p ≠ w.heap.size := by have := h.ps; omega
  have hps := h.ps
  have ho1 : Only (fun x => x = p) W0.drew (W0.drew.setCell ⟨p, 0, none⟩ (.int .i64 nx)) := Only.set1 _ _ _ _
  have h1 : T1 w (W0.drew.setCell ⟨p, 0, none⟩ (.int .i64 nx)) b p mb c nx 0 (.slice none 0 0) [] := by
    refine ⟨⟨rfl, .inl ⟨rfl, rfl⟩⟩, List.nodup_nil, fun id => by rw [win_zero]; simp, hr0.drew.mid nx (by omega) (by rw [hmt]; omega), ho0.trans ((Only.drew _ W0).trans (ho1.mono (fun x _ e => by unfold InW; omega))), ho1.cell (fun e => hpb e.symm) (hbx.cell 0), by have := ho1.size; have h3 : W0.drew.heap.size = W0.heap.size := rfl; omega, hlow⟩
  have k0 : W0.cell? ⟨w.heap.size, 0, none⟩ = some (.pointer (some ⟨p, 0, none⟩)) := hbx.cell 0
  have k1 : W0.cell? ⟨p, 0, none⟩ = some (.int .i64 c.now) := hr0.now0
  have HS := Lib.hid (And.intro (show W0.drew.cell? ⟨w.heap.size, 0, none⟩ = some (.pointer (some ⟨p, 0, none⟩)) from k0) (show W0.drew.cell? ⟨p, 0, none⟩ = some (.int .i64 c.now) from k1))
  have hfz : W0.drew.frozen? ⟨p, 0, none⟩ = false := hr0.blk.frozen 0
  obtain ⟨P, hP⟩ : ∃ P, w.heap.size = P := ⟨_, rfl⟩
  have H0 := Lib.hid (And.intro h1 (And.intro hW0 (And.intro hP (And.intro hc (And.intro hF (And.intro hN (And.intro hnext hrrw)))))))
  rw [hP] at HS k0
  have hrz : (rr : Int) ≤ 64 := by omega
  have hKK := Lib.hid (And.intro hin (And.intro hlo hhi))
  clear h1 hW0 hP hc hF hN hnext hrrw hbx hr0 ho0 hs0 ho1 hpb hps hlow h hKb hmt hRb hin hlo hhi
  go_enter Try.func12, Try.ntmps12
  rw [← H0.out.2.1] at k0 k1
  go_wp2_with fail
  rw [H0.out.2.1, H0.out.2.2.1]
  clear k0 k1
  refine AnyJ.begin (J := fun j => Nat.ble j 11) (S := fun W => W.cell? ⟨P, 0, none⟩ = some (.pointer (some ⟨p, 0, none⟩)) ∧ W.cell? ⟨p, 0, none⟩ = some (.int .i64 c.now)) (by kernel_rfl) rfl rfl ?_
  refine AnyJ.takeT [1, 2, 3, 4, 5, 6, 7, 8, 9] (by rfl) (i := 0) (v := .pointer (some ⟨p, 0, none⟩)) rfl rfl (by kernel_rfl) (by kernel_rfl) (by kernel_rfl) (by kernel_rfl) (fun _ _ _ h => h) (by rfl) ?_ HS.out ?_
  · intro W hW
    obtain ⟨s1, s2⟩ := hW
    go_simp
    try (with_reducible rfl)
  simp only [Act.put, List.setIfInBounds_toArray, List.set_cons_zero, List.set_cons_succ]
  refine AnyJ.takeT [0, 5, 6, 7, 10, 11] (by rfl) (i := 1) (v := .pointer (some ⟨p, 0, none⟩)) rfl rfl (by kernel_rfl) (by kernel_rfl) (by kernel_rfl) (by kernel_rfl) (fun _ _ _ h => h) (by rfl) ?_ HS.out ?_
  · intro W hW
    obtain ⟨s1, s2⟩ := hW
    go_simp
    try (with_reducible rfl)
  simp only [Act.put, List.setIfInBounds_toArray, List.set_cons_zero, List.set_cons_succ]
  refine AnyJ.takeT [0, 1, 5, 6, 7, 10, 11] (by rfl) (i := 2) (v := .pointer (some ⟨p, 0, none⟩)) rfl rfl (by kernel_rfl) (by kernel_rfl) (by kernel_rfl) (by kernel_rfl) (fun _ _ _ h => h) (by rfl) ?_ HS.out ?_
  · intro W hW
    obtain ⟨s1, s2⟩ := hW
    go_simp
    try (with_reducible rfl)
  simp only [Act.put, List.setIfInBounds_toArray, List.set_cons_zero, List.set_cons_succ]
  refine AnyJ.takeT [0, 1, 2, 5, 6, 7, 10, 11] (by rfl) (i := 3) (v := .pointer (some ⟨p, 0, none⟩)) rfl rfl (by kernel_rfl) (by kernel_rfl) (by kernel_rfl) (by kernel_rfl) (fun _ _ _ h => h) (by rfl) ?_ HS.out ?_
  · intro W hW
    obtain ⟨s1, s2⟩ := hW
    go_simp
    try (with_reducible rfl)
  simp only [Act.put, List.setIfInBounds_toArray, List.set_cons_zero, List.set_cons_succ]
  refine AnyJ.takeT [0, 1, 2, 3, 5, 6, 7, 10, 11] (by rfl) (i := 4) (v := .int .i64 c.now) rfl rfl (by kernel_rfl) (by kernel_rfl) (by kernel_rfl) (by kernel_rfl) (fun _ _ _ h => h) (by rfl) ?_ HS.out ?_
  · intro W hW
    obtain ⟨s1, s2⟩ := hW
    go_simp
    try (with_reducible rfl)
  simp only [Act.put, List.setIfInBounds_toArray, List.set_cons_zero, List.set_cons_succ]
  refine AnyJ.takeT [0, 1, 2, 3, 4, 10, 11] (by rfl) (i := 5) (v := .int .i64 n) rfl rfl (by kernel_rfl) (by kernel_rfl) (by kernel_rfl) (by kernel_rfl) (fun _ _ _ h => h) (by rfl) ?_ HS.out ?_
  · intro W hW
    obtain ⟨s1, s2⟩ := hW
    go_simp
    try (with_reducible rfl)
  simp only [Act.put, List.setIfInBounds_toArray, List.set_cons_zero, List.set_cons_succ]
  refine AnyJ.takeT [0, 1, 2, 3, 4, 5, 10, 11] (by rfl) (i := 6) (v := .int .i64 M) rfl rfl (by kernel_rfl) (by kernel_rfl) (by kernel_rfl) (by kernel_rfl) (fun _ _ _ h => h) (by rfl) ?_ HS.out ?_
  · intro W hW
    obtain ⟨s1, s2⟩ := hW
    go_simp
    try (with_reducible rfl)
  simp only [Act.put, List.setIfInBounds_toArray, List.set_cons_zero, List.set_cons_succ]
  refine AnyJ.takeT [0, 1, 2, 3, 4, 5, 6, 10, 11] (by rfl) (i := 7) (v := .int .i64 K) rfl rfl (by kernel_rfl) (by kernel_rfl) (by kernel_rfl) (by kernel_rfl) (fun _ _ _ h => h) (by rfl) ?_ HS.out ?_
  · intro W hW
    obtain ⟨s1, s2⟩ := hW
    go_simp
    try (with_reducible rfl)
  simp only [Act.put, List.setIfInBounds_toArray, List.set_cons_zero, List.set_cons_succ]
  refine AnyJ.takeT [0, 1, 2, 3, 4, 5, 6, 7, 10, 11] (by rfl) (i := 8) (v := .int .i64 (c.now + K)) rfl rfl (by kernel_rfl) (by kernel_rfl) (by kernel_rfl) (by kernel_rfl) (fun _ _ _ h => h) (by rfl) ?_ HS.out ?_
  · intro W hW
    obtain ⟨s1, s2⟩ := hW
    go_simp
    try (with_reducible rfl)
  simp only [Act.put, List.setIfInBounds_toArray, List.set_cons_zero, List.set_cons_succ]
  refine AnyJ.takeT [0, 1, 2, 3, 4, 5, 6, 7, 8, 10, 11] (by rfl) (i := 9) (v := .int .i64 nx) rfl rfl (by kernel_rfl) (by kernel_rfl) (by kernel_rfl) (by kernel_rfl) (fun _ _ _ h => h) (by rfl) ?_ HS.out ?_
  · intro W hW
    obtain ⟨s1, s2⟩ := hW
    go_simp
    try (with_reducible rfl)
  simp only [Act.put, List.setIfInBounds_toArray, List.set_cons_zero, List.set_cons_succ]
  refine AnyJ.takeT [0, 1, 2, 3, 4, 5, 6, 7, 8, 9] (by rfl) (i := 10) (v := .pointer (some ⟨p, 0, none⟩)) rfl rfl (by kernel_rfl) (by kernel_rfl) (by kernel_rfl) (by kernel_rfl) (fun _ _ _ h => h) (by rfl) ?_ HS.out ?_
  · intro W hW
    obtain ⟨s1, s2⟩ := hW
    go_simp
    try (with_reducible rfl)
  simp only [Act.put, List.setIfInBounds_toArray, List.set_cons_zero, List.set_cons_succ]
  refine AnyJ.takeT [0, 1, 2, 3, 4, 5, 6, 7, 8, 9, 10] (by rfl) (i := 11) (v := .pointer (some ⟨p, 0, none⟩)) rfl rfl (by kernel_rfl) (by kernel_rfl) (by kernel_rfl) (by kernel_rfl) (fun _ _ _ h => h) (by rfl) ?_ HS.out ?_
  · intro W hW
    obtain ⟨s1, s2⟩ := hW
    go_simp
    try (with_reducible rfl)
  simp only [Act.put, List.setIfInBounds_toArray, List.set_cons_zero, List.set_cons_succ]
  refine AnyJ.oneL (i := 12) (by kernel_rfl) rfl (fun K0 hK0 => ?_)
  have c0 := HS.out.2
  go_simp
  refine hK0.out _ _ (fun h => by cases h) ?_
  clear hK0 K0
  (try simp only [Act.put, List.setIfInBounds_toArray, List.set_cons_zero, List.set_cons_succ])
  refine AnyJ.done (by kernel_rfl) ?_
  obtain ⟨W1, hW1⟩ : ∃ W, (W0.setCell ⟨p, 0, none⟩ (.int .i64 nx)).drew = W := ⟨_, rfl⟩
  rw [hW1]
  have H1 := Lib.hid (show T1 w W1 b p mb c nx 0 (.slice none 0 0) [] by rw [← hW1]; exact H0.out.1)
  have q0 := H1.out.box
  have q1 := H1.out.rep.now0
  rw [H0.out.2.2.1] at q0
  simp only [Clk.mid] at q1
  clear hW1 HS hfz hM hK hnx hwA hM2 hK2 hnx2 c0
  go_wp2_with fail
  clear q0 q1 hR hR2 hwD hwR
  try rw [hrr]
  go_loopg [6, 34] rr (fun gk lv iv wr => ∃ (i : Nat) (l : List Int), gk + i = rr ∧ iv = .int .i64 i ∧ Hid (T1 w wr b p mb c nx i lv l))
  case atStart => exact ⟨0, [], by omega, rfl, H1⟩
  case round =>
    obtain ⟨i, l, hg, rfl, HT⟩ := hrel
    have q0 := HT.out.box
    rw [H0.out.2.2.1] at q0
    by_cases hi : i < rr
    · have hiz : (i : Int) < (rr : Int) := by omega
      have hwi : IntKind.i64.wrap (c.now + (i : Int)) = c.now + (i : Int) := IntWalk.i64_in _ (by have := hKK.out; omega)
      have hmd : Int.tmod (c.now + (i : Int)) 64 = (((c.now.toNat + i) % 64 : Nat) : Int) := by
        rw [mod64 _ (by have := hKK.out; omega)]
        have := hKK.out
        have e : (c.now + (i : Int)).toNat = c.now.toNat + i := by omega
        rw [e]
      have hwK : IntKind.i64.wrap ((i : Int) + 1) = ((i + 1 : Nat) : Int) := by rw [IntWalk.i64_in _ (by omega)]; omega
      obtain ⟨k, hk⟩ : ∃ k, (c.now.toNat + i) % 64 = k := ⟨_, rfl⟩
      rw [hk] at hmd
      have HK := Lib.hid hk
      have hle : l.length ≤ N := by
        obtain ⟨L, hL1, hL2⟩ := H0.out.2.2.2.2.1
        refine Nat.le_trans (sub_len HT.out.nd fun x hx => hL2 x ?_) hL1
        have := (HT.out.mem x).1 hx
        unfold winB at this
        cases hq : c.at_ x with
        | none => rw [hq] at this; cases this
        | some t => rfl
      have HL := Lib.hid hle
      clear hk hle
      go_wp2_with fail
      have hk64 : k < 64 := by rw [← HK.out]; omega
      have hbs : b + 66 ≤ w.heap.size + 1 := by have := HT.out.low; omega
      have hnn : l.length + N ≤ 1000000 := by have := HL.out; have := H0.out.2.2.2.2.2.1; omega
      have hcall := wdue_any b p mb _ k _ _ l N _ HT.out.rep hk64 HT.out.own hbs HT.out.top H0.out.2.2.2.2.1 hnn
      refine hcall.mono ?_
      clear hcall hk64 hbs hnn
      rintro e w2 ⟨v2, r, rfl, hown, hnd, hmem, hrep, honly⟩
      have HT2 := Lib.hid (HT.out.step H0.out.2.2.2.1 (by omega) hown hnd (by rw [HK.out]; exact hmem) hrep honly)
      clear hown hnd hmem hrep honly q0
      go_wp2
      go_roundg (gk - 1)
      case rel => exact ⟨i + 1, l ++ r, by omega, rfl, HT2⟩
      case measure => omega
    · have hiz : ¬ (i : Int) < (rr : Int) := by omega
      have hie : i = rr := by omega
      have hmem : ∀ k, k ∈ l ↔ isDue nx (c.at_ k) = true := fun k => by
        rw [HT.out.mem k, hie, H0.out.2.2.2.2.2.2.2, win_end H0.out.2.2.2.1 nx hKK.out.1.1]
      have HM := Lib.hid hmem
      have hle : l.length ≤ N := by
        obtain ⟨L, hL1, hL2⟩ := H0.out.2.2.2.2.1
        refine Nat.le_trans (sub_len HT.out.nd fun x hx => hL2 x ?_) hL1
        have := (HM.out x).1 hx
        cases hq : c.at_ x with
        | none => rw [hq] at this; cases this
        | some t => rfl
      have HL := Lib.hid hle
      clear hmem hle hie
      go_wp2_with fail
      have hl9 : l.length ≤ 1000000 := by have := HL.out; have := H0.out.2.2.2.2.2.1; omega
      have hbs : b + 66 ≤ w.heap.size + 1 := by have := HT.out.low; omega
      have hcall := wsort_any _ w.heap.size b p mb _ _ l _ HT.out.own hl9 HT.out.box HT.out.rep (fun e => by have := (own_lt HT.out.own e).1; omega) hbs
      rw [H0.out.2.2.1] at hcall
      refine hcall.mono ?_
      clear hcall hl9 hbs
      rintro e w2 ⟨rfl, hown, honly⟩
      obtain ⟨L2, hL2⟩ : ∃ L2, sortC (c.mid nx).at_ l = L2 := ⟨_, rfl⟩
      rw [hL2] at hown
      have hdl : DueL c.at_ nx L2 := by rw [← hL2]; exact sortC_due HT.out.nd HM.out
      have HD := Lib.hid hdl
      have HT2 := Lib.hid (T2.start HT.out (by rw [H0.out.2.2.1]; exact hown) honly)
      have hl2 : L2.length ≤ N := by
        rw [← hL2, sortC_length]; exact HL.out
      obtain ⟨m, hm⟩ : ∃ m, L2.length = m := ⟨_, rfl⟩
      have hfm := ownsRow_form HT2.out.own
      rw [hm] at hfm
      have hN := H0.out.2.2.2.2.2.1
      have HM2 := Lib.hid hm
      have hmN : m ≤ 400000 := by rw [← hm]; omega
      clear hown honly hdl hL2 q0 hm
      rcases hfm with ⟨rfl, rfl⟩ | ⟨g, cap, rfl⟩
      · go_wp2_with fail
        refine wp_loop_rounds 1 ?_
        rw [rounds_succ]
        go_wp2
        go_ret
        have hnil : L2 = [] := List.eq_nil_of_length_eq_zero HM2.out
        have hct := clears_tick c n L2 (by rw [H0.out.2.2.2.2.2.2.1]; exact HD.out.mem)
        rw [H0.out.2.2.2.2.2.2.1] at hct
        refine ⟨_, L2, rfl, HT2.out.own, by rw [H0.out.2.2.2.2.2.2.1]; exact HD.out, ?_, HT2.out.only, HT2.out.top⟩
        rw [← hct, hnil]
        have := HT2.out.rep
        rw [hnil] at this
        exact this
      · go_wp2_with fail
        go_loopg [50] m (fun gk iv wr => ∃ (i : Nat), gk + i = m ∧ iv = .int .i64 i ∧ Hid (T2 w wr b p mb c nx i (.slice (some ⟨g, 0, none⟩) m cap) L2))
        case atStart => exact ⟨0, by omega, rfl, HT2⟩
        case round =>
          rename_i i0 gk0 hg0
          obtain ⟨j, hg, rfl, HR⟩ := hrel
          have q0 := HR.out.box
          rw [H0.out.2.2.1] at q0
          by_cases hj : j < m
          · have hjz : (j : Int) < (m : Int) := by omega
            have hwK : IntKind.i64.wrap ((j : Int) + 1) = ((j + 1 : Nat) : Int) := by rw [IntWalk.i64_in _ (by omega)]; omega
            have hj2 : j < L2.length := by rw [HM2.out]; exact hj
            have hro := HR.out.own
            rw [HM2.out] at hro
            have q1 := (hro.cellAt j (by omega)).trans (i64s_at L2 j hj2)
            clear hro
            obtain ⟨id, hid⟩ : ∃ id, L2[j] = id := ⟨_, rfl⟩
            rw [hid] at q1
            have HI := Lib.hid hid
            clear hid
            go_wp2_with fail
            have hcall := clear_any b p mb _ id _ HR.out.rep
            refine hcall.mono ?_
            clear hcall
            rintro e w3 ⟨rfl, hrep, honly, hsz⟩
            have HR2 := Lib.hid (HR.out.step hj2 (by rw [HI.out]; exact hrep) honly)
            clear hrep honly hsz q0 q1
            go_wp2
            go_roundg (gk - 1)
            case rel => exact ⟨j + 1, by omega, rfl, HR2⟩
            case measure => omega
          · have hjz : ¬ (j : Int) < (m : Int) := by omega
            have hje : j = L2.length := by rw [HM2.out]; omega
            have hct := clears_tick c n L2 (by rw [H0.out.2.2.2.2.2.2.1]; exact HD.out.mem)
            rw [H0.out.2.2.2.2.2.2.1] at hct
            have hfin := HR.out.rep
            rw [hje, List.take_length, hct] at hfin
            have HE := Lib.hid (And.intro hfin HM2.out)
            clear hfin hct hje
            go_wp2
            go_ret
            refine ⟨_, rfl, L2, ?_, by rw [H0.out.2.2.2.2.2.2.1]; exact HD.out, HE.out.1, HR.out.only, HR.out.top⟩
            exact HR.out.own
end Go.Proofs.Ytlhlbedbfjanhaa
