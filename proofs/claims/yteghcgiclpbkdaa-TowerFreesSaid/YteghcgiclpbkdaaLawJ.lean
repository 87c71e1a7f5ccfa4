/- TowerFrees: the law's walk. -/
import Derived.Test.YteghcgiclpbkdaaLawI
import Derived.Test.YteghcgiclpbkdaaMapL
import Derived.Test.YteghcgiclpbkdaaApp
namespace Go.Proofs.Yteghcgiclpbkdaa
open Go.RowKit

theorem zeroBool (w : World) : (zeroValue 4).run Try.prog w = .ok (.bool false) w := by kernel_rfl

theorem I12_mem {i : Nat} (h : i < 12) : (i : Int) ∈ I12 := by
  have : i = 0 ∨ i = 1 ∨ i = 2 ∨ i = 3 ∨ i = 4 ∨ i = 5 ∨ i = 6 ∨ i = 7 ∨ i = 8 ∨ i = 9 ∨ i = 10 ∨ i = 11 := by omega
  rcases this with rfl | rfl | rfl | rfl | rfl | rfl | rfl | rfl | rfl | rfl | rfl | rfl <;> simp [I12]

theorem own_blk_ge {w : World} {b : Nat} {e : TypeId} {size n : Nat} {v : Value} {xs : List Value} (h : w.ownsRow b e size v n xs) {k : Nat} (hk : v.ownBlock = some k) : b ≤ k := by
  obtain ⟨_, h⟩ := h
  rcases h with ⟨h, _⟩ | ⟨g, cap2, cur, h, hb, _⟩
  · rw [h] at hk; simp [Value.ownBlock] at hk
  · rw [h] at hk
    simp only [Value.ownBlock, Option.some.injEq] at hk
    omega

set_option maxRecDepth 100000 in
set_option maxHeartbeats 4000000 in
theorem frees_law (v : Value) (l : List Deed) (a : Int) (w : World) (hv : ARead w v l) (ha : 0 ≤ a ∧ a ≤ 255) :
    Calls Try.prog 6 #[v, .int .u8 a] w fun e w' => e = .returned (.bool true) ∧ Below w.heap.size w w' := by
  have HV := Lib.hid hv
  clear hv
  have hmm := @run_makeMap Try.prog
  obtain ⟨a0, a1⟩ := ha
  have t1 : a.tmod 12 = a % 12 := Int.tmod_eq_emod_of_nonneg a0
  have u1 : IntKind.i64.wrap (a % 12) = a % 12 := IntWalk.i64_in _ (by omega)
  go_enter Try.func6, Try.ntmps6
  go_wp2_with fail
  refine (awake_any reach_ok _).mono ?_
  rintro e w1 ⟨rfl, hb⟩
  have HB := Lib.hid hb
  clear hb
  go_wp2_with fail
  refine (play_any reach_ok v _ l w1 (HV.out.below HB.out) true_isC2).mono ?_
  rintro e w2 ⟨t, rfl, hT, hr, hb2⟩
  obtain ⟨σ, hσ⟩ : ∃ σ, σ = runD (l.take 80) := ⟨_, rfl⟩
  rw [← hσ] at hT hr
  have HI := Lib.hid (reach_inv hr)
  have HT := Lib.hid (And.intro (hT.mono (G := fun b => w.heap.size ≤ b) (fun b _ h => Nat.le_trans HB.out.size h)) (HB.out.trans (hb2.mono HB.out.size)))
  clear hT hr hb2 hσ
  unfold ptrV
  have HT0 := Lib.hid (And.intro HT.out.1.shrink HT.out.2)
  go_wp2
  clear hmm
  have hk0 : (0 : Int) ≤ a % 12 := by omega
  have hk12 : a % 12 < 12 := by omega
  obtain ⟨q, hq⟩ : ∃ q, q = a % 12 := ⟨_, rfl⟩
  rw [← hq] at hk0 hk12
  rw [← hq]
  clear t1 u1
  have hqm : q ∈ I12 := by
    have : q = 0 ∨ q = 1 ∨ q = 2 ∨ q = 3 ∨ q = 4 ∨ q = 5 ∨ q = 6 ∨ q = 7 ∨ q = 8 ∨ q = 9 ∨ q = 10 ∨ q = 11 := by omega
    unfold I12
    rcases this with h | h | h | h | h | h | h | h | h | h | h | h <;> simp [h]
  have HQM := Lib.hid (And.intro hqm (And.intro hk0 hk12))
  clear hqm hk0 hk12 hq
  go_loopg [9] 12 (fun m iv wr => ∃ i : Nat, iv = .int .i64 (i : Int) ∧ i + m = 12 ∧ MapRep i64V wr w2.heap.size (fun k => if k ∈ I12.take i then some (.bool (σ.wholeB k)) else none) ∧ TRep (fun b => w.heap.size ≤ b ∧ b < w2.heap.size) wr t σ ∧ Below w.heap.size w wr)
  case atStart => exact ⟨0, rfl, rfl, (MapRep.made w2).congr (fun k => by simp), HT0.out.1.below ((Below.refl _ _).alloc (Nat.le_refl _) _), HT0.out.2.alloc HT0.out.2.size _⟩
  case round =>
    obtain ⟨i, rfl, him, hM, hTi, hBi⟩ := hrel
    have HQ := Lib.hid (And.intro hM (And.intro hTi hBi))
    clear hM hTi hBi
    cases gk with
    | zero =>
      have hin : ¬ ((i : Int) < (12 : Int)) := by omega
      have hi12 : I12.take i = I12 := by rw [show i = 12 by omega]; rfl
      have HM : Hid (MapRep i64V wr w2.heap.size (fun k => if k ∈ I12 then some (.bool (σ.wholeB k)) else none)) := Lib.hid (by rw [← hi12]; exact HQ.out.1)
      clear hi12
      go_wp2_with fail
      obtain ⟨mq, mw, tag, qb, cb, hTA⟩ := HQ.out.2.1
      refine (tfree_any q I12 (by decide) hTA HI.out.wf HI.out.wi).mono ?_
      rintro e w5 ⟨v8, rfl, hv8, hT5, hO5⟩
      obtain ⟨σ2, hσ2⟩ : ∃ σ2, σ2 = (freeT σ q).1 := ⟨_, rfl⟩
      obtain ⟨L, hL⟩ : ∃ L, L = (freeT σ q).2 := ⟨_, rfl⟩
      have hfacts := freeT_facts HI.out HQM.out.1
      rw [← hσ2, ← hL] at hfacts
      have HF := Lib.hid hfacts
      rw [← hL] at hv8
      rw [← hσ2] at hT5
      have hw5 : w.heap.size ≤ wr.heap.size := HQ.out.2.2.size
      have H5 : Hid (TRep (fun b => w.heap.size ≤ b ∧ b < w5.heap.size) w5 t σ2 ∧ MapRep i64V w5 w2.heap.size (fun k => if k ∈ I12 then some (.bool (σ.wholeB k)) else none) ∧ IRead w5 v8 L ∧ Below w.heap.size w w5) := Lib.hid ⟨hT5.mono (fun b hb h => ⟨by rcases h with h | h <;> omega, hb⟩), HM.out.only hO5 (by simp), iread_of_own hv8, HQ.out.2.2.trans (hO5.below hw5 (fun k hk h => by have := h.1; omega))⟩
      clear hT5 hO5 hfacts hσ2 hL hTA hw5
      obtain ⟨_, a8, c8, rfl, _⟩ := iread_of_own hv8
      clear hv8
      have hmm := @run_makeMap Try.prog
      go_wp2
      clear hmm
      go_loopg [45] L.length (fun m kv wr => ∃ j : Nat, kv = .int .i64 (j : Int) ∧ j + m = L.length ∧ MapRep i64V wr w5.heap.size (fun k => if k ∈ L.take j then some (.bool true) else none) ∧ Below w5.heap.size w5 wr)
      case atStart => exact ⟨0, rfl, by omega, (MapRep.made w5).congr (fun k => by simp), (Below.refl _ _).alloc (Nat.le_refl _) _⟩
      case round =>
        obtain ⟨j, rfl, hjm, hMj, hBj⟩ := hrel
        have HJ := Lib.hid (And.intro hMj hBj)
        clear hMj hBj
        cases gk with
        | zero =>
          have hjn : ¬ ((j : Int) < (L.length : Int)) := by omega
          have HT8 := Lib.hid (And.intro (H5.out.1.below HJ.out.2) (And.intro (H5.out.2.1.only (Only.ofBelow HJ.out.2 NoneS) (fun h => h)) (And.intro HJ.out.1 (H5.out.2.2.2.trans (HJ.out.2.mono H5.out.2.2.2.size)))))
          have hLt : L.take j = L := List.take_of_length_le (by omega)
          have HLT := Lib.hid hLt
          clear hLt
          go_wp2
          go_loopg [14] 12 (fun m kv wr2 => ∃ i : Nat, kv = .int .i64 (i : Int) ∧ i + m = 12 ∧ Below wr.heap.size wr wr2)
          case atStart => exact ⟨0, rfl, rfl, Below.refl _ _⟩
          case round =>
            obtain ⟨i2, rfl, him2, hB9⟩ := hrel
            cases gk with
            | zero =>
              have hin2 : ¬ ((i2 : Int) < (12 : Int)) := by omega
              have hno : ∀ l : List (Int × Int), (∀ x, l = σ2.heldL x ++ σ2.waitL x → ¬ hasI l q > 0) := fun l x e => by
                have hp := has_pos (l := σ2.heldL x ++ σ2.waitL x) (fun g hg => (HF.out.1.mode hg).1) q
                have hz : inB (σ2.heldL x ++ σ2.waitL x) q = false := by
                  cases hb : inB (σ2.heldL x ++ σ2.waitL x) q with
                  | false => rfl
                  | true =>
                    have hb2 : inB (σ2.heldL x) q = true ∨ inB (σ2.waitL x) q = true := by
                      unfold inB at hb ⊢
                      rw [List.any_append] at hb
                      simpa using hb
                    obtain ⟨c, hc, _⟩ := in_there HF.out.1 hb2
                    rw [HF.out.2.1] at hc; simp at hc
                rw [hz] at hp
                rw [e]; simpa using hp
              have HNO := Lib.hid hno
              clear hno
              have HZ := Lib.hid (And.intro (HT8.out.1.below hB9) (And.intro (HT8.out.2.2.1.only (Only.ofBelow hB9 NoneS) (fun h => h)) (HT8.out.2.2.2.trans (hB9.mono HT8.out.2.2.2.size))))
              clear hB9
              go_wp2_with fail
              refine (things_any _).mono ?_
              rintro e w9 ⟨v0, v1, v2, v3, v4, v5, rfl, hb, hs⟩
              have HS := Lib.hid (And.intro hb hs)
              clear hb hs
              go_wp2
              go_loopg [84] 6 (fun m kv wr => ∃ j : Nat, kv = .int .i64 (j : Int) ∧ j + m = 6 ∧ Below w9.heap.size w9 wr)
              case atStart => exact ⟨0, rfl, rfl, Below.refl _ _⟩
              case round =>
                obtain ⟨j4, rfl, hj4, hb4⟩ := hrel
                cases gk with
                | zero =>
                  have hjn4 : ¬ ((j4 : Int) < (6 : Int)) := by omega
                  have hbA := HS.out.1.trans (hb4.mono HS.out.1.size)
                  obtain ⟨mq, mw, tag, qb, cb, hTA⟩ := HZ.out.1.below hbA
                  have hlm := (HZ.out.2.1.only (Only.ofBelow hbA NoneS) (fun h => h)).len (ty := 3) (t := 42) (P := Try.prog) (by kernel_rfl) HF.out.2.2.2.2.1 (fun k => by
                    rw [HLT.out]
                    by_cases e : k ∈ L <;> simp [e])
                  have hth : σ2.there q = false := by simp [TS.there, HF.out.2.1]
                  have hwq : σ2.wholeB q = false := by simp [TS.wholeB, HF.out.2.1]
                  have HQ2 := Lib.hid (And.intro hth hwq)
                  have hfr : freeT σ2 q = (σ2, []) := by simp [freeT, HF.out.2.1]
                  have HFR := Lib.hid hfr
                  have HBA := Lib.hid hbA
                  clear hth hwq hfr hbA hb4
                  go_wp2_with fail
                  refine (there_tower q hTA).mono ?_
                  rintro e w10 ⟨rfl, rfl⟩
                  rw [HQ2.out.1]
                  go_wp2_with fail
                  refine (whole_tower q hTA).mono ?_
                  rintro e w10 ⟨rfl, rfl⟩
                  rw [HQ2.out.2]
                  go_wp2_with fail
                  refine (tfree_any q I12 (by decide) hTA HF.out.1.wf HF.out.1.wi).mono ?_
                  rintro e w10 ⟨v10, rfl, hv10, hT10, hO10⟩
                  rw [HFR.out] at hv10
                  obtain ⟨_, a10, c10, rfl, _⟩ := iread_of_own hv10
                  have hfin : Below w.heap.size w w10 := (HZ.out.2.2.trans (HBA.out.mono HZ.out.2.2.size)).trans (hO10.below (by have := HZ.out.2.2.size; have := HBA.out.size; omega) (fun k hk h => by have := h.1; omega))
                  have HFN := Lib.hid hfin
                  clear hfin hO10 hT10 hv10 hTA
                  go_wp2
                  go_ret
                  exact ⟨rfl, HFN.out⟩
                | succ m4 =>
                  have hjn4 : (j4 : Int) < (6 : Int) := by omega
                  have hj40 : (0 : Int) ≤ (j4 : Int) := by omega
                  obtain ⟨vx, hix', hsx⟩ := index_at j4 hjn4 HS.out.2
                  have hix := hix' wr
                  have HX := Lib.hid (And.intro (hsx.below hb4) hb4)
                  clear hsx hix' hb4
                  go_wp2_with fail
                  obtain ⟨mq, mw, tag, qb, cb, hTA⟩ := HZ.out.1.below (HS.out.1.trans (HX.out.2.mono HS.out.1.size))
                  refine (held_tower vx (thingK j4) hTA HX.out.1 (HF.out.1.heldLen _)).mono ?_
                  rintro e w10 ⟨vh, rfl, hvh, hb10⟩
                  have HX10 := Lib.hid (And.intro hvh (And.intro (HX.out.1.below hb10) (And.intro hb10 (HX.out.2.trans (hb10.mono HX.out.2.size)))))
                  clear hvh hb10 hix hTA
                  go_wp2_with fail
                  obtain ⟨mq, mw, tag, qb, cb, hTA⟩ := HZ.out.1.below (HS.out.1.trans (HX10.out.2.2.2.mono HS.out.1.size))
                  refine (waits_tower vx (thingK j4) hTA HX10.out.2.1 (HF.out.1.waitLen _)).mono ?_
                  rintro e w11 ⟨vw, rfl, hvw, hb11⟩
                  have hvh := own_only HX10.out.1 (Only.ofBelow hb11 NoneS) (fun _ _ h => h)
                  have hbs := HX10.out.2.2.1.size
                  obtain ⟨v12, w12, hrun, hv12, hg12, _⟩ := run_append_rows hvh hvw (by have := hb11.size; omega) (by have := HF.out.1.heldLen (thingOf (thingK j4)); have := HF.out.1.waitLen (thingOf (thingK j4)); omega)
                  have hge : ∀ k, vh.ownBlock = some k → wr.heap.size ≤ k := fun k e => own_blk_ge hvh e
                  have hb12 : Below wr.heap.size wr w12 := (HX10.out.2.2.1.trans (hb11.mono hbs)).trans ((Only.ofGrown (S := fun k => wr.heap.size ≤ k) hg12 hge).below (by have := hb11.size; omega) (fun k hk h => by omega))
                  have HX12 := Lib.hid (And.intro (gread_of_ownsRow hv12) (HX.out.2.trans (hb12.mono HX.out.2.size)))
                  have hnh := HNO.out _ (thingOf (thingK j4)) rfl
                  clear hvh hbs hv12 hg12 hge hb12 hvw hb11 hTA
                  go_wp2_with (at_builtin; refine wpList_append_run rfl (.tmp 89) (.tmp 92) 30 rfl _ _ rfl rfl v12 w12 hrun ?_)
                  refine (has_any v12 _ q w12 HX12.out.1).mono ?_
                  rintro e w13 ⟨rfl, hb13⟩
                  have HX13 := Lib.hid (HX12.out.2.trans (hb13.mono HX12.out.2.size))
                  clear hb13 hrun
                  go_wp2
                  go_roundg m4
                  case measure => omega
                  case rel => exact ⟨j4 + 1, by go_num, by omega, HX13.out⟩
            | succ m3 =>
              have hin2 : (i2 : Int) < (12 : Int) := by omega
              have hi20 : (0 : Int) ≤ (i2 : Int) := by omega
              have HTA := Lib.hid (HT8.out.1.below hB9)
              have hm1 : ∀ n, (Instr.lookup 42 (.map (some w2.heap.size)) (.int .i64 (i2 : Int)) false).run Try.prog (wr.drewN n) = .ok (.bool (σ.wholeB (i2 : Int))) (wr.drewN n) := fun n => by
                have h := ((HT8.out.2.1.only (Only.ofBelow hB9 NoneS) (fun h => h)).only (Only.drewN NoneS _ n) (fun h => h)).lookup keyI64 Try.underlying42 (zeroBool (wr.drewN n)) (i2 : Int)
                rw [if_pos (I12_mem (by omega))] at h
                exact h
              have hm2 : ∀ n, (Instr.lookup 42 (.map (some w5.heap.size)) (.int .i64 (i2 : Int)) false).run Try.prog (wr.drewN n) = .ok (.bool (decide ((i2 : Int) ∈ L))) (wr.drewN n) := fun n => by
                have h := ((HT8.out.2.2.1.only (Only.ofBelow hB9 NoneS) (fun h => h)).only (Only.drewN NoneS _ n) (fun h => h)).lookup keyI64 Try.underlying42 (zeroBool (wr.drewN n)) (i2 : Int)
                rw [HLT.out] at h
                have hz2 : (if (i2 : Int) ∈ L then some (Value.bool true) else none).getD (Value.bool false) = .bool (decide ((i2 : Int) ∈ L)) := by
                  by_cases e : (i2 : Int) ∈ L <;> simp [e]
                rw [hz2] at h
                exact h
              have hwh : ∀ n, Calls Try.prog 13 #[.pointer (some ⟨t, 0, none⟩), .int .i64 (i2 : Int)] (wr.drewN n) fun e w'' => e = .returned (.bool (σ2.wholeB (i2 : Int))) ∧ ∃ m, w'' = wr.drewN m := fun n => by
                obtain ⟨mq, mw, tag, qb, cb, hTA⟩ := HTA.out.below (w2 := wr.drewN n) (pwDrewN (Below.refl _ _) n)
                exact (whole_tower (i2 : Int) hTA).mono (fun e w'' h => ⟨h.1, n, h.2.symm⟩)
              have HB10 := Lib.hid hB9
              clear hB9
              have f3 := HF.out.2.2.1 (i2 : Int)
              have f4 := HF.out.2.2.2.1 (i2 : Int)
              generalize σ2.wholeB (i2 : Int) = wh at hwh f3
              generalize σ.wholeB (i2 : Int) = wa at hm1 f3 f4
              obtain ⟨bt, hto⟩ : ∃ bt, bt = decide ((i2 : Int) ∈ L) := ⟨_, rfl⟩
              have f5 : bt = true → wa = false ∧ (i2 : Int) ≠ q := fun e => f4 (by rw [hto] at e; simpa using e)
              rw [← hto] at hm2 f3
              clear f4 hto
              by_cases hiq : (i2 : Int) = q
              · have e1 : ((i2 : Int) != q) = false := by simp [hiq]
                have e2 : bt = false := by
                  cases bt with
                  | false => rfl
                  | true => exact absurd hiq (f5 rfl).2
                subst e2
                have HIQ := Lib.hid hiq
                clear hiq f3 f5 hwh
                go_wp2
                go_quiet (fail)
                go_wp2
                go_roundg m3
                case measure => omega
                case rel => exact ⟨i2 + 1, by go_num, by omega, pwDrewN HB10.out _⟩
              · have e1 : ((i2 : Int) != q) = true := by simp [hiq]
                have f6 := f3 hiq
                have HIQ := Lib.hid hiq
                clear hiq f3
                cases bt with
                | true =>
                  obtain rfl := (f5 rfl).1
                  simp only [Bool.or_true] at f6
                  subst f6
                  clear f5
                  go_wp2
                  go_quiet ((go_at_call 13; exact hwh _))
                  go_wp2
                  go_roundg m3
                  case measure => omega
                  case rel => exact ⟨i2 + 1, by go_num, by omega, pwDrewN HB10.out _⟩
                | false =>
                  simp only [Bool.or_false] at f6
                  subst f6
                  clear f5
                  cases wh with
                  | true =>
                    go_wp2
                    go_quiet ((go_at_call 13; exact hwh _))
                    go_wp2
                    go_roundg m3
                    case measure => omega
                    case rel => exact ⟨i2 + 1, by go_num, by omega, pwDrewN HB10.out _⟩
                  | false =>
                    go_wp2
                    go_quiet ((go_at_call 13; exact hwh _))
                    go_wp2
                    go_roundg m3
                    case measure => omega
                    case rel => exact ⟨i2 + 1, by go_num, by omega, pwDrewN HB10.out _⟩
        | succ m =>
          have hjn : (j : Int) < (L.length : Int) := by omega
          have hj0 : (0 : Int) ≤ (j : Int) := by omega
          obtain ⟨_, a7, c7, e6, hcc⟩ := H5.out.2.2.1.below HJ.out.2
          simp only [Value.slice.injEq, true_and] at e6
          rw [← e6.1] at hcc
          obtain ⟨b6, o6, rfl, hcc2⟩ := hcc (by omega)
          have x0 := hcc2 j (by omega)
          obtain ⟨lj, hlj⟩ : ∃ lj, lj = L[j] := ⟨_, rfl⟩
          rw [← hlj] at x0
          obtain ⟨w6, hup, hM6, hO6⟩ := HJ.out.1.update keyI64 Try.underlying42 lj (.bool true)
          have HJ6 : Hid (MapRep i64V w6 w5.heap.size (fun k => if k ∈ L.take (j + 1) then some (.bool true) else none) ∧ Below w5.heap.size w5 w6) := Lib.hid ⟨hM6.congr (fun k => by
            rw [List.take_succ_eq_append_getElem (by omega), ← hlj]
            by_cases e : k = lj
            · simp [e]
            · simp [e]), HJ.out.2.trans (hO6.below HJ.out.2.size (fun k hk h => by omega))⟩
          clear hM6 hO6 hcc hcc2 e6 hlj
          simp only [i64V] at hup
          go_wp2
          go_roundg m
          case measure => omega
          case rel => exact ⟨j + 1, by go_num, by omega, HJ6.out⟩
    | succ m =>
      have hin : (i : Int) < (12 : Int) := by omega
      have hi0 : (0 : Int) ≤ (i : Int) := by omega
      obtain ⟨w5, hup, hM5, hO5⟩ := HQ.out.1.update keyI64 Try.underlying42 (i : Int) (.bool (σ.wholeB (i : Int)))
      have HQ5 : Hid (MapRep i64V w5 w2.heap.size (fun k => if k ∈ I12.take (i + 1) then some (.bool (σ.wholeB k)) else none) ∧ TRep (fun b => w.heap.size ≤ b ∧ b < w2.heap.size) w5 t σ ∧ Below w.heap.size w w5) := Lib.hid ⟨hM5.congr (fun k => by
        rw [I12_step (by omega)]
        by_cases e : k = (i : Int)
        · simp [e]
        · simp [e]), HQ.out.2.1.other hO5 (fun b hb e => by omega) (fun b h => h), HQ.out.2.2.trans (hO5.below HQ.out.2.2.size (fun k hk h => by have := HT0.out.2.size; omega))⟩
      clear hM5 hO5
      simp only [i64V] at hup
      go_wp2_with fail
      obtain ⟨mq, mw, tag, qb, cb, hTA⟩ := HQ.out.2.1
      refine (whole_tower (i : Int) hTA).mono ?_
      rintro e w6 ⟨rfl, rfl⟩
      clear hTA
      go_wp2
      go_roundg m
      case measure => omega
      case rel => exact ⟨i + 1, by go_num, by omega, HQ5.out⟩
end Go.Proofs.Yteghcgiclpbkdaa
