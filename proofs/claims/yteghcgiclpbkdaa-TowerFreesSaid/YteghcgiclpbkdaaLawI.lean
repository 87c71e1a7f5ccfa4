/- TowerDrains: the law's walk. -/
import Derived.Test.YteghcgiclpbkdaaLawH
namespace Go.Proofs.Yteghcgiclpbkdaa
open Go.RowKit

theorem I12_step {i : Nat} (h : i < 12) : I12.take (i + 1) = I12.take i ++ [(i : Int)] := by
  have : i = 0 ∨ i = 1 ∨ i = 2 ∨ i = 3 ∨ i = 4 ∨ i = 5 ∨ i = 6 ∨ i = 7 ∨ i = 8 ∨ i = 9 ∨ i = 10 ∨ i = 11 := by omega
  rcases this with rfl | rfl | rfl | rfl | rfl | rfl | rfl | rfl | rfl | rfl | rfl | rfl <;> rfl
theorem whole_step (σ : TS) {i : Nat} (h : i < 12) : (I12.take (i + 1)).filter σ.wholeB = (I12.take i).filter σ.wholeB ++ if σ.wholeB i then [(i : Int)] else [] := by
  rw [I12_step h, List.filter_append]
  congr 1
  cases hb : σ.wholeB i <;> simp [hb]
theorem left_step (σ : TS) {i : Nat} (h : i < 12) : (I12.take (i + 1)).any σ.there = ((I12.take i).any σ.there || σ.there i) := by
  rw [I12_step h, List.any_append]; simp
theorem frees_snoc (x : Int) : ∀ (l : List Int) (σ : TS), frees (l ++ [x]) σ = (freeT (frees l σ) x).1
  | [], σ => rfl
  | i :: l, σ => frees_snoc x l (freeT σ i).1
theorem filter_len (σ : TS) (i : Nat) : ((I12.take i).filter σ.wholeB).length ≤ 12 := Nat.le_trans (List.length_filter_le _ _) (by rw [List.length_take]; exact Nat.min_le_right _ _)

theorem iread_only {S : Nat → Prop} {w w2 : World} {b o n c : Nat} {l : List Int} (h : IRead w (.slice (some ⟨b, o, none⟩) n c) l) (ho : Only S w w2) (hS : ¬ S b) : IRead w2 (.slice (some ⟨b, o, none⟩) n c) l := by
  obtain ⟨hm, a, cap, e, h⟩ := h
  refine ⟨hm, a, cap, e, fun hl => ?_⟩
  obtain ⟨b1, o1, rfl, hc⟩ := h hl
  simp only [Value.slice.injEq, Option.some.injEq, Addr.mk.injEq, and_true] at e
  obtain ⟨⟨rfl, rfl⟩, _⟩ := e
  exact ⟨b, o, rfl, fun i hi => ho.cell hS (hc i hi)⟩

set_option maxRecDepth 100000 in
set_option maxHeartbeats 4000000 in
theorem drains_law (v : Value) (l : List Deed) (w : World) (hv : ARead w v l) :
    Calls Try.prog 5 #[v] w fun e w' => e = .returned (.bool true) ∧ Below w.heap.size w w' := by
  have HV := Lib.hid hv
  clear hv
  go_enter Try.func5, Try.ntmps5
  go_wp2_with fail
  refine (awake_any reach_ok _).mono ?_
  rintro e w1 ⟨rfl, hb⟩
  have HB := Lib.hid hb
  clear hb
  go_wp2_with fail
  refine (play_any reach_ok v _ l w1 (HV.out.below HB.out) true_isC1).mono ?_
  rintro e w2 ⟨t, rfl, hT, hr, hb2⟩
  obtain ⟨σ, hσ⟩ : ∃ σ, σ = runD (l.take 80) := ⟨_, rfl⟩
  rw [← hσ] at hT hr
  have HI := Lib.hid (reach_inv hr)
  have HT := Lib.hid (And.intro (hT.mono (G := fun b => w.heap.size ≤ b) (fun b _ h => Nat.le_trans HB.out.size h)) (HB.out.trans (hb2.mono HB.out.size)))
  clear hT hr hb2 hσ
  unfold ptrV
  go_wp2
  go_loopg [21] 12 (fun m kv wr => ∃ n : Nat, kv = .int .i64 (n : Int) ∧ n + m = 12 ∧ TRep (fun b => w.heap.size ≤ b) wr t (rounds n σ) ∧ Below w.heap.size w wr)
  case atStart => exact ⟨0, rfl, rfl, HT.out⟩
  case round =>
    obtain ⟨n, rfl, hnm, hTr, hbr⟩ := hrel
    have HR := Lib.hid (And.intro hTr hbr)
    clear hTr hbr
    cases gk with
    | zero =>
      have hnn : ¬ ((n : Int) < (12 : Int)) := by omega
      go_wp2_with fail
      refine (things_any _).mono ?_
      rintro e w4 ⟨v0, v1, v2, v3, v4, v5, rfl, hb4, hs4⟩
      have HS := Lib.hid (And.intro (HR.out.1.below hb4) (And.intro (HR.out.2.trans (hb4.mono HR.out.2.size)) hs4))
      have hdr : ∀ x, (rounds n σ).heldL x = [] ∧ (rounds n σ).waitL x = [] := fun x => by
        rw [show n = 12 by omega]; exact drained HI.out x
      have HD := Lib.hid hdr
      clear hb4 hs4 hdr
      go_wp2
      go_loopg [58] 6 (fun m kv wr2 => ∃ j : Nat, kv = .int .i64 (j : Int) ∧ j + m = 6 ∧ Below w4.heap.size w4 wr2)
      case atStart => exact ⟨0, rfl, rfl, Below.refl _ _⟩
      case round =>
        obtain ⟨j, rfl, hjm, hbj⟩ := hrel
        have HJ := Lib.hid hbj
        clear hbj
        cases gk with
        | zero =>
          have hjn : ¬ ((j : Int) < (6 : Int)) := by omega
          go_wp2
          go_ret
          exact ⟨rfl, HS.out.2.1.trans (HJ.out.mono HS.out.2.1.size)⟩
        | succ m2 =>
          have hjn : (j : Int) < (6 : Int) := by omega
          have hj0 : (0 : Int) ≤ (j : Int) := by omega
          obtain ⟨vx, hix', hsx⟩ := index_at j hjn HS.out.2.2
          have hix := hix' wr
          have HX := Lib.hid (hsx.below HJ.out)
          clear hsx hix'
          go_wp2_with fail
          obtain ⟨mq, mw, tag, qb, cb, hTA⟩ := HS.out.1.below HJ.out
          have hd := HD.out (thingOf (thingK j))
          refine (held_tower vx (thingK j) hTA HX.out (by rw [hd.1]; simp)).mono ?_
          rintro e w5 ⟨vh, rfl, hvh, hb5⟩
          rw [hd.1] at hvh
          obtain ⟨_, a5, c5, rfl, _⟩ := gread_of_ownsRow hvh
          have HJ5 := Lib.hid (HJ.out.trans (hb5.mono HJ.out.size))
          have HX5 := Lib.hid (HX.out.below hb5)
          clear hTA hvh hb5 hix hd
          simp only [List.length_nil]
          go_wp2_with fail
          obtain ⟨mq, mw, tag, qb, cb, hTA⟩ := HS.out.1.below HJ5.out
          have hd := HD.out (thingOf (thingK j))
          refine (waits_tower vx (thingK j) hTA HX5.out (by rw [hd.2]; simp)).mono ?_
          rintro e w6 ⟨vw, rfl, hvw, hb6⟩
          rw [hd.2] at hvw
          obtain ⟨_, a6, c6, rfl, _⟩ := gread_of_ownsRow hvw
          have HJ6 := Lib.hid (HJ5.out.trans (hb6.mono HJ5.out.size))
          clear hTA hvw hb6 hd
          simp only [List.length_nil]
          go_wp2
          go_roundg m2
          case measure => omega
          case rel => exact ⟨j + 1, by go_num, by omega, HJ6.out⟩
    | succ m =>
      have hnn : (n : Int) < (12 : Int) := by omega
      have hn0 : (0 : Int) ≤ (n : Int) := by omega
      revert wr
      intro wz HR
      obtain ⟨σ1, hσ1⟩ : ∃ σ1, σ1 = rounds n σ := ⟨_, rfl⟩
      have HE := Lib.hid hσ1
      have hi1 : InvS σ1 := by rw [hσ1]; exact (rounds_inv HI.out n).1
      have HI1 := Lib.hid hi1
      have HR1 : Hid (TRep (fun b => w.heap.size ≤ b ∧ b < wz.heap.size) wz t σ1 ∧ Below w.heap.size w wz) := Lib.hid ⟨by rw [hσ1]; exact HR.out.1.shrink, HR.out.2⟩
      clear hσ1 hi1 HR
      go_wp2
      go_loopg [7, 5, 6] 12 (fun m iv lv sv wr2 => ∃ i : Nat, iv = .int .i64 (i : Int) ∧ i + m = 12 ∧ lv = .bool ((I12.take i).any σ1.there) ∧ wr2.ownsRow wz.heap.size 2 1 sv ((I12.take i).filter σ1.wholeB).length (i64s ((I12.take i).filter σ1.wholeB)) ∧
        TRep (fun b => w.heap.size ≤ b ∧ b < wz.heap.size) wr2 t σ1 ∧ Below wz.heap.size wz wr2)
      case atStart => exact ⟨0, rfl, rfl, rfl, World.ownsRow_nil _ _ _ _, HR1.out.1, Below.refl _ _⟩
      case round =>
        obtain ⟨i, rfl, him, rfl, hown, hTr, hbr⟩ := hrel
        have HQ := Lib.hid (And.intro hown (And.intro hTr hbr))
        obtain ⟨bl, hbl⟩ : ∃ bl, bl = (I12.take i).any σ1.there := ⟨_, rfl⟩
        rw [← hbl]
        have HBL := Lib.hid hbl
        clear hown hTr hbr hbl
        cases gk with
        | zero =>
          have hin : ¬ ((i : Int) < (12 : Int)) := by omega
          have hi12 : I12.take i = I12 := by rw [show i = 12 by omega]; rfl
          obtain ⟨W, hW⟩ : ∃ W, W = wholes σ1 := ⟨_, rfl⟩
          have hown := HQ.out.1
          rw [hi12, show I12.filter σ1.wholeB = W by rw [hW]; rfl] at hown
          have hir := iread_of_own hown
          have hW0 : TRep (fun b => w.heap.size ≤ b ∧ u6.ownBlock ≠ some b) wr t σ1 ∧ IRead wr u6 W ∧ Below w.heap.size w wr := ⟨HQ.out.2.1.mono (fun b _ h => ⟨h.1, fun e => by have := (hown.lt b e).1; omega⟩), hir, HR1.out.2.trans (HQ.out.2.2.mono HR1.out.2.size)⟩
          obtain ⟨_, a6, c6, rfl, _⟩ := hir
          have HW0 := Lib.hid hW0
          have HWE := Lib.hid hW
          have hWl : W.length ≤ 12 := by rw [hW]; exact List.length_filter_le _ _
          cases bl with
          | true =>
            have hne : ((W.length : Int) == 0) = false := by
              have h1 : theres σ1 ≠ [] := by
                have := HBL.out
                rw [hi12] at this
                obtain ⟨x, hx, hp⟩ := List.any_eq_true.1 this.symm
                exact List.ne_nil_of_mem (List.mem_filter.2 ⟨hx, hp⟩)
              have := left_whole HI1.out h1
              rw [← hW] at this
              have := List.length_pos_iff.2 this
              simp; omega
            clear hW0 hown hW hi12
            go_wp2
            go_loopg [48] W.length (fun m kv wr3 => ∃ j : Nat, kv = .int .i64 (j : Int) ∧ j + m = W.length ∧ TRep (fun b => w.heap.size ≤ b ∧ (Value.slice a6 W.length c6).ownBlock ≠ some b) wr3 t (frees (W.take j) σ1) ∧ IRead wr3 (.slice a6 W.length c6) W ∧ Below w.heap.size w wr3)
            case atStart => exact ⟨0, rfl, by omega, HW0.out.1, HW0.out.2.1, HW0.out.2.2⟩
            case round =>
              obtain ⟨j, rfl, hjm, hTj, hIj, hBj⟩ := hrel
              have HJ := Lib.hid (And.intro hTj (And.intro hIj hBj))
              clear hTj hIj hBj
              cases gk with
              | zero =>
                have hjn : ¬ ((j : Int) < (W.length : Int)) := by omega
                go_wp2
                go_roundg m
                case measure => omega
                case rel => exact ⟨n + 1, by go_num, by omega, by
                  have e : rounds (n + 1) σ = frees (W.take j) σ1 := by
                    rw [List.take_of_length_le (by omega)]
                    show roundT (rounds n σ) = _
                    rw [← HE.out, HWE.out]; rfl
                  rw [e]; exact HJ.out.1.mono (fun b _ h => h.1), HJ.out.2.2⟩
              | succ m3 =>
                have hjn : (j : Int) < (W.length : Int) := by omega
                have hj0 : (0 : Int) ≤ (j : Int) := by omega
                obtain ⟨_, a7, c7, e6, hcc⟩ := HJ.out.2.1
                simp only [Value.slice.injEq, true_and] at e6
                rw [← e6.1] at hcc
                obtain ⟨b6, o6, rfl, hcc2⟩ := hcc (by omega)
                have x0 := hcc2 j (by omega)
                obtain ⟨wj, hwj⟩ : ∃ wj, wj = W[j] := ⟨_, rfl⟩
                rw [← hwj] at x0
                have HWJ := Lib.hid hwj
                clear hcc hcc2 e6 hwj
                go_wp2_with fail
                obtain ⟨mq, mw, tag, qb, cb, hTA⟩ := HJ.out.1
                have hfi := (frees_inv (W.take j) HI1.out (fun x hx => by rw [HWE.out] at hx; exact (List.mem_filter.1 (List.mem_of_mem_take hx)).1)).1
                refine (tfree_any wj I12 (by decide) hTA hfi.wf hfi.wi).mono ?_
                rintro e w5 ⟨vf, rfl, hvf, hT5, hO5⟩
                have hlt6 : b6 < wr.heap.size := World.block_lt_of_cell? _ _ x0
                have hj5 : TRep (fun b => w.heap.size ≤ b ∧ (Value.slice (some ⟨b6, o6, none⟩) W.length c6).ownBlock ≠ some b) w5 t (frees (W.take (j + 1)) σ1) ∧ IRead w5 (.slice (some ⟨b6, o6, none⟩) W.length c6) W ∧ Below w.heap.size w w5 := by
                  refine ⟨?_, ?_, HJ.out.2.2.trans (hO5.below HJ.out.2.2.size (fun k hk h => by omega))⟩
                  · rw [List.take_succ_eq_append_getElem (by omega), frees_snoc, ← HWJ.out]
                    refine hT5.mono (fun b _ h => ?_)
                    rcases h with h | h
                    · exact h
                    · refine ⟨by have := HJ.out.2.2.size; omega, fun e => ?_⟩
                      simp only [Value.ownBlock, Option.some.injEq] at e
                      omega
                  · exact iread_only HJ.out.2.1 hO5 (fun h => h.2 rfl)
                have HJ5 := Lib.hid hj5
                clear hj5 hvf hO5 hT5 hfi hTA x0 hlt6
                go_wp2
                go_roundg m3
                case measure => omega
                case rel => exact ⟨j + 1, by go_num, by omega, HJ5.out⟩
          | false =>
            clear hW0 hown hW hi12
            go_wp2
            go_loopg [48] W.length (fun m kv wr3 => ∃ j : Nat, kv = .int .i64 (j : Int) ∧ j + m = W.length ∧ TRep (fun b => w.heap.size ≤ b ∧ (Value.slice a6 W.length c6).ownBlock ≠ some b) wr3 t (frees (W.take j) σ1) ∧ IRead wr3 (.slice a6 W.length c6) W ∧ Below w.heap.size w wr3)
            case atStart => exact ⟨0, rfl, by omega, HW0.out.1, HW0.out.2.1, HW0.out.2.2⟩
            case round =>
              obtain ⟨j, rfl, hjm, hTj, hIj, hBj⟩ := hrel
              have HJ := Lib.hid (And.intro hTj (And.intro hIj hBj))
              clear hTj hIj hBj
              cases gk with
              | zero =>
                have hjn : ¬ ((j : Int) < (W.length : Int)) := by omega
                go_wp2
                go_roundg m
                case measure => omega
                case rel => exact ⟨n + 1, by go_num, by omega, by
                  have e : rounds (n + 1) σ = frees (W.take j) σ1 := by
                    rw [List.take_of_length_le (by omega)]
                    show roundT (rounds n σ) = _
                    rw [← HE.out, HWE.out]; rfl
                  rw [e]; exact HJ.out.1.mono (fun b _ h => h.1), HJ.out.2.2⟩
              | succ m3 =>
                have hjn : (j : Int) < (W.length : Int) := by omega
                have hj0 : (0 : Int) ≤ (j : Int) := by omega
                obtain ⟨_, a7, c7, e6, hcc⟩ := HJ.out.2.1
                simp only [Value.slice.injEq, true_and] at e6
                rw [← e6.1] at hcc
                obtain ⟨b6, o6, rfl, hcc2⟩ := hcc (by omega)
                have x0 := hcc2 j (by omega)
                obtain ⟨wj, hwj⟩ : ∃ wj, wj = W[j] := ⟨_, rfl⟩
                rw [← hwj] at x0
                have HWJ := Lib.hid hwj
                clear hcc hcc2 e6 hwj
                go_wp2_with fail
                obtain ⟨mq, mw, tag, qb, cb, hTA⟩ := HJ.out.1
                have hfi := (frees_inv (W.take j) HI1.out (fun x hx => by rw [HWE.out] at hx; exact (List.mem_filter.1 (List.mem_of_mem_take hx)).1)).1
                refine (tfree_any wj I12 (by decide) hTA hfi.wf hfi.wi).mono ?_
                rintro e w5 ⟨vf, rfl, hvf, hT5, hO5⟩
                have hlt6 : b6 < wr.heap.size := World.block_lt_of_cell? _ _ x0
                have hj5 : TRep (fun b => w.heap.size ≤ b ∧ (Value.slice (some ⟨b6, o6, none⟩) W.length c6).ownBlock ≠ some b) w5 t (frees (W.take (j + 1)) σ1) ∧ IRead w5 (.slice (some ⟨b6, o6, none⟩) W.length c6) W ∧ Below w.heap.size w w5 := by
                  refine ⟨?_, ?_, HJ.out.2.2.trans (hO5.below HJ.out.2.2.size (fun k hk h => by omega))⟩
                  · rw [List.take_succ_eq_append_getElem (by omega), frees_snoc, ← HWJ.out]
                    refine hT5.mono (fun b _ h => ?_)
                    rcases h with h | h
                    · exact h
                    · refine ⟨by have := HJ.out.2.2.size; omega, fun e => ?_⟩
                      simp only [Value.ownBlock, Option.some.injEq] at e
                      omega
                  · exact iread_only HJ.out.2.1 hO5 (fun h => h.2 rfl)
                have HJ5 := Lib.hid hj5
                clear hj5 hvf hO5 hT5 hfi hTA x0 hlt6
                go_wp2
                go_roundg m3
                case measure => omega
                case rel => exact ⟨j + 1, by go_num, by omega, HJ5.out⟩
        | succ m2 =>
          have hin : (i : Int) < (12 : Int) := by omega
          have hi0 : (0 : Int) ≤ (i : Int) := by omega
          cases bl with
          | true =>
            go_wp2_with fail
            obtain ⟨mq, mw, tag, qb, cb, hTA⟩ := HQ.out.2.1
            refine (whole_tower (i : Int) hTA).mono ?_
            rintro e w5 ⟨rfl, rfl⟩
            cases hwh : σ1.wholeB (i : Int) with
            | false =>
              have HW := Lib.hid hwh
              clear hwh hTA
              go_wp2
              go_roundg m2
              case measure => omega
              case rel => exact ⟨i + 1, by go_num, by omega, by rw [left_step σ1 (by omega)]; rw [← HBL.out]; rfl, by rw [whole_step σ1 (by omega), HW.out]; simpa using HQ.out.1, HQ.out.2.1, HQ.out.2.2⟩
            | true =>
              have HW := Lib.hid hwh
              clear hwh hTA
              obtain ⟨i1, hi1, hy0, hy1, hy2⟩ := info_parts infoI64
              have HF := Lib.hid (And.intro hi1 (And.intro hy0 (And.intro hy1 hy2)))
              clear hi1 hy0 hy1 hy2
              have hl12 := filter_len σ1 i
              obtain ⟨L, hL⟩ : ∃ L, L = (I12.take i).filter σ1.wholeB := ⟨_, rfl⟩
              have HQL : Hid (wr.ownsRow wz.heap.size 2 1 u6 L.length (i64s L)) := Lib.hid (by rw [hL]; exact HQ.out.1)
              rw [← hL] at hl12
              have HL := Lib.hid hL
              clear hL
              have hszq : wz.heap.size ≤ wr.heap.size := HQ.out.2.2.size
              go_wp2_with (at_builtin; refine wpList_append_own_at _ rfl (.tmp 36) (.tmp 38) 40 rfl wz.heap.size 2 i1 (.int .i64 0) 1 8 Try.underlying40 HF.out.1 HF.out.2.1 HF.out.2.2.1 HF.out.2.2.2 rfl (by decide) u6 L.length (i64s L) rfl (HQL.out.alloc _) ⟨wr.heap.size, 0, none⟩ 1 1 [.int .i64 (i : Int)] rfl rfl (cell_one_new _ _ _) (by simp [Value.oneCell']) (by unfold maxLen; omega) (by omega) (by simp; omega) ?_)
              intro ov wb hownb hgrowb _ hatb
              have hQ2 : TRep (fun b => w.heap.size ≤ b ∧ b < wz.heap.size) wb t σ1 := by
                obtain ⟨mq, mw, tag, qb, cb, hTA⟩ := HQ.out.2.1
                exact ⟨_, _, _, _, _, tower_out hTA (fun b hb e => by have := (HQL.out.lt b e).1; omega) hgrowb (fun b _ h => h)⟩
              have hQ3 : Below wz.heap.size wz wb := (HQ.out.2.2.alloc HQ.out.2.2.size _).grown hgrowb (by have := HQ.out.2.2.size; simp; omega) (fun b e => (HQL.out.lt b e).1)
              have HQ4 := Lib.hid (And.intro hownb (And.intro hQ2 hQ3))
              clear hownb hgrowb hatb hQ2 hQ3
              go_wp2
              go_roundg m2
              case measure => omega
              case rel => exact ⟨i + 1, by go_num, by omega, by rw [left_step σ1 (by omega)]; rw [← HBL.out]; rfl, by rw [whole_step σ1 (by omega), HW.out, ← HL.out]; simpa [i64s] using HQ4.out.1, HQ4.out.2.1, HQ4.out.2.2⟩
          | false =>
            go_wp2_with fail
            obtain ⟨mq, mw, tag, qb, cb, hTA⟩ := HQ.out.2.1
            refine (there_tower (i : Int) hTA).mono ?_
            rintro e w5 ⟨rfl, rfl⟩
            clear hTA
            go_wp2_with fail
            obtain ⟨mq, mw, tag, qb, cb, hTA⟩ := HQ.out.2.1
            refine (whole_tower (i : Int) hTA).mono ?_
            rintro e w5 ⟨rfl, rfl⟩
            cases hwh : σ1.wholeB (i : Int) with
            | false =>
              have HW := Lib.hid hwh
              clear hwh hTA
              go_wp2
              go_roundg m2
              case measure => omega
              case rel => exact ⟨i + 1, by go_num, by omega, by rw [left_step σ1 (by omega)]; rw [← HBL.out]; simp, by rw [whole_step σ1 (by omega), HW.out]; simpa using HQ.out.1, HQ.out.2.1, HQ.out.2.2⟩
            | true =>
              have HW := Lib.hid hwh
              clear hwh hTA
              obtain ⟨i1, hi1, hy0, hy1, hy2⟩ := info_parts infoI64
              have HF := Lib.hid (And.intro hi1 (And.intro hy0 (And.intro hy1 hy2)))
              clear hi1 hy0 hy1 hy2
              have hl12 := filter_len σ1 i
              obtain ⟨L, hL⟩ : ∃ L, L = (I12.take i).filter σ1.wholeB := ⟨_, rfl⟩
              have HQL : Hid (wr.ownsRow wz.heap.size 2 1 u6 L.length (i64s L)) := Lib.hid (by rw [hL]; exact HQ.out.1)
              rw [← hL] at hl12
              have HL := Lib.hid hL
              clear hL
              have hszq : wz.heap.size ≤ wr.heap.size := HQ.out.2.2.size
              go_wp2_with (at_builtin; refine wpList_append_own_at _ rfl (.tmp 36) (.tmp 38) 40 rfl wz.heap.size 2 i1 (.int .i64 0) 1 8 Try.underlying40 HF.out.1 HF.out.2.1 HF.out.2.2.1 HF.out.2.2.2 rfl (by decide) u6 L.length (i64s L) rfl (HQL.out.alloc _) ⟨wr.heap.size, 0, none⟩ 1 1 [.int .i64 (i : Int)] rfl rfl (cell_one_new _ _ _) (by simp [Value.oneCell']) (by unfold maxLen; omega) (by omega) (by simp; omega) ?_)
              intro ov wb hownb hgrowb _ hatb
              have hQ2 : TRep (fun b => w.heap.size ≤ b ∧ b < wz.heap.size) wb t σ1 := by
                obtain ⟨mq, mw, tag, qb, cb, hTA⟩ := HQ.out.2.1
                exact ⟨_, _, _, _, _, tower_out hTA (fun b hb e => by have := (HQL.out.lt b e).1; omega) hgrowb (fun b _ h => h)⟩
              have hQ3 : Below wz.heap.size wz wb := (HQ.out.2.2.alloc HQ.out.2.2.size _).grown hgrowb (by have := HQ.out.2.2.size; simp; omega) (fun b e => (HQL.out.lt b e).1)
              have HQ4 := Lib.hid (And.intro hownb (And.intro hQ2 hQ3))
              clear hownb hgrowb hatb hQ2 hQ3
              go_wp2
              go_roundg m2
              case measure => omega
              case rel => exact ⟨i + 1, by go_num, by omega, by rw [left_step σ1 (by omega)]; rw [← HBL.out]; simp, by rw [whole_step σ1 (by omega), HW.out, ← HL.out]; simpa [i64s] using HQ4.out.1, HQ4.out.2.1, HQ4.out.2.2⟩
end Go.Proofs.Yteghcgiclpbkdaa
