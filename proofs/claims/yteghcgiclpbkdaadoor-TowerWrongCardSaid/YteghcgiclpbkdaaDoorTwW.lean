/- TowerWrong: the law's walk. -/
import Derived.Test.YteghcgiclpbkdaaDoorLawD
import Derived.Test.YteghcgiclpbkdaaDoorPureW
import Derived.Test.YteghcgiclpbkdaaDoorAsB
import Derived.Test.YteghcgiclpbkdaaDoorLkU
import Derived.Test.YteghcgiclpbkdaaDoorLkT
import Derived.Test.YteghcgiclpbkdaaDoorApp
namespace Go.Proofs.YteghcgiclpbkdaaDoor
open Go.RowKit

theorem wpList_append_runG {P : Program} {ops : Array Oper} {rest : List Oper} {o : Oper} {a : Act} {w : World} {Q : Exit → Act → World → Prop}
    (hw : Region.wanted o (yielded ops a.tmps) = true) (s x : Operand) (t : TypeId) (hop : o.op = Op.call { callee := Callee.builtin Builtin.append, args := #[s, x], argTypes := #[t, t] })
    (v u : Value) (hs : a.eval s = v) (hx : a.eval x = u) (v2 : Value) (w2 : World) (hrun : ∀ ty, (Builtin.append_ #[t, t] ty #[v, u]).run P w = .ok v2 w2)
    (hK : wpList P ops Q rest (a.put o.dst v2) w2) : wpList P ops Q (o :: rest) a w := by
  unfold wpList
  rw [if_pos hw]
  left
  unfold Oper.wp
  simp [execOp, hop, resolve, invoke, builtin, hs, hx, hrun, Result.andThen]
  exact hK
theorem reach_ok : ReachOK := fun _ h => ⟨(reach_inv h).wf, (reach_inv h).wi⟩
set_option maxHeartbeats 400000 in
theorem wrong_isC : IsC (.func (.func 46) #[] #[]) := by
  refine ⟨_, rfl, fun args w1 => by kernel_rfl, fun σ F t w1 _ _ => ?_⟩
  unfold ptrV
  go_enter Tryd.func46, Tryd.ntmps46
  go_wp2
  go_ret
  exact ⟨rfl, Below.refl _ _⟩
theorem has_pos {l : List (Int × Int)} (h : ∀ g ∈ l, 1 ≤ g.2) (id : Int) : decide (hasI l id > 0) = inB l id := by
  unfold hasI
  cases hf : l.find? (fun g => g.1 == id) with
  | none =>
    symm
    simp only [inB, gt_iff_lt, Int.lt_irrefl, decide_false]
    rw [List.any_eq_false]
    intro g hg
    exact List.find?_eq_none.1 hf g hg
  | some g =>
    have h1 := List.find?_some hf
    have h2 := h g (List.mem_of_find?_eq_some hf)
    simp only
    rw [decide_eq_true (by omega)]
    symm
    exact List.any_eq_true.2 ⟨g, List.mem_of_find?_eq_some hf, h1⟩
theorem InvS.heldLen {σ : TS} (h : InvS σ) (x : Thing) : (σ.heldL x).length ≤ 1048576 := by
  have := (h.wf.q x).len
  have h12 : I12.length = 12 := rfl
  unfold TS.heldL; omega
theorem InvS.waitLen {σ : TS} (h : InvS σ) (x : Thing) : (σ.waitL x).length ≤ 1048576 := by
  have := (h.wf.q x).len
  have h12 : I12.length = 12 := rfl
  unfold TS.waitL; omega

set_option maxRecDepth 100000 in
set_option maxHeartbeats 8000000 in
theorem wrong_law (v vn : Value) (l : List Deed) (ss : List ByteArray) (id mode : Int) (w : World) (hv : ARead w v l) (hn : SRead w vn ss) (hg : ErrT w) :
    Calls Tryd.prog 10 #[v, .int .i64 id, vn, .int .i64 mode] w fun e w' => e = .returned (.bool true) ∧ Below w.heap.size w w' := by
  have HV := Lib.hid hv
  have HG := Lib.hid hg
  have HN := Lib.hid hn
  obtain ⟨_, a2, c2, rfl, hcap, hcap2, _⟩ := hn
  clear hv hg
  go_enter Tryd.func10, Tryd.ntmps10
  go_wp2_with fail
  refine (awake_any reach_ok _).mono ?_
  rintro e w1 ⟨rfl, hb⟩
  have HB := Lib.hid hb
  clear hb
  go_wp2_with fail
  refine (play_any reach_ok v _ l w1 (HV.out.below HB.out) wrong_isC).mono ?_
  rintro e w2 ⟨t, rfl, hT, hr, hb2⟩
  obtain ⟨σ, hσ⟩ : ∃ σ, σ = runD (l.take 80) := ⟨_, rfl⟩
  rw [← hσ] at hT hr
  have HI := Lib.hid (reach_inv hr)
  have HW1 := Lib.hid HB.out.size
  have HT := Lib.hid (And.intro hT (HB.out.trans (hb2.mono HB.out.size)))
  clear hT hr hb2 hσ
  unfold ptrV
  by_cases h5 : (ss.length : Int) ≤ 5
  · obtain ⟨LL, hLL⟩ : ∃ LL, LL = ss := ⟨_, rfl⟩
    have hLN : LL.length = ss.length := by rw [hLL]
    have HSR : Hid (SRead w2 (.slice a2 ss.length c2) LL) := Lib.hid (by rw [hLL]; exact HN.out.below HT.out.2)
    clear hLL
    by_cases hm1 : mode < 1
    · have HIM : Hid (intentI mode = 0) := Lib.hid (by unfold intentI; rw [if_neg (by omega), if_neg (by omega)])
      by_cases hlen2 : (ss.length : Int) > 2
      · have HLEN : Hid (2 < LL.length) := Lib.hid (by omega)
        cases hth : σ.there id with
        | true =>
          have HTH := Lib.hid hth
          clear hth
          go_wp2_with fail
          obtain ⟨mq, mw, tag, qb, cb, hTA⟩ := HT.out.1
          refine (there_tower id hTA).mono ?_
          rintro e w3 ⟨rfl, rfl⟩
          rw [HTH.out]
          clear hTA
          go_wp2
          go_loopg [38, 12] ss.length (fun m kv wv wr => ∃ j : Nat, kv = .int .i64 (j : Int) ∧ j + m = ss.length ∧ Below w2.heap.size w2 wr ∧ ∃ x : Int, wv = .int .i64 x ∧ ((LL.take j).any oddB = true → x = 5))
          case atStart => exact ⟨0, rfl, by omega, Below.refl _ _, _, rfl, fun h => by simp at h⟩
          case round =>
            obtain ⟨j, rfl, hjm, hbr, x, rfl, hx5⟩ := hrel
            have HR := Lib.hid (And.intro (HT.out.1.below hbr) (And.intro (HSR.out.below hbr) (HT.out.2.trans (hbr.mono HT.out.2.size))))
            have HBR := Lib.hid hbr
            clear hbr
            cases gk with
            | zero =>
              have hjn : ¬ ((j : Int) < (ss.length : Int)) := by omega
              have HX5 := Lib.hid hx5
              clear hx5
              go_wp2_with fail
              obtain ⟨mq, mw, tag, qb, cb, hTA⟩ := HR.out.1
              refine (held_tower (.slice none 0 0) [] hTA (sread_nil _) (HI.out.heldLen _)).mono ?_
              rintro e w5 ⟨vt, rfl, hvt, hb5⟩
              have H5 := Lib.hid (And.intro (HR.out.1.below hb5) (And.intro (HR.out.2.1.below hb5) (And.intro (HR.out.2.2.trans (hb5.mono HR.out.2.2.size)) hvt)))
              clear hTA hvt hb5
              go_wp2_with fail
              obtain ⟨mq, mw, tag, qb, cb, hTA⟩ := H5.out.1
              refine (task_mode (w := w5) (t := t) id mode _ HIM.out).mono ?_
              rintro e w6 ⟨err, rfl, hf, hb6⟩
              have H6 := Lib.hid (And.intro (H5.out.1.below hb6) (And.intro hf.chain (And.intro (H5.out.2.2.1.trans (hb6.mono H5.out.2.2.1.size)) (own_below H5.out.2.2.2 hb6))))
              clear hTA hf hb6
              go_wp2_with fail
              refine (code_chain 1 err 13 w6 H6.out.2.1 (HG.out.below H6.out.2.2.1)).mono ?_
              rintro e w7 ⟨rfl, hb7⟩
              have H7 := Lib.hid (And.intro (H6.out.1.below hb7) (And.intro (H6.out.2.2.1.trans (hb7.mono H6.out.2.2.1.size)) (own_below H6.out.2.2.2 hb7)))
              clear hb7
              go_wp2_with fail
              obtain ⟨mq, mw, tag, qb, cb, hTA⟩ := H7.out.1
              refine (there_tower id hTA).mono ?_
              rintro e w8 ⟨rfl, rfl⟩
              rw [HTH.out]
              go_wp2_with fail
              refine (held_tower (.slice none 0 0) [] hTA (sread_nil _) (HI.out.heldLen _)).mono ?_
              rintro e w9 ⟨vu, rfl, hvu, hb9⟩
              have H9 := Lib.hid (And.intro (own_below H7.out.2.2 hb9) (And.intro hvu (H7.out.2.1.trans (hb9.mono H7.out.2.1.size))))
              clear hTA hvu hb9
              go_wp2_with fail
              refine (gsame_any vt vu _ _ w9 (gread_of_ownsRow H9.out.1) (gread_of_ownsRow H9.out.2.1)).mono ?_
              rintro e w10 ⟨rfl, hb10⟩
              rw [decide_eq_true rfl]
              have H10 := Lib.hid (H9.out.2.2.trans (hb10.mono H9.out.2.2.size))
              clear hb10
              go_wp2
              go_ret
              exact ⟨rfl, H10.out⟩
            | succ m =>
              have hjn : (j : Int) < (ss.length : Int) := by omega
              have hj0 : (0 : Int) ≤ (j : Int) := by omega
              obtain ⟨_, a9, c9, e9, _, _, _, hc9⟩ := HR.out.2.1
              simp only [Value.slice.injEq] at e9
              rw [← e9.1] at hc9
              obtain ⟨b9, o9, rfl, hc⟩ := hc9 (by omega)
              obtain ⟨s, hs⟩ : ∃ s, s = LL[j]'(by omega) := ⟨_, rfl⟩
              have x0 : wr.cell? ⟨b9, o9 + j, none⟩ = some (.string s) := by rw [hs]; exact hc j (by omega)
              have hmem : s ∈ LL := by rw [hs]; exact List.getElem_mem _
              have htk : LL.take (j + 1) = LL.take j ++ [s] := by rw [hs]; exact List.take_succ_eq_append_getElem (by omega)
              have HTK := Lib.hid (And.intro htk hmem)
              clear hc hc9 e9 hs hmem htk
              have HX5 := Lib.hid hx5
              clear hx5
              cases f1 : s.toList.isEmpty with
              | true =>
                go_wp2
                go_roundg m
                case measure => omega
                case rel => exact ⟨j + 1, by go_num, by omega, HBR.out, _, rfl, fun _ => rfl⟩
              | false =>
                by_cases f2 : 16 < (s.size : Int)
                · have f3 : (s.size : Int) > 16 := f2
                  go_wp2
                  go_roundg m
                  case measure => omega
                  case rel => exact ⟨j + 1, by go_num, by omega, HBR.out, _, rfl, fun _ => rfl⟩
                · have f3 : ¬ ((s.size : Int) > 16) := f2
                  have hod : oddB s = false := by simp [oddB, f1, f2]
                  have HOD := Lib.hid hod
                  clear hod
                  go_wp2
                  go_roundg m
                  case measure => omega
                  case rel => exact ⟨j + 1, by go_num, by omega, HBR.out, _, rfl, fun h => HX5.out (by rw [HTK.out.1, List.any_append] at h; simpa [HOD.out] using h)⟩
        | false =>
          have HTH := Lib.hid hth
          clear hth
          go_wp2_with fail
          obtain ⟨mq, mw, tag, qb, cb, hTA⟩ := HT.out.1
          refine (there_tower id hTA).mono ?_
          rintro e w3 ⟨rfl, rfl⟩
          rw [HTH.out]
          clear hTA
          go_wp2
          go_loopg [38, 12] ss.length (fun m kv wv wr => ∃ j : Nat, kv = .int .i64 (j : Int) ∧ j + m = ss.length ∧ Below w2.heap.size w2 wr ∧ ∃ x : Int, wv = .int .i64 x ∧ ((LL.take j).any oddB = true → x = 5))
          case atStart => exact ⟨0, rfl, by omega, Below.refl _ _, _, rfl, fun h => by simp at h⟩
          case round =>
            obtain ⟨j, rfl, hjm, hbr, x, rfl, hx5⟩ := hrel
            have HR := Lib.hid (And.intro (HT.out.1.below hbr) (And.intro (HSR.out.below hbr) (HT.out.2.trans (hbr.mono HT.out.2.size))))
            have HBR := Lib.hid hbr
            clear hbr
            cases gk with
            | zero =>
              have hjn : ¬ ((j : Int) < (ss.length : Int)) := by omega
              have HX5 := Lib.hid hx5
              clear hx5
              go_wp2_with fail
              obtain ⟨mq, mw, tag, qb, cb, hTA⟩ := HR.out.1
              refine (held_tower (.slice none 0 0) [] hTA (sread_nil _) (HI.out.heldLen _)).mono ?_
              rintro e w5 ⟨vt, rfl, hvt, hb5⟩
              have H5 := Lib.hid (And.intro (HR.out.1.below hb5) (And.intro (HR.out.2.1.below hb5) (And.intro (HR.out.2.2.trans (hb5.mono HR.out.2.2.size)) hvt)))
              clear hTA hvt hb5
              go_wp2_with fail
              obtain ⟨mq, mw, tag, qb, cb, hTA⟩ := H5.out.1
              refine (task_mode (w := w5) (t := t) id mode _ HIM.out).mono ?_
              rintro e w6 ⟨err, rfl, hf, hb6⟩
              have H6 := Lib.hid (And.intro (H5.out.1.below hb6) (And.intro hf.chain (And.intro (H5.out.2.2.1.trans (hb6.mono H5.out.2.2.1.size)) (own_below H5.out.2.2.2 hb6))))
              clear hTA hf hb6
              go_wp2_with fail
              refine (code_chain 1 err 13 w6 H6.out.2.1 (HG.out.below H6.out.2.2.1)).mono ?_
              rintro e w7 ⟨rfl, hb7⟩
              have H7 := Lib.hid (And.intro (H6.out.1.below hb7) (And.intro (H6.out.2.2.1.trans (hb7.mono H6.out.2.2.1.size)) (own_below H6.out.2.2.2 hb7)))
              clear hb7
              go_wp2_with fail
              obtain ⟨mq, mw, tag, qb, cb, hTA⟩ := H7.out.1
              refine (there_tower id hTA).mono ?_
              rintro e w8 ⟨rfl, rfl⟩
              rw [HTH.out]
              go_wp2_with fail
              refine (held_tower (.slice none 0 0) [] hTA (sread_nil _) (HI.out.heldLen _)).mono ?_
              rintro e w9 ⟨vu, rfl, hvu, hb9⟩
              have H9 := Lib.hid (And.intro (own_below H7.out.2.2 hb9) (And.intro hvu (H7.out.2.1.trans (hb9.mono H7.out.2.1.size))))
              clear hTA hvu hb9
              go_wp2_with fail
              refine (gsame_any vt vu _ _ w9 (gread_of_ownsRow H9.out.1) (gread_of_ownsRow H9.out.2.1)).mono ?_
              rintro e w10 ⟨rfl, hb10⟩
              rw [decide_eq_true rfl]
              have H10 := Lib.hid (H9.out.2.2.trans (hb10.mono H9.out.2.2.size))
              clear hb10
              go_wp2
              go_ret
              exact ⟨rfl, H10.out⟩
            | succ m =>
              have hjn : (j : Int) < (ss.length : Int) := by omega
              have hj0 : (0 : Int) ≤ (j : Int) := by omega
              obtain ⟨_, a9, c9, e9, _, _, _, hc9⟩ := HR.out.2.1
              simp only [Value.slice.injEq] at e9
              rw [← e9.1] at hc9
              obtain ⟨b9, o9, rfl, hc⟩ := hc9 (by omega)
              obtain ⟨s, hs⟩ : ∃ s, s = LL[j]'(by omega) := ⟨_, rfl⟩
              have x0 : wr.cell? ⟨b9, o9 + j, none⟩ = some (.string s) := by rw [hs]; exact hc j (by omega)
              have hmem : s ∈ LL := by rw [hs]; exact List.getElem_mem _
              have htk : LL.take (j + 1) = LL.take j ++ [s] := by rw [hs]; exact List.take_succ_eq_append_getElem (by omega)
              have HTK := Lib.hid (And.intro htk hmem)
              clear hc hc9 e9 hs hmem htk
              have HX5 := Lib.hid hx5
              clear hx5
              cases f1 : s.toList.isEmpty with
              | true =>
                go_wp2
                go_roundg m
                case measure => omega
                case rel => exact ⟨j + 1, by go_num, by omega, HBR.out, _, rfl, fun _ => rfl⟩
              | false =>
                by_cases f2 : 16 < (s.size : Int)
                · have f3 : (s.size : Int) > 16 := f2
                  go_wp2
                  go_roundg m
                  case measure => omega
                  case rel => exact ⟨j + 1, by go_num, by omega, HBR.out, _, rfl, fun _ => rfl⟩
                · have f3 : ¬ ((s.size : Int) > 16) := f2
                  have hod : oddB s = false := by simp [oddB, f1, f2]
                  have HOD := Lib.hid hod
                  clear hod
                  go_wp2
                  go_roundg m
                  case measure => omega
                  case rel => exact ⟨j + 1, by go_num, by omega, HBR.out, _, rfl, fun h => HX5.out (by rw [HTK.out.1, List.any_append] at h; simpa [HOD.out] using h)⟩
      · have HLEN : Hid (LL.length ≤ 2) := Lib.hid (by omega)
        cases hth : σ.there id with
        | true =>
          have HTH := Lib.hid hth
          clear hth
          go_wp2_with fail
          obtain ⟨mq, mw, tag, qb, cb, hTA⟩ := HT.out.1
          refine (there_tower id hTA).mono ?_
          rintro e w3 ⟨rfl, rfl⟩
          rw [HTH.out]
          clear hTA
          go_wp2
          go_loopg [38, 12] ss.length (fun m kv wv wr => ∃ j : Nat, kv = .int .i64 (j : Int) ∧ j + m = ss.length ∧ Below w2.heap.size w2 wr ∧ ∃ x : Int, wv = .int .i64 x ∧ ((LL.take j).any oddB = true → x = 5))
          case atStart => exact ⟨0, rfl, by omega, Below.refl _ _, _, rfl, fun h => by simp at h⟩
          case round =>
            obtain ⟨j, rfl, hjm, hbr, x, rfl, hx5⟩ := hrel
            have HR := Lib.hid (And.intro (HT.out.1.below hbr) (And.intro (HSR.out.below hbr) (HT.out.2.trans (hbr.mono HT.out.2.size))))
            have HBR := Lib.hid hbr
            clear hbr
            cases gk with
            | zero =>
              have hjn : ¬ ((j : Int) < (ss.length : Int)) := by omega
              have HX5 := Lib.hid hx5
              clear hx5
              go_wp2_with fail
              obtain ⟨mq, mw, tag, qb, cb, hTA⟩ := HR.out.1
              refine (held_tower (.slice none 0 0) [] hTA (sread_nil _) (HI.out.heldLen _)).mono ?_
              rintro e w5 ⟨vt, rfl, hvt, hb5⟩
              have H5 := Lib.hid (And.intro (HR.out.1.below hb5) (And.intro (HR.out.2.1.below hb5) (And.intro (HR.out.2.2.trans (hb5.mono HR.out.2.2.size)) hvt)))
              clear hTA hvt hb5
              go_wp2_with fail
              obtain ⟨mq, mw, tag, qb, cb, hTA⟩ := H5.out.1
              refine (task_mode (w := w5) (t := t) id mode _ HIM.out).mono ?_
              rintro e w6 ⟨err, rfl, hf, hb6⟩
              have H6 := Lib.hid (And.intro (H5.out.1.below hb6) (And.intro hf.chain (And.intro (H5.out.2.2.1.trans (hb6.mono H5.out.2.2.1.size)) (own_below H5.out.2.2.2 hb6))))
              clear hTA hf hb6
              go_wp2_with fail
              refine (code_chain 1 err 13 w6 H6.out.2.1 (HG.out.below H6.out.2.2.1)).mono ?_
              rintro e w7 ⟨rfl, hb7⟩
              have H7 := Lib.hid (And.intro (H6.out.1.below hb7) (And.intro (H6.out.2.2.1.trans (hb7.mono H6.out.2.2.1.size)) (own_below H6.out.2.2.2 hb7)))
              clear hb7
              go_wp2_with fail
              obtain ⟨mq, mw, tag, qb, cb, hTA⟩ := H7.out.1
              refine (there_tower id hTA).mono ?_
              rintro e w8 ⟨rfl, rfl⟩
              rw [HTH.out]
              go_wp2_with fail
              refine (held_tower (.slice none 0 0) [] hTA (sread_nil _) (HI.out.heldLen _)).mono ?_
              rintro e w9 ⟨vu, rfl, hvu, hb9⟩
              have H9 := Lib.hid (And.intro (own_below H7.out.2.2 hb9) (And.intro hvu (H7.out.2.1.trans (hb9.mono H7.out.2.1.size))))
              clear hTA hvu hb9
              go_wp2_with fail
              refine (gsame_any vt vu _ _ w9 (gread_of_ownsRow H9.out.1) (gread_of_ownsRow H9.out.2.1)).mono ?_
              rintro e w10 ⟨rfl, hb10⟩
              rw [decide_eq_true rfl]
              have H10 := Lib.hid (H9.out.2.2.trans (hb10.mono H9.out.2.2.size))
              clear hb10
              go_wp2
              go_ret
              exact ⟨rfl, H10.out⟩
            | succ m =>
              have hjn : (j : Int) < (ss.length : Int) := by omega
              have hj0 : (0 : Int) ≤ (j : Int) := by omega
              obtain ⟨_, a9, c9, e9, _, _, _, hc9⟩ := HR.out.2.1
              simp only [Value.slice.injEq] at e9
              rw [← e9.1] at hc9
              obtain ⟨b9, o9, rfl, hc⟩ := hc9 (by omega)
              obtain ⟨s, hs⟩ : ∃ s, s = LL[j]'(by omega) := ⟨_, rfl⟩
              have x0 : wr.cell? ⟨b9, o9 + j, none⟩ = some (.string s) := by rw [hs]; exact hc j (by omega)
              have hmem : s ∈ LL := by rw [hs]; exact List.getElem_mem _
              have htk : LL.take (j + 1) = LL.take j ++ [s] := by rw [hs]; exact List.take_succ_eq_append_getElem (by omega)
              have HTK := Lib.hid (And.intro htk hmem)
              clear hc hc9 e9 hs hmem htk
              have HX5 := Lib.hid hx5
              clear hx5
              cases f1 : s.toList.isEmpty with
              | true =>
                go_wp2
                go_roundg m
                case measure => omega
                case rel => exact ⟨j + 1, by go_num, by omega, HBR.out, _, rfl, fun _ => rfl⟩
              | false =>
                by_cases f2 : 16 < (s.size : Int)
                · have f3 : (s.size : Int) > 16 := f2
                  go_wp2
                  go_roundg m
                  case measure => omega
                  case rel => exact ⟨j + 1, by go_num, by omega, HBR.out, _, rfl, fun _ => rfl⟩
                · have f3 : ¬ ((s.size : Int) > 16) := f2
                  have hod : oddB s = false := by simp [oddB, f1, f2]
                  have HOD := Lib.hid hod
                  clear hod
                  go_wp2
                  go_roundg m
                  case measure => omega
                  case rel => exact ⟨j + 1, by go_num, by omega, HBR.out, _, rfl, fun h => HX5.out (by rw [HTK.out.1, List.any_append] at h; simpa [HOD.out] using h)⟩
        | false =>
          have HTH := Lib.hid hth
          clear hth
          go_wp2_with fail
          obtain ⟨mq, mw, tag, qb, cb, hTA⟩ := HT.out.1
          refine (there_tower id hTA).mono ?_
          rintro e w3 ⟨rfl, rfl⟩
          rw [HTH.out]
          clear hTA
          go_wp2
          go_loopg [38, 12] ss.length (fun m kv wv wr => ∃ j : Nat, kv = .int .i64 (j : Int) ∧ j + m = ss.length ∧ Below w2.heap.size w2 wr ∧ ∃ x : Int, wv = .int .i64 x ∧ ((LL.take j).any oddB = true → x = 5))
          case atStart => exact ⟨0, rfl, by omega, Below.refl _ _, _, rfl, fun h => by simp at h⟩
          case round =>
            obtain ⟨j, rfl, hjm, hbr, x, rfl, hx5⟩ := hrel
            have HR := Lib.hid (And.intro (HT.out.1.below hbr) (And.intro (HSR.out.below hbr) (HT.out.2.trans (hbr.mono HT.out.2.size))))
            have HBR := Lib.hid hbr
            clear hbr
            cases gk with
            | zero =>
              have hjn : ¬ ((j : Int) < (ss.length : Int)) := by omega
              have HX5 := Lib.hid hx5
              clear hx5
              go_wp2_with fail
              obtain ⟨mq, mw, tag, qb, cb, hTA⟩ := HR.out.1
              refine (held_tower (.slice none 0 0) [] hTA (sread_nil _) (HI.out.heldLen _)).mono ?_
              rintro e w5 ⟨vt, rfl, hvt, hb5⟩
              have H5 := Lib.hid (And.intro (HR.out.1.below hb5) (And.intro (HR.out.2.1.below hb5) (And.intro (HR.out.2.2.trans (hb5.mono HR.out.2.2.size)) hvt)))
              clear hTA hvt hb5
              go_wp2_with fail
              obtain ⟨mq, mw, tag, qb, cb, hTA⟩ := H5.out.1
              refine (task_mode (w := w5) (t := t) id mode _ HIM.out).mono ?_
              rintro e w6 ⟨err, rfl, hf, hb6⟩
              have H6 := Lib.hid (And.intro (H5.out.1.below hb6) (And.intro hf.chain (And.intro (H5.out.2.2.1.trans (hb6.mono H5.out.2.2.1.size)) (own_below H5.out.2.2.2 hb6))))
              clear hTA hf hb6
              go_wp2_with fail
              refine (code_chain 1 err 13 w6 H6.out.2.1 (HG.out.below H6.out.2.2.1)).mono ?_
              rintro e w7 ⟨rfl, hb7⟩
              have H7 := Lib.hid (And.intro (H6.out.1.below hb7) (And.intro (H6.out.2.2.1.trans (hb7.mono H6.out.2.2.1.size)) (own_below H6.out.2.2.2 hb7)))
              clear hb7
              go_wp2_with fail
              obtain ⟨mq, mw, tag, qb, cb, hTA⟩ := H7.out.1
              refine (there_tower id hTA).mono ?_
              rintro e w8 ⟨rfl, rfl⟩
              rw [HTH.out]
              go_wp2_with fail
              refine (held_tower (.slice none 0 0) [] hTA (sread_nil _) (HI.out.heldLen _)).mono ?_
              rintro e w9 ⟨vu, rfl, hvu, hb9⟩
              have H9 := Lib.hid (And.intro (own_below H7.out.2.2 hb9) (And.intro hvu (H7.out.2.1.trans (hb9.mono H7.out.2.1.size))))
              clear hTA hvu hb9
              go_wp2_with fail
              refine (gsame_any vt vu _ _ w9 (gread_of_ownsRow H9.out.1) (gread_of_ownsRow H9.out.2.1)).mono ?_
              rintro e w10 ⟨rfl, hb10⟩
              rw [decide_eq_true rfl]
              have H10 := Lib.hid (H9.out.2.2.trans (hb10.mono H9.out.2.2.size))
              clear hb10
              go_wp2
              go_ret
              exact ⟨rfl, H10.out⟩
            | succ m =>
              have hjn : (j : Int) < (ss.length : Int) := by omega
              have hj0 : (0 : Int) ≤ (j : Int) := by omega
              obtain ⟨_, a9, c9, e9, _, _, _, hc9⟩ := HR.out.2.1
              simp only [Value.slice.injEq] at e9
              rw [← e9.1] at hc9
              obtain ⟨b9, o9, rfl, hc⟩ := hc9 (by omega)
              obtain ⟨s, hs⟩ : ∃ s, s = LL[j]'(by omega) := ⟨_, rfl⟩
              have x0 : wr.cell? ⟨b9, o9 + j, none⟩ = some (.string s) := by rw [hs]; exact hc j (by omega)
              have hmem : s ∈ LL := by rw [hs]; exact List.getElem_mem _
              have htk : LL.take (j + 1) = LL.take j ++ [s] := by rw [hs]; exact List.take_succ_eq_append_getElem (by omega)
              have HTK := Lib.hid (And.intro htk hmem)
              clear hc hc9 e9 hs hmem htk
              have HX5 := Lib.hid hx5
              clear hx5
              cases f1 : s.toList.isEmpty with
              | true =>
                go_wp2
                go_roundg m
                case measure => omega
                case rel => exact ⟨j + 1, by go_num, by omega, HBR.out, _, rfl, fun _ => rfl⟩
              | false =>
                by_cases f2 : 16 < (s.size : Int)
                · have f3 : (s.size : Int) > 16 := f2
                  go_wp2
                  go_roundg m
                  case measure => omega
                  case rel => exact ⟨j + 1, by go_num, by omega, HBR.out, _, rfl, fun _ => rfl⟩
                · have f3 : ¬ ((s.size : Int) > 16) := f2
                  have hod : oddB s = false := by simp [oddB, f1, f2]
                  have HOD := Lib.hid hod
                  clear hod
                  go_wp2
                  go_roundg m
                  case measure => omega
                  case rel => exact ⟨j + 1, by go_num, by omega, HBR.out, _, rfl, fun h => HX5.out (by rw [HTK.out.1, List.any_append] at h; simpa [HOD.out] using h)⟩
    · by_cases hm4 : mode > 4
      · have HIM : Hid (intentI mode = 0) := Lib.hid (by unfold intentI; rw [if_neg (by omega), if_neg (by omega)])
        by_cases hlen2 : (ss.length : Int) > 2
        · have HLEN : Hid (2 < LL.length) := Lib.hid (by omega)
          cases hth : σ.there id with
          | true =>
            have HTH := Lib.hid hth
            clear hth
            go_wp2_with fail
            obtain ⟨mq, mw, tag, qb, cb, hTA⟩ := HT.out.1
            refine (there_tower id hTA).mono ?_
            rintro e w3 ⟨rfl, rfl⟩
            rw [HTH.out]
            clear hTA
            go_wp2
            go_loopg [38, 12] ss.length (fun m kv wv wr => ∃ j : Nat, kv = .int .i64 (j : Int) ∧ j + m = ss.length ∧ Below w2.heap.size w2 wr ∧ ∃ x : Int, wv = .int .i64 x ∧ ((LL.take j).any oddB = true → x = 5))
            case atStart => exact ⟨0, rfl, by omega, Below.refl _ _, _, rfl, fun h => by simp at h⟩
            case round =>
              obtain ⟨j, rfl, hjm, hbr, x, rfl, hx5⟩ := hrel
              have HR := Lib.hid (And.intro (HT.out.1.below hbr) (And.intro (HSR.out.below hbr) (HT.out.2.trans (hbr.mono HT.out.2.size))))
              have HBR := Lib.hid hbr
              clear hbr
              cases gk with
              | zero =>
                have hjn : ¬ ((j : Int) < (ss.length : Int)) := by omega
                have HX5 := Lib.hid hx5
                clear hx5
                go_wp2_with fail
                obtain ⟨mq, mw, tag, qb, cb, hTA⟩ := HR.out.1
                refine (held_tower (.slice none 0 0) [] hTA (sread_nil _) (HI.out.heldLen _)).mono ?_
                rintro e w5 ⟨vt, rfl, hvt, hb5⟩
                have H5 := Lib.hid (And.intro (HR.out.1.below hb5) (And.intro (HR.out.2.1.below hb5) (And.intro (HR.out.2.2.trans (hb5.mono HR.out.2.2.size)) hvt)))
                clear hTA hvt hb5
                go_wp2_with fail
                obtain ⟨mq, mw, tag, qb, cb, hTA⟩ := H5.out.1
                refine (task_mode (w := w5) (t := t) id mode _ HIM.out).mono ?_
                rintro e w6 ⟨err, rfl, hf, hb6⟩
                have H6 := Lib.hid (And.intro (H5.out.1.below hb6) (And.intro hf.chain (And.intro (H5.out.2.2.1.trans (hb6.mono H5.out.2.2.1.size)) (own_below H5.out.2.2.2 hb6))))
                clear hTA hf hb6
                go_wp2_with fail
                refine (code_chain 1 err 13 w6 H6.out.2.1 (HG.out.below H6.out.2.2.1)).mono ?_
                rintro e w7 ⟨rfl, hb7⟩
                have H7 := Lib.hid (And.intro (H6.out.1.below hb7) (And.intro (H6.out.2.2.1.trans (hb7.mono H6.out.2.2.1.size)) (own_below H6.out.2.2.2 hb7)))
                clear hb7
                go_wp2_with fail
                obtain ⟨mq, mw, tag, qb, cb, hTA⟩ := H7.out.1
                refine (there_tower id hTA).mono ?_
                rintro e w8 ⟨rfl, rfl⟩
                rw [HTH.out]
                go_wp2_with fail
                refine (held_tower (.slice none 0 0) [] hTA (sread_nil _) (HI.out.heldLen _)).mono ?_
                rintro e w9 ⟨vu, rfl, hvu, hb9⟩
                have H9 := Lib.hid (And.intro (own_below H7.out.2.2 hb9) (And.intro hvu (H7.out.2.1.trans (hb9.mono H7.out.2.1.size))))
                clear hTA hvu hb9
                go_wp2_with fail
                refine (gsame_any vt vu _ _ w9 (gread_of_ownsRow H9.out.1) (gread_of_ownsRow H9.out.2.1)).mono ?_
                rintro e w10 ⟨rfl, hb10⟩
                rw [decide_eq_true rfl]
                have H10 := Lib.hid (H9.out.2.2.trans (hb10.mono H9.out.2.2.size))
                clear hb10
                go_wp2
                go_ret
                exact ⟨rfl, H10.out⟩
              | succ m =>
                have hjn : (j : Int) < (ss.length : Int) := by omega
                have hj0 : (0 : Int) ≤ (j : Int) := by omega
                obtain ⟨_, a9, c9, e9, _, _, _, hc9⟩ := HR.out.2.1
                simp only [Value.slice.injEq] at e9
                rw [← e9.1] at hc9
                obtain ⟨b9, o9, rfl, hc⟩ := hc9 (by omega)
                obtain ⟨s, hs⟩ : ∃ s, s = LL[j]'(by omega) := ⟨_, rfl⟩
                have x0 : wr.cell? ⟨b9, o9 + j, none⟩ = some (.string s) := by rw [hs]; exact hc j (by omega)
                have hmem : s ∈ LL := by rw [hs]; exact List.getElem_mem _
                have htk : LL.take (j + 1) = LL.take j ++ [s] := by rw [hs]; exact List.take_succ_eq_append_getElem (by omega)
                have HTK := Lib.hid (And.intro htk hmem)
                clear hc hc9 e9 hs hmem htk
                have HX5 := Lib.hid hx5
                clear hx5
                cases f1 : s.toList.isEmpty with
                | true =>
                  go_wp2
                  go_roundg m
                  case measure => omega
                  case rel => exact ⟨j + 1, by go_num, by omega, HBR.out, _, rfl, fun _ => rfl⟩
                | false =>
                  by_cases f2 : 16 < (s.size : Int)
                  · have f3 : (s.size : Int) > 16 := f2
                    go_wp2
                    go_roundg m
                    case measure => omega
                    case rel => exact ⟨j + 1, by go_num, by omega, HBR.out, _, rfl, fun _ => rfl⟩
                  · have f3 : ¬ ((s.size : Int) > 16) := f2
                    have hod : oddB s = false := by simp [oddB, f1, f2]
                    have HOD := Lib.hid hod
                    clear hod
                    go_wp2
                    go_roundg m
                    case measure => omega
                    case rel => exact ⟨j + 1, by go_num, by omega, HBR.out, _, rfl, fun h => HX5.out (by rw [HTK.out.1, List.any_append] at h; simpa [HOD.out] using h)⟩
          | false =>
            have HTH := Lib.hid hth
            clear hth
            go_wp2_with fail
            obtain ⟨mq, mw, tag, qb, cb, hTA⟩ := HT.out.1
            refine (there_tower id hTA).mono ?_
            rintro e w3 ⟨rfl, rfl⟩
            rw [HTH.out]
            clear hTA
            go_wp2
            go_loopg [38, 12] ss.length (fun m kv wv wr => ∃ j : Nat, kv = .int .i64 (j : Int) ∧ j + m = ss.length ∧ Below w2.heap.size w2 wr ∧ ∃ x : Int, wv = .int .i64 x ∧ ((LL.take j).any oddB = true → x = 5))
            case atStart => exact ⟨0, rfl, by omega, Below.refl _ _, _, rfl, fun h => by simp at h⟩
            case round =>
              obtain ⟨j, rfl, hjm, hbr, x, rfl, hx5⟩ := hrel
              have HR := Lib.hid (And.intro (HT.out.1.below hbr) (And.intro (HSR.out.below hbr) (HT.out.2.trans (hbr.mono HT.out.2.size))))
              have HBR := Lib.hid hbr
              clear hbr
              cases gk with
              | zero =>
                have hjn : ¬ ((j : Int) < (ss.length : Int)) := by omega
                have HX5 := Lib.hid hx5
                clear hx5
                go_wp2_with fail
                obtain ⟨mq, mw, tag, qb, cb, hTA⟩ := HR.out.1
                refine (held_tower (.slice none 0 0) [] hTA (sread_nil _) (HI.out.heldLen _)).mono ?_
                rintro e w5 ⟨vt, rfl, hvt, hb5⟩
                have H5 := Lib.hid (And.intro (HR.out.1.below hb5) (And.intro (HR.out.2.1.below hb5) (And.intro (HR.out.2.2.trans (hb5.mono HR.out.2.2.size)) hvt)))
                clear hTA hvt hb5
                go_wp2_with fail
                obtain ⟨mq, mw, tag, qb, cb, hTA⟩ := H5.out.1
                refine (task_mode (w := w5) (t := t) id mode _ HIM.out).mono ?_
                rintro e w6 ⟨err, rfl, hf, hb6⟩
                have H6 := Lib.hid (And.intro (H5.out.1.below hb6) (And.intro hf.chain (And.intro (H5.out.2.2.1.trans (hb6.mono H5.out.2.2.1.size)) (own_below H5.out.2.2.2 hb6))))
                clear hTA hf hb6
                go_wp2_with fail
                refine (code_chain 1 err 13 w6 H6.out.2.1 (HG.out.below H6.out.2.2.1)).mono ?_
                rintro e w7 ⟨rfl, hb7⟩
                have H7 := Lib.hid (And.intro (H6.out.1.below hb7) (And.intro (H6.out.2.2.1.trans (hb7.mono H6.out.2.2.1.size)) (own_below H6.out.2.2.2 hb7)))
                clear hb7
                go_wp2_with fail
                obtain ⟨mq, mw, tag, qb, cb, hTA⟩ := H7.out.1
                refine (there_tower id hTA).mono ?_
                rintro e w8 ⟨rfl, rfl⟩
                rw [HTH.out]
                go_wp2_with fail
                refine (held_tower (.slice none 0 0) [] hTA (sread_nil _) (HI.out.heldLen _)).mono ?_
                rintro e w9 ⟨vu, rfl, hvu, hb9⟩
                have H9 := Lib.hid (And.intro (own_below H7.out.2.2 hb9) (And.intro hvu (H7.out.2.1.trans (hb9.mono H7.out.2.1.size))))
                clear hTA hvu hb9
                go_wp2_with fail
                refine (gsame_any vt vu _ _ w9 (gread_of_ownsRow H9.out.1) (gread_of_ownsRow H9.out.2.1)).mono ?_
                rintro e w10 ⟨rfl, hb10⟩
                rw [decide_eq_true rfl]
                have H10 := Lib.hid (H9.out.2.2.trans (hb10.mono H9.out.2.2.size))
                clear hb10
                go_wp2
                go_ret
                exact ⟨rfl, H10.out⟩
              | succ m =>
                have hjn : (j : Int) < (ss.length : Int) := by omega
                have hj0 : (0 : Int) ≤ (j : Int) := by omega
                obtain ⟨_, a9, c9, e9, _, _, _, hc9⟩ := HR.out.2.1
                simp only [Value.slice.injEq] at e9
                rw [← e9.1] at hc9
                obtain ⟨b9, o9, rfl, hc⟩ := hc9 (by omega)
                obtain ⟨s, hs⟩ : ∃ s, s = LL[j]'(by omega) := ⟨_, rfl⟩
                have x0 : wr.cell? ⟨b9, o9 + j, none⟩ = some (.string s) := by rw [hs]; exact hc j (by omega)
                have hmem : s ∈ LL := by rw [hs]; exact List.getElem_mem _
                have htk : LL.take (j + 1) = LL.take j ++ [s] := by rw [hs]; exact List.take_succ_eq_append_getElem (by omega)
                have HTK := Lib.hid (And.intro htk hmem)
                clear hc hc9 e9 hs hmem htk
                have HX5 := Lib.hid hx5
                clear hx5
                cases f1 : s.toList.isEmpty with
                | true =>
                  go_wp2
                  go_roundg m
                  case measure => omega
                  case rel => exact ⟨j + 1, by go_num, by omega, HBR.out, _, rfl, fun _ => rfl⟩
                | false =>
                  by_cases f2 : 16 < (s.size : Int)
                  · have f3 : (s.size : Int) > 16 := f2
                    go_wp2
                    go_roundg m
                    case measure => omega
                    case rel => exact ⟨j + 1, by go_num, by omega, HBR.out, _, rfl, fun _ => rfl⟩
                  · have f3 : ¬ ((s.size : Int) > 16) := f2
                    have hod : oddB s = false := by simp [oddB, f1, f2]
                    have HOD := Lib.hid hod
                    clear hod
                    go_wp2
                    go_roundg m
                    case measure => omega
                    case rel => exact ⟨j + 1, by go_num, by omega, HBR.out, _, rfl, fun h => HX5.out (by rw [HTK.out.1, List.any_append] at h; simpa [HOD.out] using h)⟩
        · have HLEN : Hid (LL.length ≤ 2) := Lib.hid (by omega)
          cases hth : σ.there id with
          | true =>
            have HTH := Lib.hid hth
            clear hth
            go_wp2_with fail
            obtain ⟨mq, mw, tag, qb, cb, hTA⟩ := HT.out.1
            refine (there_tower id hTA).mono ?_
            rintro e w3 ⟨rfl, rfl⟩
            rw [HTH.out]
            clear hTA
            go_wp2
            go_loopg [38, 12] ss.length (fun m kv wv wr => ∃ j : Nat, kv = .int .i64 (j : Int) ∧ j + m = ss.length ∧ Below w2.heap.size w2 wr ∧ ∃ x : Int, wv = .int .i64 x ∧ ((LL.take j).any oddB = true → x = 5))
            case atStart => exact ⟨0, rfl, by omega, Below.refl _ _, _, rfl, fun h => by simp at h⟩
            case round =>
              obtain ⟨j, rfl, hjm, hbr, x, rfl, hx5⟩ := hrel
              have HR := Lib.hid (And.intro (HT.out.1.below hbr) (And.intro (HSR.out.below hbr) (HT.out.2.trans (hbr.mono HT.out.2.size))))
              have HBR := Lib.hid hbr
              clear hbr
              cases gk with
              | zero =>
                have hjn : ¬ ((j : Int) < (ss.length : Int)) := by omega
                have HX5 := Lib.hid hx5
                clear hx5
                go_wp2_with fail
                obtain ⟨mq, mw, tag, qb, cb, hTA⟩ := HR.out.1
                refine (held_tower (.slice none 0 0) [] hTA (sread_nil _) (HI.out.heldLen _)).mono ?_
                rintro e w5 ⟨vt, rfl, hvt, hb5⟩
                have H5 := Lib.hid (And.intro (HR.out.1.below hb5) (And.intro (HR.out.2.1.below hb5) (And.intro (HR.out.2.2.trans (hb5.mono HR.out.2.2.size)) hvt)))
                clear hTA hvt hb5
                go_wp2_with fail
                obtain ⟨mq, mw, tag, qb, cb, hTA⟩ := H5.out.1
                refine (task_mode (w := w5) (t := t) id mode _ HIM.out).mono ?_
                rintro e w6 ⟨err, rfl, hf, hb6⟩
                have H6 := Lib.hid (And.intro (H5.out.1.below hb6) (And.intro hf.chain (And.intro (H5.out.2.2.1.trans (hb6.mono H5.out.2.2.1.size)) (own_below H5.out.2.2.2 hb6))))
                clear hTA hf hb6
                go_wp2_with fail
                refine (code_chain 1 err 13 w6 H6.out.2.1 (HG.out.below H6.out.2.2.1)).mono ?_
                rintro e w7 ⟨rfl, hb7⟩
                have H7 := Lib.hid (And.intro (H6.out.1.below hb7) (And.intro (H6.out.2.2.1.trans (hb7.mono H6.out.2.2.1.size)) (own_below H6.out.2.2.2 hb7)))
                clear hb7
                go_wp2_with fail
                obtain ⟨mq, mw, tag, qb, cb, hTA⟩ := H7.out.1
                refine (there_tower id hTA).mono ?_
                rintro e w8 ⟨rfl, rfl⟩
                rw [HTH.out]
                go_wp2_with fail
                refine (held_tower (.slice none 0 0) [] hTA (sread_nil _) (HI.out.heldLen _)).mono ?_
                rintro e w9 ⟨vu, rfl, hvu, hb9⟩
                have H9 := Lib.hid (And.intro (own_below H7.out.2.2 hb9) (And.intro hvu (H7.out.2.1.trans (hb9.mono H7.out.2.1.size))))
                clear hTA hvu hb9
                go_wp2_with fail
                refine (gsame_any vt vu _ _ w9 (gread_of_ownsRow H9.out.1) (gread_of_ownsRow H9.out.2.1)).mono ?_
                rintro e w10 ⟨rfl, hb10⟩
                rw [decide_eq_true rfl]
                have H10 := Lib.hid (H9.out.2.2.trans (hb10.mono H9.out.2.2.size))
                clear hb10
                go_wp2
                go_ret
                exact ⟨rfl, H10.out⟩
              | succ m =>
                have hjn : (j : Int) < (ss.length : Int) := by omega
                have hj0 : (0 : Int) ≤ (j : Int) := by omega
                obtain ⟨_, a9, c9, e9, _, _, _, hc9⟩ := HR.out.2.1
                simp only [Value.slice.injEq] at e9
                rw [← e9.1] at hc9
                obtain ⟨b9, o9, rfl, hc⟩ := hc9 (by omega)
                obtain ⟨s, hs⟩ : ∃ s, s = LL[j]'(by omega) := ⟨_, rfl⟩
                have x0 : wr.cell? ⟨b9, o9 + j, none⟩ = some (.string s) := by rw [hs]; exact hc j (by omega)
                have hmem : s ∈ LL := by rw [hs]; exact List.getElem_mem _
                have htk : LL.take (j + 1) = LL.take j ++ [s] := by rw [hs]; exact List.take_succ_eq_append_getElem (by omega)
                have HTK := Lib.hid (And.intro htk hmem)
                clear hc hc9 e9 hs hmem htk
                have HX5 := Lib.hid hx5
                clear hx5
                cases f1 : s.toList.isEmpty with
                | true =>
                  go_wp2
                  go_roundg m
                  case measure => omega
                  case rel => exact ⟨j + 1, by go_num, by omega, HBR.out, _, rfl, fun _ => rfl⟩
                | false =>
                  by_cases f2 : 16 < (s.size : Int)
                  · have f3 : (s.size : Int) > 16 := f2
                    go_wp2
                    go_roundg m
                    case measure => omega
                    case rel => exact ⟨j + 1, by go_num, by omega, HBR.out, _, rfl, fun _ => rfl⟩
                  · have f3 : ¬ ((s.size : Int) > 16) := f2
                    have hod : oddB s = false := by simp [oddB, f1, f2]
                    have HOD := Lib.hid hod
                    clear hod
                    go_wp2
                    go_roundg m
                    case measure => omega
                    case rel => exact ⟨j + 1, by go_num, by omega, HBR.out, _, rfl, fun h => HX5.out (by rw [HTK.out.1, List.any_append] at h; simpa [HOD.out] using h)⟩
          | false =>
            have HTH := Lib.hid hth
            clear hth
            go_wp2_with fail
            obtain ⟨mq, mw, tag, qb, cb, hTA⟩ := HT.out.1
            refine (there_tower id hTA).mono ?_
            rintro e w3 ⟨rfl, rfl⟩
            rw [HTH.out]
            clear hTA
            go_wp2
            go_loopg [38, 12] ss.length (fun m kv wv wr => ∃ j : Nat, kv = .int .i64 (j : Int) ∧ j + m = ss.length ∧ Below w2.heap.size w2 wr ∧ ∃ x : Int, wv = .int .i64 x ∧ ((LL.take j).any oddB = true → x = 5))
            case atStart => exact ⟨0, rfl, by omega, Below.refl _ _, _, rfl, fun h => by simp at h⟩
            case round =>
              obtain ⟨j, rfl, hjm, hbr, x, rfl, hx5⟩ := hrel
              have HR := Lib.hid (And.intro (HT.out.1.below hbr) (And.intro (HSR.out.below hbr) (HT.out.2.trans (hbr.mono HT.out.2.size))))
              have HBR := Lib.hid hbr
              clear hbr
              cases gk with
              | zero =>
                have hjn : ¬ ((j : Int) < (ss.length : Int)) := by omega
                have HX5 := Lib.hid hx5
                clear hx5
                go_wp2_with fail
                obtain ⟨mq, mw, tag, qb, cb, hTA⟩ := HR.out.1
                refine (held_tower (.slice none 0 0) [] hTA (sread_nil _) (HI.out.heldLen _)).mono ?_
                rintro e w5 ⟨vt, rfl, hvt, hb5⟩
                have H5 := Lib.hid (And.intro (HR.out.1.below hb5) (And.intro (HR.out.2.1.below hb5) (And.intro (HR.out.2.2.trans (hb5.mono HR.out.2.2.size)) hvt)))
                clear hTA hvt hb5
                go_wp2_with fail
                obtain ⟨mq, mw, tag, qb, cb, hTA⟩ := H5.out.1
                refine (task_mode (w := w5) (t := t) id mode _ HIM.out).mono ?_
                rintro e w6 ⟨err, rfl, hf, hb6⟩
                have H6 := Lib.hid (And.intro (H5.out.1.below hb6) (And.intro hf.chain (And.intro (H5.out.2.2.1.trans (hb6.mono H5.out.2.2.1.size)) (own_below H5.out.2.2.2 hb6))))
                clear hTA hf hb6
                go_wp2_with fail
                refine (code_chain 1 err 13 w6 H6.out.2.1 (HG.out.below H6.out.2.2.1)).mono ?_
                rintro e w7 ⟨rfl, hb7⟩
                have H7 := Lib.hid (And.intro (H6.out.1.below hb7) (And.intro (H6.out.2.2.1.trans (hb7.mono H6.out.2.2.1.size)) (own_below H6.out.2.2.2 hb7)))
                clear hb7
                go_wp2_with fail
                obtain ⟨mq, mw, tag, qb, cb, hTA⟩ := H7.out.1
                refine (there_tower id hTA).mono ?_
                rintro e w8 ⟨rfl, rfl⟩
                rw [HTH.out]
                go_wp2_with fail
                refine (held_tower (.slice none 0 0) [] hTA (sread_nil _) (HI.out.heldLen _)).mono ?_
                rintro e w9 ⟨vu, rfl, hvu, hb9⟩
                have H9 := Lib.hid (And.intro (own_below H7.out.2.2 hb9) (And.intro hvu (H7.out.2.1.trans (hb9.mono H7.out.2.1.size))))
                clear hTA hvu hb9
                go_wp2_with fail
                refine (gsame_any vt vu _ _ w9 (gread_of_ownsRow H9.out.1) (gread_of_ownsRow H9.out.2.1)).mono ?_
                rintro e w10 ⟨rfl, hb10⟩
                rw [decide_eq_true rfl]
                have H10 := Lib.hid (H9.out.2.2.trans (hb10.mono H9.out.2.2.size))
                clear hb10
                go_wp2
                go_ret
                exact ⟨rfl, H10.out⟩
              | succ m =>
                have hjn : (j : Int) < (ss.length : Int) := by omega
                have hj0 : (0 : Int) ≤ (j : Int) := by omega
                obtain ⟨_, a9, c9, e9, _, _, _, hc9⟩ := HR.out.2.1
                simp only [Value.slice.injEq] at e9
                rw [← e9.1] at hc9
                obtain ⟨b9, o9, rfl, hc⟩ := hc9 (by omega)
                obtain ⟨s, hs⟩ : ∃ s, s = LL[j]'(by omega) := ⟨_, rfl⟩
                have x0 : wr.cell? ⟨b9, o9 + j, none⟩ = some (.string s) := by rw [hs]; exact hc j (by omega)
                have hmem : s ∈ LL := by rw [hs]; exact List.getElem_mem _
                have htk : LL.take (j + 1) = LL.take j ++ [s] := by rw [hs]; exact List.take_succ_eq_append_getElem (by omega)
                have HTK := Lib.hid (And.intro htk hmem)
                clear hc hc9 e9 hs hmem htk
                have HX5 := Lib.hid hx5
                clear hx5
                cases f1 : s.toList.isEmpty with
                | true =>
                  go_wp2
                  go_roundg m
                  case measure => omega
                  case rel => exact ⟨j + 1, by go_num, by omega, HBR.out, _, rfl, fun _ => rfl⟩
                | false =>
                  by_cases f2 : 16 < (s.size : Int)
                  · have f3 : (s.size : Int) > 16 := f2
                    go_wp2
                    go_roundg m
                    case measure => omega
                    case rel => exact ⟨j + 1, by go_num, by omega, HBR.out, _, rfl, fun _ => rfl⟩
                  · have f3 : ¬ ((s.size : Int) > 16) := f2
                    have hod : oddB s = false := by simp [oddB, f1, f2]
                    have HOD := Lib.hid hod
                    clear hod
                    go_wp2
                    go_roundg m
                    case measure => omega
                    case rel => exact ⟨j + 1, by go_num, by omega, HBR.out, _, rfl, fun h => HX5.out (by rw [HTK.out.1, List.any_append] at h; simpa [HOD.out] using h)⟩
      · have HMO : Hid (1 ≤ mode ∧ mode ≤ 4) := Lib.hid ⟨by omega, by omega⟩
        by_cases hlen2 : (ss.length : Int) > 2
        · have HLEN : Hid (2 < LL.length) := Lib.hid (by omega)
          cases hth : σ.there id with
          | true =>
            have HTH := Lib.hid hth
            clear hth
            go_wp2_with fail
            obtain ⟨mq, mw, tag, qb, cb, hTA⟩ := HT.out.1
            refine (there_tower id hTA).mono ?_
            rintro e w3 ⟨rfl, rfl⟩
            rw [HTH.out]
            clear hTA
            go_wp2
            go_loopg [38, 12] ss.length (fun m kv wv wr => ∃ j : Nat, kv = .int .i64 (j : Int) ∧ j + m = ss.length ∧ Below w2.heap.size w2 wr ∧ ∃ x : Int, wv = .int .i64 x ∧ ((LL.take j).any oddB = true → x = 5))
            case atStart => exact ⟨0, rfl, by omega, Below.refl _ _, _, rfl, fun h => by simp at h⟩
            case round =>
              obtain ⟨j, rfl, hjm, hbr, x, rfl, hx5⟩ := hrel
              have HR := Lib.hid (And.intro (HT.out.1.below hbr) (And.intro (HSR.out.below hbr) (HT.out.2.trans (hbr.mono HT.out.2.size))))
              have HBR := Lib.hid hbr
              clear hbr
              cases gk with
              | zero =>
                have hjn : ¬ ((j : Int) < (ss.length : Int)) := by omega
                have HX5 := Lib.hid hx5
                clear hx5
                go_wp2_with fail
                obtain ⟨mq, mw, tag, qb, cb, hTA⟩ := HR.out.1
                refine (held_tower (.slice none 0 0) [] hTA (sread_nil _) (HI.out.heldLen _)).mono ?_
                rintro e w5 ⟨vt, rfl, hvt, hb5⟩
                have H5 := Lib.hid (And.intro (HR.out.1.below hb5) (And.intro (HR.out.2.1.below hb5) (And.intro (HR.out.2.2.trans (hb5.mono HR.out.2.2.size)) hvt)))
                clear hTA hvt hb5
                go_wp2_with fail
                obtain ⟨mq, mw, tag, qb, cb, hTA⟩ := H5.out.1
                refine (task_name (w := w5) (t := t) id mode _ LL (intentI_ok HMO.out) H5.out.2.1 (.inl HLEN.out)).mono ?_
                rintro e w6 ⟨err, rfl, hf, hb6⟩
                have H6 := Lib.hid (And.intro (H5.out.1.below hb6) (And.intro hf.chain (And.intro (H5.out.2.2.1.trans (hb6.mono H5.out.2.2.1.size)) (own_below H5.out.2.2.2 hb6))))
                clear hTA hf hb6
                go_wp2_with fail
                refine (code_chain 1 err 5 w6 H6.out.2.1 (HG.out.below H6.out.2.2.1)).mono ?_
                rintro e w7 ⟨rfl, hb7⟩
                have H7 := Lib.hid (And.intro (H6.out.1.below hb7) (And.intro (H6.out.2.2.1.trans (hb7.mono H6.out.2.2.1.size)) (own_below H6.out.2.2.2 hb7)))
                clear hb7
                go_wp2_with fail
                obtain ⟨mq, mw, tag, qb, cb, hTA⟩ := H7.out.1
                refine (there_tower id hTA).mono ?_
                rintro e w8 ⟨rfl, rfl⟩
                rw [HTH.out]
                go_wp2_with fail
                refine (held_tower (.slice none 0 0) [] hTA (sread_nil _) (HI.out.heldLen _)).mono ?_
                rintro e w9 ⟨vu, rfl, hvu, hb9⟩
                have H9 := Lib.hid (And.intro (own_below H7.out.2.2 hb9) (And.intro hvu (H7.out.2.1.trans (hb9.mono H7.out.2.1.size))))
                clear hTA hvu hb9
                go_wp2_with fail
                refine (gsame_any vt vu _ _ w9 (gread_of_ownsRow H9.out.1) (gread_of_ownsRow H9.out.2.1)).mono ?_
                rintro e w10 ⟨rfl, hb10⟩
                rw [decide_eq_true rfl]
                have H10 := Lib.hid (H9.out.2.2.trans (hb10.mono H9.out.2.2.size))
                clear hb10
                go_wp2
                go_ret
                exact ⟨rfl, H10.out⟩
              | succ m =>
                have hjn : (j : Int) < (ss.length : Int) := by omega
                have hj0 : (0 : Int) ≤ (j : Int) := by omega
                obtain ⟨_, a9, c9, e9, _, _, _, hc9⟩ := HR.out.2.1
                simp only [Value.slice.injEq] at e9
                rw [← e9.1] at hc9
                obtain ⟨b9, o9, rfl, hc⟩ := hc9 (by omega)
                obtain ⟨s, hs⟩ : ∃ s, s = LL[j]'(by omega) := ⟨_, rfl⟩
                have x0 : wr.cell? ⟨b9, o9 + j, none⟩ = some (.string s) := by rw [hs]; exact hc j (by omega)
                have hmem : s ∈ LL := by rw [hs]; exact List.getElem_mem _
                have htk : LL.take (j + 1) = LL.take j ++ [s] := by rw [hs]; exact List.take_succ_eq_append_getElem (by omega)
                have HTK := Lib.hid (And.intro htk hmem)
                clear hc hc9 e9 hs hmem htk
                have HX5 := Lib.hid hx5
                clear hx5
                cases f1 : s.toList.isEmpty with
                | true =>
                  go_wp2
                  go_roundg m
                  case measure => omega
                  case rel => exact ⟨j + 1, by go_num, by omega, HBR.out, _, rfl, fun _ => rfl⟩
                | false =>
                  by_cases f2 : 16 < (s.size : Int)
                  · have f3 : (s.size : Int) > 16 := f2
                    go_wp2
                    go_roundg m
                    case measure => omega
                    case rel => exact ⟨j + 1, by go_num, by omega, HBR.out, _, rfl, fun _ => rfl⟩
                  · have f3 : ¬ ((s.size : Int) > 16) := f2
                    have hod : oddB s = false := by simp [oddB, f1, f2]
                    have HOD := Lib.hid hod
                    clear hod
                    go_wp2
                    go_roundg m
                    case measure => omega
                    case rel => exact ⟨j + 1, by go_num, by omega, HBR.out, _, rfl, fun h => HX5.out (by rw [HTK.out.1, List.any_append] at h; simpa [HOD.out] using h)⟩
          | false =>
            have HTH := Lib.hid hth
            clear hth
            go_wp2_with fail
            obtain ⟨mq, mw, tag, qb, cb, hTA⟩ := HT.out.1
            refine (there_tower id hTA).mono ?_
            rintro e w3 ⟨rfl, rfl⟩
            rw [HTH.out]
            clear hTA
            go_wp2
            go_loopg [38, 12] ss.length (fun m kv wv wr => ∃ j : Nat, kv = .int .i64 (j : Int) ∧ j + m = ss.length ∧ Below w2.heap.size w2 wr ∧ ∃ x : Int, wv = .int .i64 x ∧ ((LL.take j).any oddB = true → x = 5))
            case atStart => exact ⟨0, rfl, by omega, Below.refl _ _, _, rfl, fun h => by simp at h⟩
            case round =>
              obtain ⟨j, rfl, hjm, hbr, x, rfl, hx5⟩ := hrel
              have HR := Lib.hid (And.intro (HT.out.1.below hbr) (And.intro (HSR.out.below hbr) (HT.out.2.trans (hbr.mono HT.out.2.size))))
              have HBR := Lib.hid hbr
              clear hbr
              cases gk with
              | zero =>
                have hjn : ¬ ((j : Int) < (ss.length : Int)) := by omega
                have HX5 := Lib.hid hx5
                clear hx5
                go_wp2_with fail
                obtain ⟨mq, mw, tag, qb, cb, hTA⟩ := HR.out.1
                refine (held_tower (.slice none 0 0) [] hTA (sread_nil _) (HI.out.heldLen _)).mono ?_
                rintro e w5 ⟨vt, rfl, hvt, hb5⟩
                have H5 := Lib.hid (And.intro (HR.out.1.below hb5) (And.intro (HR.out.2.1.below hb5) (And.intro (HR.out.2.2.trans (hb5.mono HR.out.2.2.size)) hvt)))
                clear hTA hvt hb5
                go_wp2_with fail
                obtain ⟨mq, mw, tag, qb, cb, hTA⟩ := H5.out.1
                refine (task_name (w := w5) (t := t) id mode _ LL (intentI_ok HMO.out) H5.out.2.1 (.inl HLEN.out)).mono ?_
                rintro e w6 ⟨err, rfl, hf, hb6⟩
                have H6 := Lib.hid (And.intro (H5.out.1.below hb6) (And.intro hf.chain (And.intro (H5.out.2.2.1.trans (hb6.mono H5.out.2.2.1.size)) (own_below H5.out.2.2.2 hb6))))
                clear hTA hf hb6
                go_wp2_with fail
                refine (code_chain 1 err 5 w6 H6.out.2.1 (HG.out.below H6.out.2.2.1)).mono ?_
                rintro e w7 ⟨rfl, hb7⟩
                have H7 := Lib.hid (And.intro (H6.out.1.below hb7) (And.intro (H6.out.2.2.1.trans (hb7.mono H6.out.2.2.1.size)) (own_below H6.out.2.2.2 hb7)))
                clear hb7
                go_wp2_with fail
                obtain ⟨mq, mw, tag, qb, cb, hTA⟩ := H7.out.1
                refine (there_tower id hTA).mono ?_
                rintro e w8 ⟨rfl, rfl⟩
                rw [HTH.out]
                go_wp2_with fail
                refine (held_tower (.slice none 0 0) [] hTA (sread_nil _) (HI.out.heldLen _)).mono ?_
                rintro e w9 ⟨vu, rfl, hvu, hb9⟩
                have H9 := Lib.hid (And.intro (own_below H7.out.2.2 hb9) (And.intro hvu (H7.out.2.1.trans (hb9.mono H7.out.2.1.size))))
                clear hTA hvu hb9
                go_wp2_with fail
                refine (gsame_any vt vu _ _ w9 (gread_of_ownsRow H9.out.1) (gread_of_ownsRow H9.out.2.1)).mono ?_
                rintro e w10 ⟨rfl, hb10⟩
                rw [decide_eq_true rfl]
                have H10 := Lib.hid (H9.out.2.2.trans (hb10.mono H9.out.2.2.size))
                clear hb10
                go_wp2
                go_ret
                exact ⟨rfl, H10.out⟩
              | succ m =>
                have hjn : (j : Int) < (ss.length : Int) := by omega
                have hj0 : (0 : Int) ≤ (j : Int) := by omega
                obtain ⟨_, a9, c9, e9, _, _, _, hc9⟩ := HR.out.2.1
                simp only [Value.slice.injEq] at e9
                rw [← e9.1] at hc9
                obtain ⟨b9, o9, rfl, hc⟩ := hc9 (by omega)
                obtain ⟨s, hs⟩ : ∃ s, s = LL[j]'(by omega) := ⟨_, rfl⟩
                have x0 : wr.cell? ⟨b9, o9 + j, none⟩ = some (.string s) := by rw [hs]; exact hc j (by omega)
                have hmem : s ∈ LL := by rw [hs]; exact List.getElem_mem _
                have htk : LL.take (j + 1) = LL.take j ++ [s] := by rw [hs]; exact List.take_succ_eq_append_getElem (by omega)
                have HTK := Lib.hid (And.intro htk hmem)
                clear hc hc9 e9 hs hmem htk
                have HX5 := Lib.hid hx5
                clear hx5
                cases f1 : s.toList.isEmpty with
                | true =>
                  go_wp2
                  go_roundg m
                  case measure => omega
                  case rel => exact ⟨j + 1, by go_num, by omega, HBR.out, _, rfl, fun _ => rfl⟩
                | false =>
                  by_cases f2 : 16 < (s.size : Int)
                  · have f3 : (s.size : Int) > 16 := f2
                    go_wp2
                    go_roundg m
                    case measure => omega
                    case rel => exact ⟨j + 1, by go_num, by omega, HBR.out, _, rfl, fun _ => rfl⟩
                  · have f3 : ¬ ((s.size : Int) > 16) := f2
                    have hod : oddB s = false := by simp [oddB, f1, f2]
                    have HOD := Lib.hid hod
                    clear hod
                    go_wp2
                    go_roundg m
                    case measure => omega
                    case rel => exact ⟨j + 1, by go_num, by omega, HBR.out, _, rfl, fun h => HX5.out (by rw [HTK.out.1, List.any_append] at h; simpa [HOD.out] using h)⟩
        · have HLEN : Hid (LL.length ≤ 2) := Lib.hid (by omega)
          cases hodd : LL.any oddB with
          | true =>
            have HODD := Lib.hid hodd
            clear hodd
            cases hth : σ.there id with
            | true =>
              have HTH := Lib.hid hth
              clear hth
              go_wp2_with fail
              obtain ⟨mq, mw, tag, qb, cb, hTA⟩ := HT.out.1
              refine (there_tower id hTA).mono ?_
              rintro e w3 ⟨rfl, rfl⟩
              rw [HTH.out]
              clear hTA
              go_wp2
              go_loopg [38, 12] ss.length (fun m kv wv wr => ∃ j : Nat, kv = .int .i64 (j : Int) ∧ j + m = ss.length ∧ Below w2.heap.size w2 wr ∧ ∃ x : Int, wv = .int .i64 x ∧ ((LL.take j).any oddB = true → x = 5))
              case atStart => exact ⟨0, rfl, by omega, Below.refl _ _, _, rfl, fun h => by simp at h⟩
              case round =>
                obtain ⟨j, rfl, hjm, hbr, x, rfl, hx5⟩ := hrel
                have HR := Lib.hid (And.intro (HT.out.1.below hbr) (And.intro (HSR.out.below hbr) (HT.out.2.trans (hbr.mono HT.out.2.size))))
                have HBR := Lib.hid hbr
                clear hbr
                cases gk with
                | zero =>
                  have hjn : ¬ ((j : Int) < (ss.length : Int)) := by omega
                  have HX5 := Lib.hid hx5
                  clear hx5
                  obtain rfl : x = 5 := HX5.out (by rw [List.take_of_length_le (by omega)]; exact HODD.out)
                  go_wp2_with fail
                  obtain ⟨mq, mw, tag, qb, cb, hTA⟩ := HR.out.1
                  refine (held_tower (.slice none 0 0) [] hTA (sread_nil _) (HI.out.heldLen _)).mono ?_
                  rintro e w5 ⟨vt, rfl, hvt, hb5⟩
                  have H5 := Lib.hid (And.intro (HR.out.1.below hb5) (And.intro (HR.out.2.1.below hb5) (And.intro (HR.out.2.2.trans (hb5.mono HR.out.2.2.size)) hvt)))
                  clear hTA hvt hb5
                  go_wp2_with fail
                  obtain ⟨mq, mw, tag, qb, cb, hTA⟩ := H5.out.1
                  refine (task_name (w := w5) (t := t) id mode _ LL (intentI_ok HMO.out) H5.out.2.1 (.inr HODD.out)).mono ?_
                  rintro e w6 ⟨err, rfl, hf, hb6⟩
                  have H6 := Lib.hid (And.intro (H5.out.1.below hb6) (And.intro hf.chain (And.intro (H5.out.2.2.1.trans (hb6.mono H5.out.2.2.1.size)) (own_below H5.out.2.2.2 hb6))))
                  clear hTA hf hb6
                  go_wp2_with fail
                  refine (code_chain 1 err 5 w6 H6.out.2.1 (HG.out.below H6.out.2.2.1)).mono ?_
                  rintro e w7 ⟨rfl, hb7⟩
                  have H7 := Lib.hid (And.intro (H6.out.1.below hb7) (And.intro (H6.out.2.2.1.trans (hb7.mono H6.out.2.2.1.size)) (own_below H6.out.2.2.2 hb7)))
                  clear hb7
                  go_wp2_with fail
                  obtain ⟨mq, mw, tag, qb, cb, hTA⟩ := H7.out.1
                  refine (there_tower id hTA).mono ?_
                  rintro e w8 ⟨rfl, rfl⟩
                  rw [HTH.out]
                  go_wp2_with fail
                  refine (held_tower (.slice none 0 0) [] hTA (sread_nil _) (HI.out.heldLen _)).mono ?_
                  rintro e w9 ⟨vu, rfl, hvu, hb9⟩
                  have H9 := Lib.hid (And.intro (own_below H7.out.2.2 hb9) (And.intro hvu (H7.out.2.1.trans (hb9.mono H7.out.2.1.size))))
                  clear hTA hvu hb9
                  go_wp2_with fail
                  refine (gsame_any vt vu _ _ w9 (gread_of_ownsRow H9.out.1) (gread_of_ownsRow H9.out.2.1)).mono ?_
                  rintro e w10 ⟨rfl, hb10⟩
                  rw [decide_eq_true rfl]
                  have H10 := Lib.hid (H9.out.2.2.trans (hb10.mono H9.out.2.2.size))
                  clear hb10
                  go_wp2
                  go_ret
                  exact ⟨rfl, H10.out⟩
                | succ m =>
                  have hjn : (j : Int) < (ss.length : Int) := by omega
                  have hj0 : (0 : Int) ≤ (j : Int) := by omega
                  obtain ⟨_, a9, c9, e9, _, _, _, hc9⟩ := HR.out.2.1
                  simp only [Value.slice.injEq] at e9
                  rw [← e9.1] at hc9
                  obtain ⟨b9, o9, rfl, hc⟩ := hc9 (by omega)
                  obtain ⟨s, hs⟩ : ∃ s, s = LL[j]'(by omega) := ⟨_, rfl⟩
                  have x0 : wr.cell? ⟨b9, o9 + j, none⟩ = some (.string s) := by rw [hs]; exact hc j (by omega)
                  have hmem : s ∈ LL := by rw [hs]; exact List.getElem_mem _
                  have htk : LL.take (j + 1) = LL.take j ++ [s] := by rw [hs]; exact List.take_succ_eq_append_getElem (by omega)
                  have HTK := Lib.hid (And.intro htk hmem)
                  clear hc hc9 e9 hs hmem htk
                  have HX5 := Lib.hid hx5
                  clear hx5
                  cases f1 : s.toList.isEmpty with
                  | true =>
                    go_wp2
                    go_roundg m
                    case measure => omega
                    case rel => exact ⟨j + 1, by go_num, by omega, HBR.out, _, rfl, fun _ => rfl⟩
                  | false =>
                    by_cases f2 : 16 < (s.size : Int)
                    · have f3 : (s.size : Int) > 16 := f2
                      go_wp2
                      go_roundg m
                      case measure => omega
                      case rel => exact ⟨j + 1, by go_num, by omega, HBR.out, _, rfl, fun _ => rfl⟩
                    · have f3 : ¬ ((s.size : Int) > 16) := f2
                      have hod : oddB s = false := by simp [oddB, f1, f2]
                      have HOD := Lib.hid hod
                      clear hod
                      go_wp2
                      go_roundg m
                      case measure => omega
                      case rel => exact ⟨j + 1, by go_num, by omega, HBR.out, _, rfl, fun h => HX5.out (by rw [HTK.out.1, List.any_append] at h; simpa [HOD.out] using h)⟩
            | false =>
              have HTH := Lib.hid hth
              clear hth
              go_wp2_with fail
              obtain ⟨mq, mw, tag, qb, cb, hTA⟩ := HT.out.1
              refine (there_tower id hTA).mono ?_
              rintro e w3 ⟨rfl, rfl⟩
              rw [HTH.out]
              clear hTA
              go_wp2
              go_loopg [38, 12] ss.length (fun m kv wv wr => ∃ j : Nat, kv = .int .i64 (j : Int) ∧ j + m = ss.length ∧ Below w2.heap.size w2 wr ∧ ∃ x : Int, wv = .int .i64 x ∧ ((LL.take j).any oddB = true → x = 5))
              case atStart => exact ⟨0, rfl, by omega, Below.refl _ _, _, rfl, fun h => by simp at h⟩
              case round =>
                obtain ⟨j, rfl, hjm, hbr, x, rfl, hx5⟩ := hrel
                have HR := Lib.hid (And.intro (HT.out.1.below hbr) (And.intro (HSR.out.below hbr) (HT.out.2.trans (hbr.mono HT.out.2.size))))
                have HBR := Lib.hid hbr
                clear hbr
                cases gk with
                | zero =>
                  have hjn : ¬ ((j : Int) < (ss.length : Int)) := by omega
                  have HX5 := Lib.hid hx5
                  clear hx5
                  obtain rfl : x = 5 := HX5.out (by rw [List.take_of_length_le (by omega)]; exact HODD.out)
                  go_wp2_with fail
                  obtain ⟨mq, mw, tag, qb, cb, hTA⟩ := HR.out.1
                  refine (held_tower (.slice none 0 0) [] hTA (sread_nil _) (HI.out.heldLen _)).mono ?_
                  rintro e w5 ⟨vt, rfl, hvt, hb5⟩
                  have H5 := Lib.hid (And.intro (HR.out.1.below hb5) (And.intro (HR.out.2.1.below hb5) (And.intro (HR.out.2.2.trans (hb5.mono HR.out.2.2.size)) hvt)))
                  clear hTA hvt hb5
                  go_wp2_with fail
                  obtain ⟨mq, mw, tag, qb, cb, hTA⟩ := H5.out.1
                  refine (task_name (w := w5) (t := t) id mode _ LL (intentI_ok HMO.out) H5.out.2.1 (.inr HODD.out)).mono ?_
                  rintro e w6 ⟨err, rfl, hf, hb6⟩
                  have H6 := Lib.hid (And.intro (H5.out.1.below hb6) (And.intro hf.chain (And.intro (H5.out.2.2.1.trans (hb6.mono H5.out.2.2.1.size)) (own_below H5.out.2.2.2 hb6))))
                  clear hTA hf hb6
                  go_wp2_with fail
                  refine (code_chain 1 err 5 w6 H6.out.2.1 (HG.out.below H6.out.2.2.1)).mono ?_
                  rintro e w7 ⟨rfl, hb7⟩
                  have H7 := Lib.hid (And.intro (H6.out.1.below hb7) (And.intro (H6.out.2.2.1.trans (hb7.mono H6.out.2.2.1.size)) (own_below H6.out.2.2.2 hb7)))
                  clear hb7
                  go_wp2_with fail
                  obtain ⟨mq, mw, tag, qb, cb, hTA⟩ := H7.out.1
                  refine (there_tower id hTA).mono ?_
                  rintro e w8 ⟨rfl, rfl⟩
                  rw [HTH.out]
                  go_wp2_with fail
                  refine (held_tower (.slice none 0 0) [] hTA (sread_nil _) (HI.out.heldLen _)).mono ?_
                  rintro e w9 ⟨vu, rfl, hvu, hb9⟩
                  have H9 := Lib.hid (And.intro (own_below H7.out.2.2 hb9) (And.intro hvu (H7.out.2.1.trans (hb9.mono H7.out.2.1.size))))
                  clear hTA hvu hb9
                  go_wp2_with fail
                  refine (gsame_any vt vu _ _ w9 (gread_of_ownsRow H9.out.1) (gread_of_ownsRow H9.out.2.1)).mono ?_
                  rintro e w10 ⟨rfl, hb10⟩
                  rw [decide_eq_true rfl]
                  have H10 := Lib.hid (H9.out.2.2.trans (hb10.mono H9.out.2.2.size))
                  clear hb10
                  go_wp2
                  go_ret
                  exact ⟨rfl, H10.out⟩
                | succ m =>
                  have hjn : (j : Int) < (ss.length : Int) := by omega
                  have hj0 : (0 : Int) ≤ (j : Int) := by omega
                  obtain ⟨_, a9, c9, e9, _, _, _, hc9⟩ := HR.out.2.1
                  simp only [Value.slice.injEq] at e9
                  rw [← e9.1] at hc9
                  obtain ⟨b9, o9, rfl, hc⟩ := hc9 (by omega)
                  obtain ⟨s, hs⟩ : ∃ s, s = LL[j]'(by omega) := ⟨_, rfl⟩
                  have x0 : wr.cell? ⟨b9, o9 + j, none⟩ = some (.string s) := by rw [hs]; exact hc j (by omega)
                  have hmem : s ∈ LL := by rw [hs]; exact List.getElem_mem _
                  have htk : LL.take (j + 1) = LL.take j ++ [s] := by rw [hs]; exact List.take_succ_eq_append_getElem (by omega)
                  have HTK := Lib.hid (And.intro htk hmem)
                  clear hc hc9 e9 hs hmem htk
                  have HX5 := Lib.hid hx5
                  clear hx5
                  cases f1 : s.toList.isEmpty with
                  | true =>
                    go_wp2
                    go_roundg m
                    case measure => omega
                    case rel => exact ⟨j + 1, by go_num, by omega, HBR.out, _, rfl, fun _ => rfl⟩
                  | false =>
                    by_cases f2 : 16 < (s.size : Int)
                    · have f3 : (s.size : Int) > 16 := f2
                      go_wp2
                      go_roundg m
                      case measure => omega
                      case rel => exact ⟨j + 1, by go_num, by omega, HBR.out, _, rfl, fun _ => rfl⟩
                    · have f3 : ¬ ((s.size : Int) > 16) := f2
                      have hod : oddB s = false := by simp [oddB, f1, f2]
                      have HOD := Lib.hid hod
                      clear hod
                      go_wp2
                      go_roundg m
                      case measure => omega
                      case rel => exact ⟨j + 1, by go_num, by omega, HBR.out, _, rfl, fun h => HX5.out (by rw [HTK.out.1, List.any_append] at h; simpa [HOD.out] using h)⟩
          | false =>
            have HODD := Lib.hid hodd
            clear hodd
            cases hth : σ.there id with
            | true =>
              have HTH := Lib.hid hth
              clear hth
              go_wp2_with fail
              obtain ⟨mq, mw, tag, qb, cb, hTA⟩ := HT.out.1
              refine (there_tower id hTA).mono ?_
              rintro e w3 ⟨rfl, rfl⟩
              rw [HTH.out]
              clear hTA
              go_wp2
              go_loopg [38, 12] ss.length (fun m kv wv wr => ∃ j : Nat, kv = .int .i64 (j : Int) ∧ j + m = ss.length ∧ Below w2.heap.size w2 wr ∧ wv = .int .i64 11)
              case atStart => exact ⟨0, rfl, by omega, Below.refl _ _, rfl⟩
              case round =>
                obtain ⟨j, rfl, hjm, hbr, rfl⟩ := hrel
                have HR := Lib.hid (And.intro (HT.out.1.below hbr) (And.intro (HSR.out.below hbr) (HT.out.2.trans (hbr.mono HT.out.2.size))))
                have HBR := Lib.hid hbr
                clear hbr
                cases gk with
                | zero =>
                  have hjn : ¬ ((j : Int) < (ss.length : Int)) := by omega
                  go_wp2_with fail
                  obtain ⟨mq, mw, tag, qb, cb, hTA⟩ := HR.out.1
                  refine (held_tower (.slice none 0 0) [] hTA (sread_nil _) (HI.out.heldLen _)).mono ?_
                  rintro e w5 ⟨vt, rfl, hvt, hb5⟩
                  have H5 := Lib.hid (And.intro (HR.out.1.below hb5) (And.intro (HR.out.2.1.below hb5) (And.intro (HR.out.2.2.trans (hb5.mono HR.out.2.2.size)) hvt)))
                  clear hTA hvt hb5
                  go_wp2_with fail
                  obtain ⟨mq, mw, tag, qb, cb, hTA⟩ := H5.out.1
                  refine (task_twice id mode _ LL (intentI_ok HMO.out) H5.out.2.1 HLEN.out HODD.out hTA HTH.out).mono ?_
                  rintro e w6 ⟨err, rfl, hf, hb6⟩
                  have H6 := Lib.hid (And.intro (H5.out.1.below hb6) (And.intro hf.chain (And.intro (H5.out.2.2.1.trans (hb6.mono H5.out.2.2.1.size)) (own_below H5.out.2.2.2 hb6))))
                  clear hTA hf hb6
                  go_wp2_with fail
                  refine (code_chain 1 err 11 w6 H6.out.2.1 (HG.out.below H6.out.2.2.1)).mono ?_
                  rintro e w7 ⟨rfl, hb7⟩
                  have H7 := Lib.hid (And.intro (H6.out.1.below hb7) (And.intro (H6.out.2.2.1.trans (hb7.mono H6.out.2.2.1.size)) (own_below H6.out.2.2.2 hb7)))
                  clear hb7
                  go_wp2_with fail
                  obtain ⟨mq, mw, tag, qb, cb, hTA⟩ := H7.out.1
                  refine (there_tower id hTA).mono ?_
                  rintro e w8 ⟨rfl, rfl⟩
                  rw [HTH.out]
                  go_wp2_with fail
                  refine (held_tower (.slice none 0 0) [] hTA (sread_nil _) (HI.out.heldLen _)).mono ?_
                  rintro e w9 ⟨vu, rfl, hvu, hb9⟩
                  have H9 := Lib.hid (And.intro (own_below H7.out.2.2 hb9) (And.intro hvu (H7.out.2.1.trans (hb9.mono H7.out.2.1.size))))
                  clear hTA hvu hb9
                  go_wp2_with fail
                  refine (gsame_any vt vu _ _ w9 (gread_of_ownsRow H9.out.1) (gread_of_ownsRow H9.out.2.1)).mono ?_
                  rintro e w10 ⟨rfl, hb10⟩
                  rw [decide_eq_true rfl]
                  have H10 := Lib.hid (H9.out.2.2.trans (hb10.mono H9.out.2.2.size))
                  clear hb10
                  go_wp2
                  go_ret
                  exact ⟨rfl, H10.out⟩
                | succ m =>
                  have hjn : (j : Int) < (ss.length : Int) := by omega
                  have hj0 : (0 : Int) ≤ (j : Int) := by omega
                  obtain ⟨_, a9, c9, e9, _, _, _, hc9⟩ := HR.out.2.1
                  simp only [Value.slice.injEq] at e9
                  rw [← e9.1] at hc9
                  obtain ⟨b9, o9, rfl, hc⟩ := hc9 (by omega)
                  obtain ⟨s, hs⟩ : ∃ s, s = LL[j]'(by omega) := ⟨_, rfl⟩
                  have x0 : wr.cell? ⟨b9, o9 + j, none⟩ = some (.string s) := by rw [hs]; exact hc j (by omega)
                  have hmem : s ∈ LL := by rw [hs]; exact List.getElem_mem _
                  have htk : LL.take (j + 1) = LL.take j ++ [s] := by rw [hs]; exact List.take_succ_eq_append_getElem (by omega)
                  have HTK := Lib.hid (And.intro htk hmem)
                  clear hc hc9 e9 hs hmem htk
                  have hns := List.any_eq_false.1 HODD.out s HTK.out.2
                  have f1 : s.toList.isEmpty = false := by
                    cases h : s.toList.isEmpty with
                    | false => rfl
                    | true => simp [oddB, h] at hns
                  have f2 : ¬ (16 < (s.size : Int)) := fun h => by simp [oddB, h] at hns
                  have f3 : ¬ ((s.size : Int) > 16) := f2
                  clear hns
                  go_wp2
                  go_roundg m
                  case measure => omega
                  case rel => exact ⟨j + 1, by go_num, by omega, HBR.out, rfl⟩
            | false =>
              have HTH := Lib.hid hth
              clear hth
              go_wp2_with fail
              obtain ⟨mq, mw, tag, qb, cb, hTA⟩ := HT.out.1
              refine (there_tower id hTA).mono ?_
              rintro e w3 ⟨rfl, rfl⟩
              rw [HTH.out]
              clear hTA
              go_wp2
              go_loopg [38, 12] ss.length (fun m kv wv wr => ∃ j : Nat, kv = .int .i64 (j : Int) ∧ j + m = ss.length ∧ Below w2.heap.size w2 wr ∧ wv = .int .i64 0)
              case atStart => exact ⟨0, rfl, by omega, Below.refl _ _, rfl⟩
              case round =>
                obtain ⟨j, rfl, hjm, hbr, rfl⟩ := hrel
                have HR := Lib.hid (And.intro (HT.out.1.below hbr) (And.intro (HSR.out.below hbr) (HT.out.2.trans (hbr.mono HT.out.2.size))))
                have HBR := Lib.hid hbr
                clear hbr
                cases gk with
                | zero =>
                  have hjn : ¬ ((j : Int) < (ss.length : Int)) := by omega
                  go_wp2_with fail
                  obtain ⟨mq, mw, tag, qb, cb, hTA⟩ := HR.out.1
                  refine (held_tower (.slice none 0 0) [] hTA (sread_nil _) (HI.out.heldLen _)).mono ?_
                  rintro e w5 ⟨vt, rfl, hvt, hb5⟩
                  have H5 := Lib.hid (And.intro (HR.out.1.below hb5) (And.intro (HR.out.2.1.below hb5) (HR.out.2.2.trans (hb5.mono HR.out.2.2.size))))
                  clear hTA hvt hb5
                  go_wp2_with fail
                  obtain ⟨mq, mw, tag, qb, cb, hTA⟩ := H5.out.1
                  have hst := start_root HI.out (id := id) (ss := LL) (m := mode) HMO.out
                  have hwf := start_wf (I := id :: I12) (HI.out.wf.more (fun i hi => List.mem_cons_of_mem _ hi)) HI.out.wi (List.mem_cons_self) HLEN.out (m := mode)
                  refine (task_ok id mode _ LL (id :: I12) (by simp [I12]) List.mem_cons_self (HI.out.wf.more (fun i hi => List.mem_cons_of_mem _ hi)) (intentI_ok HMO.out) H5.out.2.1 HLEN.out HODD.out hTA HTH.out).mono ?_
                  rintro e w6 ⟨rfl, hT6, hO6⟩
                  obtain ⟨σ2, hσ2⟩ : ∃ σ2, σ2 = (startT σ id LL mode).1 := ⟨_, rfl⟩
                  obtain ⟨fl, hfl⟩ : ∃ fl, fl = (startT σ id LL mode).2 := ⟨_, rfl⟩
                  rw [← hσ2] at hT6 hst hwf
                  rw [← hfl] at hst
                  rw [← hfl]
                  have hsz5 := H5.out.2.2.size
                  have HS := Lib.hid (And.intro hst hwf)
                  have hb6 : Below w.heap.size w w6 := H5.out.2.2.trans (hO6.below hsz5 (fun k hk h => by have := HW1.out; omega))
                  have H6 := Lib.hid (And.intro hT6 hb6)
                  clear hTA hst hwf hT6 hO6 hσ2 hfl hsz5 hb6
                  have hl2 : (σ2.heldL (thingOf [])).length + (σ2.waitL (thingOf [])).length ≤ 1000 := by
                    have := (HS.out.2.q (thingOf [])).len
                    have h12 : (id :: I12).length = 13 := rfl
                    unfold TS.heldL TS.waitL; omega
                  have HL2 := Lib.hid hl2
                  clear hl2
                  go_wp2_with fail
                  obtain ⟨mq, mw, tag, qb, cb, hTA⟩ := H6.out.1
                  refine (there_tower id hTA).mono ?_
                  rintro e w7 ⟨rfl, rfl⟩
                  rw [HS.out.1.2.2.2]
                  go_wp2_with fail
                  refine (whole_tower id hTA).mono ?_
                  rintro e w7 ⟨rfl, rfl⟩
                  rw [HS.out.1.2.2.1]
                  clear hTA
                  go_wp2_with fail
                  obtain ⟨mq, mw, tag, qb, cb, hTA⟩ := H6.out.1
                  refine (held_tower (.slice none 0 0) [] hTA (sread_nil _) (by have := HL2.out; omega)).mono ?_
                  rintro e w8 ⟨vh, rfl, hvh, hb8⟩
                  have H8 := Lib.hid (And.intro (H6.out.1.shrink.below hb8) (And.intro hvh (And.intro (H6.out.2.trans (hb8.mono H6.out.2.size)) hb8.size)))
                  clear hTA hvh hb8
                  go_wp2_with fail
                  obtain ⟨mq, mw, tag, qb, cb, hTA⟩ := H8.out.1
                  refine (waits_tower (.slice none 0 0) [] hTA (sread_nil _) (by have := HL2.out; omega)).mono ?_
                  rintro e w9 ⟨vw, rfl, hvw, hb9⟩
                  obtain ⟨v10, w10, hrun, hv10, hg10, _⟩ := run_append_rows (own_below H8.out.2.1 hb9) hvw (by have := hb9.size; have := H8.out.2.2.2; omega) (by have := HL2.out; omega)
                  have hb10 : Below w.heap.size w w10 := (H8.out.2.2.1.trans (hb9.mono H8.out.2.2.1.size)).trans ((Only.ofGrown (S := fun k => w6.heap.size ≤ k) hg10 (fun k e => own_blk_ge H8.out.2.1 e)).below (by have := hb9.size; have := H8.out.2.2.1.size; omega) (fun k hk e => by have := H6.out.2.size; omega))
                  have hpos := has_pos (l := σ2.heldL (thingOf []) ++ σ2.waitL (thingOf [])) HS.out.1.1.mode id
                  rw [show inB (σ2.heldL (thingOf []) ++ σ2.waitL (thingOf [])) id = true from HS.out.1.2.1] at hpos
                  have hpos2 : hasI (σ2.heldL (thingOf []) ++ σ2.waitL (thingOf [])) id > 0 := by simpa using hpos
                  have H10 := Lib.hid (And.intro (gread_of_ownsRow hv10) hb10)
                  clear hTA hvw hb9 hv10 hg10 hb10 hpos
                  go_wp2_with (at_builtin; refine wpList_append_runG rfl (.tmp 108) (.tmp 110) 31 rfl _ _ rfl rfl v10 w10 hrun ?_)
                  refine (has_any v10 _ id w10 H10.out.1).mono ?_
                  rintro e w11 ⟨rfl, hb11⟩
                  have H11 := Lib.hid (H10.out.2.trans (hb11.mono H10.out.2.size))
                  clear hb11 hrun
                  go_wp2
                  go_ret
                  exact ⟨rfl, H11.out⟩
                | succ m =>
                  have hjn : (j : Int) < (ss.length : Int) := by omega
                  have hj0 : (0 : Int) ≤ (j : Int) := by omega
                  obtain ⟨_, a9, c9, e9, _, _, _, hc9⟩ := HR.out.2.1
                  simp only [Value.slice.injEq] at e9
                  rw [← e9.1] at hc9
                  obtain ⟨b9, o9, rfl, hc⟩ := hc9 (by omega)
                  obtain ⟨s, hs⟩ : ∃ s, s = LL[j]'(by omega) := ⟨_, rfl⟩
                  have x0 : wr.cell? ⟨b9, o9 + j, none⟩ = some (.string s) := by rw [hs]; exact hc j (by omega)
                  have hmem : s ∈ LL := by rw [hs]; exact List.getElem_mem _
                  have htk : LL.take (j + 1) = LL.take j ++ [s] := by rw [hs]; exact List.take_succ_eq_append_getElem (by omega)
                  have HTK := Lib.hid (And.intro htk hmem)
                  clear hc hc9 e9 hs hmem htk
                  have hns := List.any_eq_false.1 HODD.out s HTK.out.2
                  have f1 : s.toList.isEmpty = false := by
                    cases h : s.toList.isEmpty with
                    | false => rfl
                    | true => simp [oddB, h] at hns
                  have f2 : ¬ (16 < (s.size : Int)) := fun h => by simp [oddB, h] at hns
                  have f3 : ¬ ((s.size : Int) > 16) := f2
                  clear hns
                  go_wp2
                  go_roundg m
                  case measure => omega
                  case rel => exact ⟨j + 1, by go_num, by omega, HBR.out, rfl⟩
  · obtain ⟨LL, hLL⟩ : ∃ LL, LL = ss.take 5 := ⟨_, rfl⟩
    have hLN : LL.length = 5 := by rw [hLL, List.length_take]; omega
    have HSR : Hid (SRead w2 (.slice a2 5 c2) LL) := Lib.hid (by rw [hLL]; exact (HN.out.take 5 (by omega)).below HT.out.2)
    have hl5 : 5 ≤ ss.length := by omega
    have hc5 : (5 : Int) ≤ (c2 : Int) := by omega
    clear hLL
    by_cases hm1 : mode < 1
    · have HIM : Hid (intentI mode = 0) := Lib.hid (by unfold intentI; rw [if_neg (by omega), if_neg (by omega)])
      have hlen2 : (5 : Int) > 2 := by decide
      have HLEN : Hid (2 < LL.length) := Lib.hid (by omega)
      cases hth : σ.there id with
      | true =>
        have HTH := Lib.hid hth
        clear hth
        go_wp2_with fail
        obtain ⟨mq, mw, tag, qb, cb, hTA⟩ := HT.out.1
        refine (there_tower id hTA).mono ?_
        rintro e w3 ⟨rfl, rfl⟩
        rw [HTH.out]
        clear hTA
        go_wp2
        go_loopg [38, 12] 5 (fun m kv wv wr => ∃ j : Nat, kv = .int .i64 (j : Int) ∧ j + m = 5 ∧ Below w2.heap.size w2 wr ∧ ∃ x : Int, wv = .int .i64 x ∧ ((LL.take j).any oddB = true → x = 5))
        case atStart => exact ⟨0, rfl, by omega, Below.refl _ _, _, rfl, fun h => by simp at h⟩
        case round =>
          obtain ⟨j, rfl, hjm, hbr, x, rfl, hx5⟩ := hrel
          have HR := Lib.hid (And.intro (HT.out.1.below hbr) (And.intro (HSR.out.below hbr) (HT.out.2.trans (hbr.mono HT.out.2.size))))
          have HBR := Lib.hid hbr
          clear hbr
          cases gk with
          | zero =>
            have hjn : ¬ ((j : Int) < (5 : Int)) := by omega
            have HX5 := Lib.hid hx5
            clear hx5
            go_wp2_with fail
            obtain ⟨mq, mw, tag, qb, cb, hTA⟩ := HR.out.1
            refine (held_tower (.slice none 0 0) [] hTA (sread_nil _) (HI.out.heldLen _)).mono ?_
            rintro e w5 ⟨vt, rfl, hvt, hb5⟩
            have H5 := Lib.hid (And.intro (HR.out.1.below hb5) (And.intro (HR.out.2.1.below hb5) (And.intro (HR.out.2.2.trans (hb5.mono HR.out.2.2.size)) hvt)))
            clear hTA hvt hb5
            go_wp2_with fail
            obtain ⟨mq, mw, tag, qb, cb, hTA⟩ := H5.out.1
            refine (task_mode (w := w5) (t := t) id mode _ HIM.out).mono ?_
            rintro e w6 ⟨err, rfl, hf, hb6⟩
            have H6 := Lib.hid (And.intro (H5.out.1.below hb6) (And.intro hf.chain (And.intro (H5.out.2.2.1.trans (hb6.mono H5.out.2.2.1.size)) (own_below H5.out.2.2.2 hb6))))
            clear hTA hf hb6
            go_wp2_with fail
            refine (code_chain 1 err 13 w6 H6.out.2.1 (HG.out.below H6.out.2.2.1)).mono ?_
            rintro e w7 ⟨rfl, hb7⟩
            have H7 := Lib.hid (And.intro (H6.out.1.below hb7) (And.intro (H6.out.2.2.1.trans (hb7.mono H6.out.2.2.1.size)) (own_below H6.out.2.2.2 hb7)))
            clear hb7
            go_wp2_with fail
            obtain ⟨mq, mw, tag, qb, cb, hTA⟩ := H7.out.1
            refine (there_tower id hTA).mono ?_
            rintro e w8 ⟨rfl, rfl⟩
            rw [HTH.out]
            go_wp2_with fail
            refine (held_tower (.slice none 0 0) [] hTA (sread_nil _) (HI.out.heldLen _)).mono ?_
            rintro e w9 ⟨vu, rfl, hvu, hb9⟩
            have H9 := Lib.hid (And.intro (own_below H7.out.2.2 hb9) (And.intro hvu (H7.out.2.1.trans (hb9.mono H7.out.2.1.size))))
            clear hTA hvu hb9
            go_wp2_with fail
            refine (gsame_any vt vu _ _ w9 (gread_of_ownsRow H9.out.1) (gread_of_ownsRow H9.out.2.1)).mono ?_
            rintro e w10 ⟨rfl, hb10⟩
            rw [decide_eq_true rfl]
            have H10 := Lib.hid (H9.out.2.2.trans (hb10.mono H9.out.2.2.size))
            clear hb10
            go_wp2
            go_ret
            exact ⟨rfl, H10.out⟩
          | succ m =>
            have hjn : (j : Int) < (5 : Int) := by omega
            have hj0 : (0 : Int) ≤ (j : Int) := by omega
            obtain ⟨_, a9, c9, e9, _, _, _, hc9⟩ := HR.out.2.1
            simp only [Value.slice.injEq] at e9
            rw [← e9.1] at hc9
            obtain ⟨b9, o9, rfl, hc⟩ := hc9 (by omega)
            obtain ⟨s, hs⟩ : ∃ s, s = LL[j]'(by omega) := ⟨_, rfl⟩
            have x0 : wr.cell? ⟨b9, o9 + j, none⟩ = some (.string s) := by rw [hs]; exact hc j (by omega)
            have hmem : s ∈ LL := by rw [hs]; exact List.getElem_mem _
            have htk : LL.take (j + 1) = LL.take j ++ [s] := by rw [hs]; exact List.take_succ_eq_append_getElem (by omega)
            have HTK := Lib.hid (And.intro htk hmem)
            clear hc hc9 e9 hs hmem htk
            have HX5 := Lib.hid hx5
            clear hx5
            cases f1 : s.toList.isEmpty with
            | true =>
              go_wp2
              go_roundg m
              case measure => omega
              case rel => exact ⟨j + 1, by go_num, by omega, HBR.out, _, rfl, fun _ => rfl⟩
            | false =>
              by_cases f2 : 16 < (s.size : Int)
              · have f3 : (s.size : Int) > 16 := f2
                go_wp2
                go_roundg m
                case measure => omega
                case rel => exact ⟨j + 1, by go_num, by omega, HBR.out, _, rfl, fun _ => rfl⟩
              · have f3 : ¬ ((s.size : Int) > 16) := f2
                have hod : oddB s = false := by simp [oddB, f1, f2]
                have HOD := Lib.hid hod
                clear hod
                go_wp2
                go_roundg m
                case measure => omega
                case rel => exact ⟨j + 1, by go_num, by omega, HBR.out, _, rfl, fun h => HX5.out (by rw [HTK.out.1, List.any_append] at h; simpa [HOD.out] using h)⟩
      | false =>
        have HTH := Lib.hid hth
        clear hth
        go_wp2_with fail
        obtain ⟨mq, mw, tag, qb, cb, hTA⟩ := HT.out.1
        refine (there_tower id hTA).mono ?_
        rintro e w3 ⟨rfl, rfl⟩
        rw [HTH.out]
        clear hTA
        go_wp2
        go_loopg [38, 12] 5 (fun m kv wv wr => ∃ j : Nat, kv = .int .i64 (j : Int) ∧ j + m = 5 ∧ Below w2.heap.size w2 wr ∧ ∃ x : Int, wv = .int .i64 x ∧ ((LL.take j).any oddB = true → x = 5))
        case atStart => exact ⟨0, rfl, by omega, Below.refl _ _, _, rfl, fun h => by simp at h⟩
        case round =>
          obtain ⟨j, rfl, hjm, hbr, x, rfl, hx5⟩ := hrel
          have HR := Lib.hid (And.intro (HT.out.1.below hbr) (And.intro (HSR.out.below hbr) (HT.out.2.trans (hbr.mono HT.out.2.size))))
          have HBR := Lib.hid hbr
          clear hbr
          cases gk with
          | zero =>
            have hjn : ¬ ((j : Int) < (5 : Int)) := by omega
            have HX5 := Lib.hid hx5
            clear hx5
            go_wp2_with fail
            obtain ⟨mq, mw, tag, qb, cb, hTA⟩ := HR.out.1
            refine (held_tower (.slice none 0 0) [] hTA (sread_nil _) (HI.out.heldLen _)).mono ?_
            rintro e w5 ⟨vt, rfl, hvt, hb5⟩
            have H5 := Lib.hid (And.intro (HR.out.1.below hb5) (And.intro (HR.out.2.1.below hb5) (And.intro (HR.out.2.2.trans (hb5.mono HR.out.2.2.size)) hvt)))
            clear hTA hvt hb5
            go_wp2_with fail
            obtain ⟨mq, mw, tag, qb, cb, hTA⟩ := H5.out.1
            refine (task_mode (w := w5) (t := t) id mode _ HIM.out).mono ?_
            rintro e w6 ⟨err, rfl, hf, hb6⟩
            have H6 := Lib.hid (And.intro (H5.out.1.below hb6) (And.intro hf.chain (And.intro (H5.out.2.2.1.trans (hb6.mono H5.out.2.2.1.size)) (own_below H5.out.2.2.2 hb6))))
            clear hTA hf hb6
            go_wp2_with fail
            refine (code_chain 1 err 13 w6 H6.out.2.1 (HG.out.below H6.out.2.2.1)).mono ?_
            rintro e w7 ⟨rfl, hb7⟩
            have H7 := Lib.hid (And.intro (H6.out.1.below hb7) (And.intro (H6.out.2.2.1.trans (hb7.mono H6.out.2.2.1.size)) (own_below H6.out.2.2.2 hb7)))
            clear hb7
            go_wp2_with fail
            obtain ⟨mq, mw, tag, qb, cb, hTA⟩ := H7.out.1
            refine (there_tower id hTA).mono ?_
            rintro e w8 ⟨rfl, rfl⟩
            rw [HTH.out]
            go_wp2_with fail
            refine (held_tower (.slice none 0 0) [] hTA (sread_nil _) (HI.out.heldLen _)).mono ?_
            rintro e w9 ⟨vu, rfl, hvu, hb9⟩
            have H9 := Lib.hid (And.intro (own_below H7.out.2.2 hb9) (And.intro hvu (H7.out.2.1.trans (hb9.mono H7.out.2.1.size))))
            clear hTA hvu hb9
            go_wp2_with fail
            refine (gsame_any vt vu _ _ w9 (gread_of_ownsRow H9.out.1) (gread_of_ownsRow H9.out.2.1)).mono ?_
            rintro e w10 ⟨rfl, hb10⟩
            rw [decide_eq_true rfl]
            have H10 := Lib.hid (H9.out.2.2.trans (hb10.mono H9.out.2.2.size))
            clear hb10
            go_wp2
            go_ret
            exact ⟨rfl, H10.out⟩
          | succ m =>
            have hjn : (j : Int) < (5 : Int) := by omega
            have hj0 : (0 : Int) ≤ (j : Int) := by omega
            obtain ⟨_, a9, c9, e9, _, _, _, hc9⟩ := HR.out.2.1
            simp only [Value.slice.injEq] at e9
            rw [← e9.1] at hc9
            obtain ⟨b9, o9, rfl, hc⟩ := hc9 (by omega)
            obtain ⟨s, hs⟩ : ∃ s, s = LL[j]'(by omega) := ⟨_, rfl⟩
            have x0 : wr.cell? ⟨b9, o9 + j, none⟩ = some (.string s) := by rw [hs]; exact hc j (by omega)
            have hmem : s ∈ LL := by rw [hs]; exact List.getElem_mem _
            have htk : LL.take (j + 1) = LL.take j ++ [s] := by rw [hs]; exact List.take_succ_eq_append_getElem (by omega)
            have HTK := Lib.hid (And.intro htk hmem)
            clear hc hc9 e9 hs hmem htk
            have HX5 := Lib.hid hx5
            clear hx5
            cases f1 : s.toList.isEmpty with
            | true =>
              go_wp2
              go_roundg m
              case measure => omega
              case rel => exact ⟨j + 1, by go_num, by omega, HBR.out, _, rfl, fun _ => rfl⟩
            | false =>
              by_cases f2 : 16 < (s.size : Int)
              · have f3 : (s.size : Int) > 16 := f2
                go_wp2
                go_roundg m
                case measure => omega
                case rel => exact ⟨j + 1, by go_num, by omega, HBR.out, _, rfl, fun _ => rfl⟩
              · have f3 : ¬ ((s.size : Int) > 16) := f2
                have hod : oddB s = false := by simp [oddB, f1, f2]
                have HOD := Lib.hid hod
                clear hod
                go_wp2
                go_roundg m
                case measure => omega
                case rel => exact ⟨j + 1, by go_num, by omega, HBR.out, _, rfl, fun h => HX5.out (by rw [HTK.out.1, List.any_append] at h; simpa [HOD.out] using h)⟩
    · by_cases hm4 : mode > 4
      · have HIM : Hid (intentI mode = 0) := Lib.hid (by unfold intentI; rw [if_neg (by omega), if_neg (by omega)])
        have hlen2 : (5 : Int) > 2 := by decide
        have HLEN : Hid (2 < LL.length) := Lib.hid (by omega)
        cases hth : σ.there id with
        | true =>
          have HTH := Lib.hid hth
          clear hth
          go_wp2_with fail
          obtain ⟨mq, mw, tag, qb, cb, hTA⟩ := HT.out.1
          refine (there_tower id hTA).mono ?_
          rintro e w3 ⟨rfl, rfl⟩
          rw [HTH.out]
          clear hTA
          go_wp2
          go_loopg [38, 12] 5 (fun m kv wv wr => ∃ j : Nat, kv = .int .i64 (j : Int) ∧ j + m = 5 ∧ Below w2.heap.size w2 wr ∧ ∃ x : Int, wv = .int .i64 x ∧ ((LL.take j).any oddB = true → x = 5))
          case atStart => exact ⟨0, rfl, by omega, Below.refl _ _, _, rfl, fun h => by simp at h⟩
          case round =>
            obtain ⟨j, rfl, hjm, hbr, x, rfl, hx5⟩ := hrel
            have HR := Lib.hid (And.intro (HT.out.1.below hbr) (And.intro (HSR.out.below hbr) (HT.out.2.trans (hbr.mono HT.out.2.size))))
            have HBR := Lib.hid hbr
            clear hbr
            cases gk with
            | zero =>
              have hjn : ¬ ((j : Int) < (5 : Int)) := by omega
              have HX5 := Lib.hid hx5
              clear hx5
              go_wp2_with fail
              obtain ⟨mq, mw, tag, qb, cb, hTA⟩ := HR.out.1
              refine (held_tower (.slice none 0 0) [] hTA (sread_nil _) (HI.out.heldLen _)).mono ?_
              rintro e w5 ⟨vt, rfl, hvt, hb5⟩
              have H5 := Lib.hid (And.intro (HR.out.1.below hb5) (And.intro (HR.out.2.1.below hb5) (And.intro (HR.out.2.2.trans (hb5.mono HR.out.2.2.size)) hvt)))
              clear hTA hvt hb5
              go_wp2_with fail
              obtain ⟨mq, mw, tag, qb, cb, hTA⟩ := H5.out.1
              refine (task_mode (w := w5) (t := t) id mode _ HIM.out).mono ?_
              rintro e w6 ⟨err, rfl, hf, hb6⟩
              have H6 := Lib.hid (And.intro (H5.out.1.below hb6) (And.intro hf.chain (And.intro (H5.out.2.2.1.trans (hb6.mono H5.out.2.2.1.size)) (own_below H5.out.2.2.2 hb6))))
              clear hTA hf hb6
              go_wp2_with fail
              refine (code_chain 1 err 13 w6 H6.out.2.1 (HG.out.below H6.out.2.2.1)).mono ?_
              rintro e w7 ⟨rfl, hb7⟩
              have H7 := Lib.hid (And.intro (H6.out.1.below hb7) (And.intro (H6.out.2.2.1.trans (hb7.mono H6.out.2.2.1.size)) (own_below H6.out.2.2.2 hb7)))
              clear hb7
              go_wp2_with fail
              obtain ⟨mq, mw, tag, qb, cb, hTA⟩ := H7.out.1
              refine (there_tower id hTA).mono ?_
              rintro e w8 ⟨rfl, rfl⟩
              rw [HTH.out]
              go_wp2_with fail
              refine (held_tower (.slice none 0 0) [] hTA (sread_nil _) (HI.out.heldLen _)).mono ?_
              rintro e w9 ⟨vu, rfl, hvu, hb9⟩
              have H9 := Lib.hid (And.intro (own_below H7.out.2.2 hb9) (And.intro hvu (H7.out.2.1.trans (hb9.mono H7.out.2.1.size))))
              clear hTA hvu hb9
              go_wp2_with fail
              refine (gsame_any vt vu _ _ w9 (gread_of_ownsRow H9.out.1) (gread_of_ownsRow H9.out.2.1)).mono ?_
              rintro e w10 ⟨rfl, hb10⟩
              rw [decide_eq_true rfl]
              have H10 := Lib.hid (H9.out.2.2.trans (hb10.mono H9.out.2.2.size))
              clear hb10
              go_wp2
              go_ret
              exact ⟨rfl, H10.out⟩
            | succ m =>
              have hjn : (j : Int) < (5 : Int) := by omega
              have hj0 : (0 : Int) ≤ (j : Int) := by omega
              obtain ⟨_, a9, c9, e9, _, _, _, hc9⟩ := HR.out.2.1
              simp only [Value.slice.injEq] at e9
              rw [← e9.1] at hc9
              obtain ⟨b9, o9, rfl, hc⟩ := hc9 (by omega)
              obtain ⟨s, hs⟩ : ∃ s, s = LL[j]'(by omega) := ⟨_, rfl⟩
              have x0 : wr.cell? ⟨b9, o9 + j, none⟩ = some (.string s) := by rw [hs]; exact hc j (by omega)
              have hmem : s ∈ LL := by rw [hs]; exact List.getElem_mem _
              have htk : LL.take (j + 1) = LL.take j ++ [s] := by rw [hs]; exact List.take_succ_eq_append_getElem (by omega)
              have HTK := Lib.hid (And.intro htk hmem)
              clear hc hc9 e9 hs hmem htk
              have HX5 := Lib.hid hx5
              clear hx5
              cases f1 : s.toList.isEmpty with
              | true =>
                go_wp2
                go_roundg m
                case measure => omega
                case rel => exact ⟨j + 1, by go_num, by omega, HBR.out, _, rfl, fun _ => rfl⟩
              | false =>
                by_cases f2 : 16 < (s.size : Int)
                · have f3 : (s.size : Int) > 16 := f2
                  go_wp2
                  go_roundg m
                  case measure => omega
                  case rel => exact ⟨j + 1, by go_num, by omega, HBR.out, _, rfl, fun _ => rfl⟩
                · have f3 : ¬ ((s.size : Int) > 16) := f2
                  have hod : oddB s = false := by simp [oddB, f1, f2]
                  have HOD := Lib.hid hod
                  clear hod
                  go_wp2
                  go_roundg m
                  case measure => omega
                  case rel => exact ⟨j + 1, by go_num, by omega, HBR.out, _, rfl, fun h => HX5.out (by rw [HTK.out.1, List.any_append] at h; simpa [HOD.out] using h)⟩
        | false =>
          have HTH := Lib.hid hth
          clear hth
          go_wp2_with fail
          obtain ⟨mq, mw, tag, qb, cb, hTA⟩ := HT.out.1
          refine (there_tower id hTA).mono ?_
          rintro e w3 ⟨rfl, rfl⟩
          rw [HTH.out]
          clear hTA
          go_wp2
          go_loopg [38, 12] 5 (fun m kv wv wr => ∃ j : Nat, kv = .int .i64 (j : Int) ∧ j + m = 5 ∧ Below w2.heap.size w2 wr ∧ ∃ x : Int, wv = .int .i64 x ∧ ((LL.take j).any oddB = true → x = 5))
          case atStart => exact ⟨0, rfl, by omega, Below.refl _ _, _, rfl, fun h => by simp at h⟩
          case round =>
            obtain ⟨j, rfl, hjm, hbr, x, rfl, hx5⟩ := hrel
            have HR := Lib.hid (And.intro (HT.out.1.below hbr) (And.intro (HSR.out.below hbr) (HT.out.2.trans (hbr.mono HT.out.2.size))))
            have HBR := Lib.hid hbr
            clear hbr
            cases gk with
            | zero =>
              have hjn : ¬ ((j : Int) < (5 : Int)) := by omega
              have HX5 := Lib.hid hx5
              clear hx5
              go_wp2_with fail
              obtain ⟨mq, mw, tag, qb, cb, hTA⟩ := HR.out.1
              refine (held_tower (.slice none 0 0) [] hTA (sread_nil _) (HI.out.heldLen _)).mono ?_
              rintro e w5 ⟨vt, rfl, hvt, hb5⟩
              have H5 := Lib.hid (And.intro (HR.out.1.below hb5) (And.intro (HR.out.2.1.below hb5) (And.intro (HR.out.2.2.trans (hb5.mono HR.out.2.2.size)) hvt)))
              clear hTA hvt hb5
              go_wp2_with fail
              obtain ⟨mq, mw, tag, qb, cb, hTA⟩ := H5.out.1
              refine (task_mode (w := w5) (t := t) id mode _ HIM.out).mono ?_
              rintro e w6 ⟨err, rfl, hf, hb6⟩
              have H6 := Lib.hid (And.intro (H5.out.1.below hb6) (And.intro hf.chain (And.intro (H5.out.2.2.1.trans (hb6.mono H5.out.2.2.1.size)) (own_below H5.out.2.2.2 hb6))))
              clear hTA hf hb6
              go_wp2_with fail
              refine (code_chain 1 err 13 w6 H6.out.2.1 (HG.out.below H6.out.2.2.1)).mono ?_
              rintro e w7 ⟨rfl, hb7⟩
              have H7 := Lib.hid (And.intro (H6.out.1.below hb7) (And.intro (H6.out.2.2.1.trans (hb7.mono H6.out.2.2.1.size)) (own_below H6.out.2.2.2 hb7)))
              clear hb7
              go_wp2_with fail
              obtain ⟨mq, mw, tag, qb, cb, hTA⟩ := H7.out.1
              refine (there_tower id hTA).mono ?_
              rintro e w8 ⟨rfl, rfl⟩
              rw [HTH.out]
              go_wp2_with fail
              refine (held_tower (.slice none 0 0) [] hTA (sread_nil _) (HI.out.heldLen _)).mono ?_
              rintro e w9 ⟨vu, rfl, hvu, hb9⟩
              have H9 := Lib.hid (And.intro (own_below H7.out.2.2 hb9) (And.intro hvu (H7.out.2.1.trans (hb9.mono H7.out.2.1.size))))
              clear hTA hvu hb9
              go_wp2_with fail
              refine (gsame_any vt vu _ _ w9 (gread_of_ownsRow H9.out.1) (gread_of_ownsRow H9.out.2.1)).mono ?_
              rintro e w10 ⟨rfl, hb10⟩
              rw [decide_eq_true rfl]
              have H10 := Lib.hid (H9.out.2.2.trans (hb10.mono H9.out.2.2.size))
              clear hb10
              go_wp2
              go_ret
              exact ⟨rfl, H10.out⟩
            | succ m =>
              have hjn : (j : Int) < (5 : Int) := by omega
              have hj0 : (0 : Int) ≤ (j : Int) := by omega
              obtain ⟨_, a9, c9, e9, _, _, _, hc9⟩ := HR.out.2.1
              simp only [Value.slice.injEq] at e9
              rw [← e9.1] at hc9
              obtain ⟨b9, o9, rfl, hc⟩ := hc9 (by omega)
              obtain ⟨s, hs⟩ : ∃ s, s = LL[j]'(by omega) := ⟨_, rfl⟩
              have x0 : wr.cell? ⟨b9, o9 + j, none⟩ = some (.string s) := by rw [hs]; exact hc j (by omega)
              have hmem : s ∈ LL := by rw [hs]; exact List.getElem_mem _
              have htk : LL.take (j + 1) = LL.take j ++ [s] := by rw [hs]; exact List.take_succ_eq_append_getElem (by omega)
              have HTK := Lib.hid (And.intro htk hmem)
              clear hc hc9 e9 hs hmem htk
              have HX5 := Lib.hid hx5
              clear hx5
              cases f1 : s.toList.isEmpty with
              | true =>
                go_wp2
                go_roundg m
                case measure => omega
                case rel => exact ⟨j + 1, by go_num, by omega, HBR.out, _, rfl, fun _ => rfl⟩
              | false =>
                by_cases f2 : 16 < (s.size : Int)
                · have f3 : (s.size : Int) > 16 := f2
                  go_wp2
                  go_roundg m
                  case measure => omega
                  case rel => exact ⟨j + 1, by go_num, by omega, HBR.out, _, rfl, fun _ => rfl⟩
                · have f3 : ¬ ((s.size : Int) > 16) := f2
                  have hod : oddB s = false := by simp [oddB, f1, f2]
                  have HOD := Lib.hid hod
                  clear hod
                  go_wp2
                  go_roundg m
                  case measure => omega
                  case rel => exact ⟨j + 1, by go_num, by omega, HBR.out, _, rfl, fun h => HX5.out (by rw [HTK.out.1, List.any_append] at h; simpa [HOD.out] using h)⟩
      · have HMO : Hid (1 ≤ mode ∧ mode ≤ 4) := Lib.hid ⟨by omega, by omega⟩
        have hlen2 : (5 : Int) > 2 := by decide
        have HLEN : Hid (2 < LL.length) := Lib.hid (by omega)
        cases hth : σ.there id with
        | true =>
          have HTH := Lib.hid hth
          clear hth
          go_wp2_with fail
          obtain ⟨mq, mw, tag, qb, cb, hTA⟩ := HT.out.1
          refine (there_tower id hTA).mono ?_
          rintro e w3 ⟨rfl, rfl⟩
          rw [HTH.out]
          clear hTA
          go_wp2
          go_loopg [38, 12] 5 (fun m kv wv wr => ∃ j : Nat, kv = .int .i64 (j : Int) ∧ j + m = 5 ∧ Below w2.heap.size w2 wr ∧ ∃ x : Int, wv = .int .i64 x ∧ ((LL.take j).any oddB = true → x = 5))
          case atStart => exact ⟨0, rfl, by omega, Below.refl _ _, _, rfl, fun h => by simp at h⟩
          case round =>
            obtain ⟨j, rfl, hjm, hbr, x, rfl, hx5⟩ := hrel
            have HR := Lib.hid (And.intro (HT.out.1.below hbr) (And.intro (HSR.out.below hbr) (HT.out.2.trans (hbr.mono HT.out.2.size))))
            have HBR := Lib.hid hbr
            clear hbr
            cases gk with
            | zero =>
              have hjn : ¬ ((j : Int) < (5 : Int)) := by omega
              have HX5 := Lib.hid hx5
              clear hx5
              go_wp2_with fail
              obtain ⟨mq, mw, tag, qb, cb, hTA⟩ := HR.out.1
              refine (held_tower (.slice none 0 0) [] hTA (sread_nil _) (HI.out.heldLen _)).mono ?_
              rintro e w5 ⟨vt, rfl, hvt, hb5⟩
              have H5 := Lib.hid (And.intro (HR.out.1.below hb5) (And.intro (HR.out.2.1.below hb5) (And.intro (HR.out.2.2.trans (hb5.mono HR.out.2.2.size)) hvt)))
              clear hTA hvt hb5
              go_wp2_with fail
              obtain ⟨mq, mw, tag, qb, cb, hTA⟩ := H5.out.1
              refine (task_name (w := w5) (t := t) id mode _ LL (intentI_ok HMO.out) H5.out.2.1 (.inl HLEN.out)).mono ?_
              rintro e w6 ⟨err, rfl, hf, hb6⟩
              have H6 := Lib.hid (And.intro (H5.out.1.below hb6) (And.intro hf.chain (And.intro (H5.out.2.2.1.trans (hb6.mono H5.out.2.2.1.size)) (own_below H5.out.2.2.2 hb6))))
              clear hTA hf hb6
              go_wp2_with fail
              refine (code_chain 1 err 5 w6 H6.out.2.1 (HG.out.below H6.out.2.2.1)).mono ?_
              rintro e w7 ⟨rfl, hb7⟩
              have H7 := Lib.hid (And.intro (H6.out.1.below hb7) (And.intro (H6.out.2.2.1.trans (hb7.mono H6.out.2.2.1.size)) (own_below H6.out.2.2.2 hb7)))
              clear hb7
              go_wp2_with fail
              obtain ⟨mq, mw, tag, qb, cb, hTA⟩ := H7.out.1
              refine (there_tower id hTA).mono ?_
              rintro e w8 ⟨rfl, rfl⟩
              rw [HTH.out]
              go_wp2_with fail
              refine (held_tower (.slice none 0 0) [] hTA (sread_nil _) (HI.out.heldLen _)).mono ?_
              rintro e w9 ⟨vu, rfl, hvu, hb9⟩
              have H9 := Lib.hid (And.intro (own_below H7.out.2.2 hb9) (And.intro hvu (H7.out.2.1.trans (hb9.mono H7.out.2.1.size))))
              clear hTA hvu hb9
              go_wp2_with fail
              refine (gsame_any vt vu _ _ w9 (gread_of_ownsRow H9.out.1) (gread_of_ownsRow H9.out.2.1)).mono ?_
              rintro e w10 ⟨rfl, hb10⟩
              rw [decide_eq_true rfl]
              have H10 := Lib.hid (H9.out.2.2.trans (hb10.mono H9.out.2.2.size))
              clear hb10
              go_wp2
              go_ret
              exact ⟨rfl, H10.out⟩
            | succ m =>
              have hjn : (j : Int) < (5 : Int) := by omega
              have hj0 : (0 : Int) ≤ (j : Int) := by omega
              obtain ⟨_, a9, c9, e9, _, _, _, hc9⟩ := HR.out.2.1
              simp only [Value.slice.injEq] at e9
              rw [← e9.1] at hc9
              obtain ⟨b9, o9, rfl, hc⟩ := hc9 (by omega)
              obtain ⟨s, hs⟩ : ∃ s, s = LL[j]'(by omega) := ⟨_, rfl⟩
              have x0 : wr.cell? ⟨b9, o9 + j, none⟩ = some (.string s) := by rw [hs]; exact hc j (by omega)
              have hmem : s ∈ LL := by rw [hs]; exact List.getElem_mem _
              have htk : LL.take (j + 1) = LL.take j ++ [s] := by rw [hs]; exact List.take_succ_eq_append_getElem (by omega)
              have HTK := Lib.hid (And.intro htk hmem)
              clear hc hc9 e9 hs hmem htk
              have HX5 := Lib.hid hx5
              clear hx5
              cases f1 : s.toList.isEmpty with
              | true =>
                go_wp2
                go_roundg m
                case measure => omega
                case rel => exact ⟨j + 1, by go_num, by omega, HBR.out, _, rfl, fun _ => rfl⟩
              | false =>
                by_cases f2 : 16 < (s.size : Int)
                · have f3 : (s.size : Int) > 16 := f2
                  go_wp2
                  go_roundg m
                  case measure => omega
                  case rel => exact ⟨j + 1, by go_num, by omega, HBR.out, _, rfl, fun _ => rfl⟩
                · have f3 : ¬ ((s.size : Int) > 16) := f2
                  have hod : oddB s = false := by simp [oddB, f1, f2]
                  have HOD := Lib.hid hod
                  clear hod
                  go_wp2
                  go_roundg m
                  case measure => omega
                  case rel => exact ⟨j + 1, by go_num, by omega, HBR.out, _, rfl, fun h => HX5.out (by rw [HTK.out.1, List.any_append] at h; simpa [HOD.out] using h)⟩
        | false =>
          have HTH := Lib.hid hth
          clear hth
          go_wp2_with fail
          obtain ⟨mq, mw, tag, qb, cb, hTA⟩ := HT.out.1
          refine (there_tower id hTA).mono ?_
          rintro e w3 ⟨rfl, rfl⟩
          rw [HTH.out]
          clear hTA
          go_wp2
          go_loopg [38, 12] 5 (fun m kv wv wr => ∃ j : Nat, kv = .int .i64 (j : Int) ∧ j + m = 5 ∧ Below w2.heap.size w2 wr ∧ ∃ x : Int, wv = .int .i64 x ∧ ((LL.take j).any oddB = true → x = 5))
          case atStart => exact ⟨0, rfl, by omega, Below.refl _ _, _, rfl, fun h => by simp at h⟩
          case round =>
            obtain ⟨j, rfl, hjm, hbr, x, rfl, hx5⟩ := hrel
            have HR := Lib.hid (And.intro (HT.out.1.below hbr) (And.intro (HSR.out.below hbr) (HT.out.2.trans (hbr.mono HT.out.2.size))))
            have HBR := Lib.hid hbr
            clear hbr
            cases gk with
            | zero =>
              have hjn : ¬ ((j : Int) < (5 : Int)) := by omega
              have HX5 := Lib.hid hx5
              clear hx5
              go_wp2_with fail
              obtain ⟨mq, mw, tag, qb, cb, hTA⟩ := HR.out.1
              refine (held_tower (.slice none 0 0) [] hTA (sread_nil _) (HI.out.heldLen _)).mono ?_
              rintro e w5 ⟨vt, rfl, hvt, hb5⟩
              have H5 := Lib.hid (And.intro (HR.out.1.below hb5) (And.intro (HR.out.2.1.below hb5) (And.intro (HR.out.2.2.trans (hb5.mono HR.out.2.2.size)) hvt)))
              clear hTA hvt hb5
              go_wp2_with fail
              obtain ⟨mq, mw, tag, qb, cb, hTA⟩ := H5.out.1
              refine (task_name (w := w5) (t := t) id mode _ LL (intentI_ok HMO.out) H5.out.2.1 (.inl HLEN.out)).mono ?_
              rintro e w6 ⟨err, rfl, hf, hb6⟩
              have H6 := Lib.hid (And.intro (H5.out.1.below hb6) (And.intro hf.chain (And.intro (H5.out.2.2.1.trans (hb6.mono H5.out.2.2.1.size)) (own_below H5.out.2.2.2 hb6))))
              clear hTA hf hb6
              go_wp2_with fail
              refine (code_chain 1 err 5 w6 H6.out.2.1 (HG.out.below H6.out.2.2.1)).mono ?_
              rintro e w7 ⟨rfl, hb7⟩
              have H7 := Lib.hid (And.intro (H6.out.1.below hb7) (And.intro (H6.out.2.2.1.trans (hb7.mono H6.out.2.2.1.size)) (own_below H6.out.2.2.2 hb7)))
              clear hb7
              go_wp2_with fail
              obtain ⟨mq, mw, tag, qb, cb, hTA⟩ := H7.out.1
              refine (there_tower id hTA).mono ?_
              rintro e w8 ⟨rfl, rfl⟩
              rw [HTH.out]
              go_wp2_with fail
              refine (held_tower (.slice none 0 0) [] hTA (sread_nil _) (HI.out.heldLen _)).mono ?_
              rintro e w9 ⟨vu, rfl, hvu, hb9⟩
              have H9 := Lib.hid (And.intro (own_below H7.out.2.2 hb9) (And.intro hvu (H7.out.2.1.trans (hb9.mono H7.out.2.1.size))))
              clear hTA hvu hb9
              go_wp2_with fail
              refine (gsame_any vt vu _ _ w9 (gread_of_ownsRow H9.out.1) (gread_of_ownsRow H9.out.2.1)).mono ?_
              rintro e w10 ⟨rfl, hb10⟩
              rw [decide_eq_true rfl]
              have H10 := Lib.hid (H9.out.2.2.trans (hb10.mono H9.out.2.2.size))
              clear hb10
              go_wp2
              go_ret
              exact ⟨rfl, H10.out⟩
            | succ m =>
              have hjn : (j : Int) < (5 : Int) := by omega
              have hj0 : (0 : Int) ≤ (j : Int) := by omega
              obtain ⟨_, a9, c9, e9, _, _, _, hc9⟩ := HR.out.2.1
              simp only [Value.slice.injEq] at e9
              rw [← e9.1] at hc9
              obtain ⟨b9, o9, rfl, hc⟩ := hc9 (by omega)
              obtain ⟨s, hs⟩ : ∃ s, s = LL[j]'(by omega) := ⟨_, rfl⟩
              have x0 : wr.cell? ⟨b9, o9 + j, none⟩ = some (.string s) := by rw [hs]; exact hc j (by omega)
              have hmem : s ∈ LL := by rw [hs]; exact List.getElem_mem _
              have htk : LL.take (j + 1) = LL.take j ++ [s] := by rw [hs]; exact List.take_succ_eq_append_getElem (by omega)
              have HTK := Lib.hid (And.intro htk hmem)
              clear hc hc9 e9 hs hmem htk
              have HX5 := Lib.hid hx5
              clear hx5
              cases f1 : s.toList.isEmpty with
              | true =>
                go_wp2
                go_roundg m
                case measure => omega
                case rel => exact ⟨j + 1, by go_num, by omega, HBR.out, _, rfl, fun _ => rfl⟩
              | false =>
                by_cases f2 : 16 < (s.size : Int)
                · have f3 : (s.size : Int) > 16 := f2
                  go_wp2
                  go_roundg m
                  case measure => omega
                  case rel => exact ⟨j + 1, by go_num, by omega, HBR.out, _, rfl, fun _ => rfl⟩
                · have f3 : ¬ ((s.size : Int) > 16) := f2
                  have hod : oddB s = false := by simp [oddB, f1, f2]
                  have HOD := Lib.hid hod
                  clear hod
                  go_wp2
                  go_roundg m
                  case measure => omega
                  case rel => exact ⟨j + 1, by go_num, by omega, HBR.out, _, rfl, fun h => HX5.out (by rw [HTK.out.1, List.any_append] at h; simpa [HOD.out] using h)⟩
end Go.Proofs.YteghcgiclpbkdaaDoor
