/- value.rises (printed by wip/gen_kgk.py). -/
import Derived.Test.YthlioinmeimhoaaDoorKgJ
import Derived.Test.YthlioinmeimhoaaDoorKqA
namespace Go.Proofs.YthlioinmeimhoaaDoor
open Go.Shelf Go.RowKit Go.Lib

def prevOf (l : List (BL × V)) (i : Nat) : Option BL := if i = 0 then none else (l[i - 1]?).map (·.1)
theorem ba_tl4 (l : BL) : (BA l).toList = l := by rw [Lib.toList_data]
theorem risesL_cons (p : Option BL) (f : BL × V) (l : List (BL × V)) : risesL p (f :: l) = ((validF f && (match p with | none => true | some q => lcmp q f.1 == .lt)) && risesL (some f.1) l) := by
  cases p <;> simp [risesL]
theorem rises_drop (l : List (BL × V)) (i : Nat) (h : i < l.length) : risesL (prevOf l i) (l.drop i) = ((validF l[i] && (match prevOf l i with | none => true | some q => lcmp q l[i].1 == .lt)) && risesL (prevOf l (i + 1)) (l.drop (i + 1))) := by
  rw [List.drop_eq_getElem_cons h, risesL_cons]
  congr 2
  unfold prevOf
  rw [if_neg (by omega), Nat.add_sub_cancel, List.getElem?_eq_getElem h]
  rfl

set_option maxHeartbeats 16000000 in
set_option maxRecDepth 100000 in
theorem rises_any (l : List (BL × V)) (cs : List Value) (b cap : Nat) (S : Nat → Prop) (w : World) (hV : FsAt S w l cs) (hr : ∀ k u, cs[k]? = some u → w.cell? ⟨b, k, none⟩ = some u) (hT : Tabs w) (hlen : (fieldsL l).length ≤ 1000000) (hl : l.length ≤ 1000000)
    (ih : ∀ x ∈ l, ValidH x.2) : Calls Tryd.prog 47 #[.slice (some ⟨b, 0, none⟩) l.length cap] w fun e w' => e = .returned (.bool (risesL none l)) ∧ Below w.heap.size w w' := by
  have HV := Lib.hid (And.intro hV (And.intro hr (And.intro ih hlen)))
  have HT := Lib.hid hT
  obtain ⟨N1, hN1⟩ : ∃ n, l.length = n := ⟨_, rfl⟩
  rw [hN1] at hl ⊢
  have HN1 := Lib.hid hN1
  clear hV hr ih hlen hT hN1
  go_enter Tryd.func47, Tryd.ntmps47
  go_wp2_with fail
  go_loopg [7] N1 (fun gk iv wr => ∃ i : Nat, gk + i = N1 ∧ iv = .int .i64 i ∧ Hid (risesL none l = risesL (prevOf l i) (l.drop i)) ∧ Hid (Below w.heap.size w wr))
  case atStart => exact ⟨0, Nat.add_zero _, rfl, Lib.hid rfl, Lib.hid (Below.refl _ _)⟩
  case round =>
    obtain ⟨i, hg, rfl, HC, HW⟩ := hrel
    by_cases hi : i < N1
    · have hiz : (i : Int) < (N1 : Int) := by omega
      have hwK : IntKind.i64.wrap ((i : Int) + 1) = ((i + 1 : Nat) : Int) := by rw [IntWalk.i64_in _ (by omega)]; omega
      have hx1 : i < l.length := by rw [HN1.out]; exact hi
      obtain ⟨d0, d1, d2, d3, d4, hx, e5, e0, e1, e2, e3, e4⟩ := HV.out.1.get i hx1
      obtain ⟨q0, q1, q2, q3, q4, q5, q6, q7, q8, hq⟩ := hx.shape
      simp only [List.cons.injEq, and_true] at hq
      obtain ⟨rfl, rfl, rfl, rfl, rfl⟩ := hq
      have hdrop := rises_drop l i hx1
      obtain ⟨nx, hnx⟩ : ∃ n, l[i].1 = n := ⟨_, rfl⟩
      obtain ⟨x, hxe⟩ : ∃ x, l[i].2 = x := ⟨_, rfl⟩
      have hkm := keyf_mem (List.getElem_mem hx1)
      rw [hnx, hxe] at hkm
      have hvf : validF l[i] = (Lib.validD nx && validV x) := by rw [← hnx, ← hxe]; rw [show l[i] = (l[i].1, l[i].2) from rfl, validF]
      rw [hvf, hnx] at hdrop
      rw [hnx] at e5
      rw [hxe] at hx
      obtain ⟨NX, hNX⟩ : ∃ n, BA nx = n := ⟨_, rfl⟩
      rw [hNX] at e5
      obtain ⟨vv, hvv⟩ : ∃ v, validV x = v := ⟨_, rfl⟩
      rw [hvv] at hdrop
      have a5 := bcell HW.out (HV.out.2.1 _ _ e5)
      have a0 := bcell HW.out (HV.out.2.1 _ _ e0)
      have a1 := bcell HW.out (HV.out.2.1 _ _ e1)
      have a2 := bcell HW.out (HV.out.2.1 _ _ e2)
      have a3 := bcell HW.out (HV.out.2.1 _ _ e3)
      have a4 := bcell HW.out (HV.out.2.1 _ _ e4)
      obtain ⟨W3, hW3⟩ : ∃ W, wr.alloc (.cells #[.string NX, .int .i64 q0, .int .i64 q1, .string q2, .slice q3 q4 q5, .slice q6 q7 q8] 72) = W := ⟨_, rfl⟩
      obtain ⟨B, hBe⟩ : ∃ B, wr.heap.size = B := ⟨_, rfl⟩
      have hB3 : Blk W3 B 72 [.string NX, .int .i64 q0, .int .i64 q1, .string q2, .slice q3 q4 q5, .slice q6 q7 q8] := by rw [← hW3, ← hBe]; exact heap_alloc_new wr _
      have hb13 : Below wr.heap.size wr W3 := by rw [← hW3]; exact (Below.refl _ wr).alloc (Nat.le_refl _) _
      have HB3 := Lib.hid (And.intro hB3 (And.intro (HW.out.trans (hb13.mono HW.out.size)) (HW.out.trans (hb13.mono HW.out.size))))
      have HN := Lib.hid (And.intro (show NX.size ≤ 1099511627776 by rw [← hNX, ba_size]; have := HV.out.2.2.2; omega) hNX)
      have hih := HV.out.2.2.1 l[i] (List.getElem_mem hx1)
      rw [hxe] at hih
      have HX := Lib.hid (fun (W : World) (hb : Below w.heap.size w W) => show Calls _ _ _ _ (fun e w' => e = .returned (.bool vv) ∧ Below W.heap.size W w') by rw [← hvv]; exact hih S W _ (hx.later hb) (HT.out.below hb) (by have := HV.out.2.2.2; omega))
      have hvd : Lib.validD NX.data.toList = Lib.validD nx := by rw [← hNX]
      clear hx e0 e1 e2 e3 e4 e5 hnx hxe hkm hvf hNX hih hvv hb13
      go_wp2_with fail
      (try rw [hW3]); (try rw [hBe])
      clear a0 a1 a2 a3 a4 a5 hW3 hBe
      have k0 := bel_cell (hB3.cell 0)
      have k1 := bel_cell (hB3.cell 1)
      have k2 := bel_cell (hB3.cell 2)
      have k3 := bel_cell (hB3.cell 3)
      have k4 := bel_cell (hB3.cell 4)
      have k5 := bel_cell (hB3.cell 5)
      clear hB3
      cases hd : Lib.validD nx with
      | false =>
        rw [hd] at hvd hdrop
        have HTV := Lib.hid (fun (W : World) (hb : Below w.heap.size w W) => show Calls Tryd.prog 33 #[.string NX] W (fun e w' => e = .returned (.bool false) ∧ Below W.heap.size W w') by rw [← hvd]; exact valid_any NX W HN.out.1 (HT.out.below hb))
        have HF := Lib.hid (show risesL none l = false by rw [HC.out, hdrop]; rfl)
        clear hvd hd hdrop
        refine wp_region_bel (by kernel_rfl) (by kernel_rfl) ?_
        repeat (go_big_quiet_step ((first
          | (go_at_call 33; exact calls_bel (show Calls _ _ _ _ _ from HTV.out _ (HB3.out.2.2.trans ((BelBy.bel _).mono HB3.out.2.2.size))))
          | (go_at_call 23; exact calls_bel (show Calls _ _ _ _ _ from HX.out _ (HB3.out.2.2.trans ((BelBy.bel _).mono HB3.out.2.2.size)))))))
        refine wpQuiet_nil ?_
        rintro _ ⟨pq, rfl⟩
        clear k0 k1 k2 k3 k4 k5
        go_wp2
        go_ret
        exact ⟨by rw [HF.out]; try rfl, HB3.out.2.2.trans (pq.bel.mono HB3.out.2.2.size)⟩
      | true =>
        rw [hd] at hvd hdrop
        have HTV := Lib.hid (fun (W : World) (hb : Below w.heap.size w W) => show Calls Tryd.prog 33 #[.string NX] W (fun e w' => e = .returned (.bool true) ∧ Below W.heap.size W w') by rw [← hvd]; exact valid_any NX W HN.out.1 (HT.out.below hb))
        clear hvd hd
        by_cases hi0 : i = 0
        · subst hi0
          have hp0 : prevOf l 0 = none := rfl
          rw [hp0] at hdrop
          have HFx : risesL none l = (vv && risesL (prevOf l (0 + 1)) (l.drop (0 + 1))) := by rw [HC.out, hp0, hdrop]; simp
          clear hp0 hdrop
          refine wp_region_bel (by kernel_rfl) (by kernel_rfl) ?_
          repeat (go_big_quiet_step ((first
            | (go_at_call 33; exact calls_bel (show Calls _ _ _ _ _ from HTV.out _ (HB3.out.2.2.trans ((BelBy.bel _).mono HB3.out.2.2.size))))
            | (go_at_call 23; exact calls_bel (show Calls _ _ _ _ _ from HX.out _ (HB3.out.2.2.trans ((BelBy.bel _).mono HB3.out.2.2.size)))))))
          refine wpQuiet_nil ?_
          rintro _ ⟨pq, rfl⟩
          clear k0 k1 k2 k3 k4 k5
          have HW5 := Lib.hid (HB3.out.2.2.trans (pq.bel.mono HB3.out.2.2.size))
          have HF := Lib.hid HFx
          clear HFx
          cases vv with
          | false =>
            go_wp2
            go_ret
            exact ⟨by rw [HF.out]; try rfl, HW5.out⟩
          | true =>
            go_wp2
            go_roundg (gk - 1)
            case rel => exact ⟨0 + 1, by omega, rfl, Lib.hid (HF.out.trans (by simp)), HW5⟩
            case measure => omega
        · obtain ⟨np, hnp⟩ : ∃ n, l[i - 1].1 = n := ⟨_, rfl⟩
          have hpi : prevOf l i = some np := by unfold prevOf; rw [if_neg hi0, List.getElem?_eq_getElem (by omega), ← hnp]; rfl
          obtain ⟨_, _, _, _, _, _, e5, _⟩ := HV.out.1.get (i - 1) (by omega)
          rw [hnp] at e5
          obtain ⟨NP, hNP⟩ : ∃ n, BA np = n := ⟨_, rfl⟩
          rw [hNP] at e5
          have hprev := HV.out.2.1 _ _ e5
          have hdo : decide (0 < i) = true := by simpa using (by omega : 0 < i)
          have hio : (0 : Int) < (i : Int) := by omega
          have hwm : IntKind.i64.wrap ((i : Int) - 1) = ((i - 1 : Nat) : Int) := by rw [IntWalk.i64_in _ (by omega)]; omega
          have hwn : ((i : Int) - 1).toNat = i - 1 := by omega
          have hbl : Op.bytesLess NP.toList NX.toList = (lcmp np nx == .lt) := by rw [lcmp_less, ← hNP, ← HN.out.2, ba_tl4, ba_tl4]
          rw [hpi] at hdrop
          simp only [] at hdrop
          cases ho : (lcmp np nx == .lt) with
          | false =>
            rw [ho] at hbl hdrop
            have HF := Lib.hid (show risesL none l = false by rw [HC.out, hpi, hdrop]; simp)
            clear hpi hdrop ho hnp hNP e5
            have j0 := bel_cell (bcell HB3.out.2.1 hprev)
            refine wp_region_bel (by kernel_rfl) (by kernel_rfl) ?_
            repeat (go_big_quiet_step ((first
              | (go_at_call 33; exact calls_bel (show Calls _ _ _ _ _ from HTV.out _ (HB3.out.2.2.trans ((BelBy.bel _).mono HB3.out.2.2.size))))
              | (go_at_call 23; exact calls_bel (show Calls _ _ _ _ _ from HX.out _ (HB3.out.2.2.trans ((BelBy.bel _).mono HB3.out.2.2.size)))))))
            refine wpQuiet_nil ?_
            rintro _ ⟨pq, rfl⟩
            clear k0 k1 k2 k3 k4 k5 j0
            go_wp2
            go_ret
            exact ⟨by rw [HF.out]; try rfl, HB3.out.2.2.trans (pq.bel.mono HB3.out.2.2.size)⟩
          | true =>
            rw [ho] at hbl hdrop
            have HFx : risesL none l = (vv && risesL (prevOf l (i + 1)) (l.drop (i + 1))) := by rw [HC.out, hpi, hdrop]; simp
            clear hpi hdrop ho hnp hNP e5
            have j0 := bel_cell (bcell HB3.out.2.1 hprev)
            refine wp_region_bel (by kernel_rfl) (by kernel_rfl) ?_
            repeat (go_big_quiet_step ((first
              | (go_at_call 33; exact calls_bel (show Calls _ _ _ _ _ from HTV.out _ (HB3.out.2.2.trans ((BelBy.bel _).mono HB3.out.2.2.size))))
              | (go_at_call 23; exact calls_bel (show Calls _ _ _ _ _ from HX.out _ (HB3.out.2.2.trans ((BelBy.bel _).mono HB3.out.2.2.size)))))))
            refine wpQuiet_nil ?_
            rintro _ ⟨pq, rfl⟩
            clear k0 k1 k2 k3 k4 k5 j0
            have HW5 := Lib.hid (HB3.out.2.2.trans (pq.bel.mono HB3.out.2.2.size))
            have HF := Lib.hid HFx
            clear HFx
            cases vv with
            | false =>
              go_wp2
              go_ret
              exact ⟨by rw [HF.out]; try rfl, HW5.out⟩
            | true =>
              go_wp2
              go_roundg (gk - 1)
              case rel => exact ⟨i + 1, by omega, rfl, Lib.hid (HF.out.trans (by simp)), HW5⟩
              case measure => omega
    · have hiz : ¬ (i : Int) < (N1 : Int) := by omega
      have HF := Lib.hid (show risesL none l = true by rw [HC.out, List.drop_eq_nil_of_le (by rw [HN1.out]; omega), risesL])
      go_wp2
      go_ret
      exact ⟨by rw [HF.out]; try rfl, HW.out⟩
end Go.Proofs.YthlioinmeimhoaaDoor
