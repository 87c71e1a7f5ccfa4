/- Locks' laws: Same of grants. -/
import Derived.Test.YteghcgiclpbkdaaDoorLawB
import Derived.Laws.StructEq
namespace Go.Proofs.YteghcgiclpbkdaaDoor
open Go.RowKit

theorem grantStood : Tryd.prog.stoodInHeld 34 = false := by kernel_rfl

set_option maxHeartbeats 1000000 in
theorem gsame_any (v1 v2 : Value) (l1 l2 : List (Int × Int)) (w : World) (h1 : GRead w v1 l1) (h2 : GRead w v2 l2) :
    Calls Tryd.prog 27 #[v1, v2] w fun e w' => e = .returned (.bool (decide (l1 = l2))) ∧ Below w.heap.size w w' := by
  obtain ⟨m1, a1, c1, rfl, h1⟩ := h1
  obtain ⟨m2, a2, c2, rfl, h2⟩ := h2
  by_cases hlen : l1.length = l2.length
  · have hle : ((l1.length : Int) != (l2.length : Int)) = false := by simp [hlen]
    have HL := Lib.hid hlen
    clear hlen
    go_enter Tryd.func27, Tryd.ntmps27
    go_wp2
    go_loopw [13] (fun i wr => ∃ k : Nat, k ≤ l1.length ∧ i = .int .i64 k ∧ (∀ j (h : j < l1.length) (h2 : j < l2.length), j < k → l1[j] = l2[j]) ∧ Below w.heap.size w wr) (fun i _ => l1.length - (intOf i).toNat)
    case atStart => exact ⟨0, Nat.zero_le _, rfl, by omega, Below.refl _ _⟩
    case round =>
      obtain ⟨k, hk, rfl, hno, hb⟩ := hrel
      by_cases hlt : k < l1.length
      · have hl2 : k < l2.length := by rw [← HL.out]; exact hlt
        have hlt2 : (k : Int) < (l2.length : Int) := by omega
        have hltI : (k : Int) < (l1.length : Int) := by omega
        have hk0 : (0 : Int) ≤ (k : Int) := by omega
        obtain ⟨b1, o1, rfl, hc1⟩ := h1 (by omega)
        obtain ⟨b2, o2, rfl, hc2⟩ := h2 (by omega)
        have d1 := bcell hb (hc1 k hlt).1
        have d2 := bcell hb (hc2 k hl2).1
        have d3 := bcell hb (hc1 k hlt).2
        have d4 := bcell hb (hc2 k hl2).2
        obtain ⟨g1, hg1⟩ : ∃ g1, g1 = l1[k] := ⟨_, rfl⟩
        obtain ⟨g2, hg2⟩ : ∃ g2, g2 = l2[k] := ⟨_, rfl⟩
        rw [← hg1] at d1 d3
        rw [← hg2] at d2 d4
        have HG := Lib.hid (And.intro hg1 hg2)
        have HB := Lib.hid hb
        have HN := Lib.hid hno
        clear hc1 hc2 h1 h2 hb hno
        clear hg1 hg2
        by_cases f1 : g1.1 = g2.1
        · have e1 : (g1.1 == g2.1) = true := by simp [f1]
          by_cases f2 : g1.2 = g2.2
          · have e2 : (g1.2 == g2.2) = true := by simp [f2]
            have NE := Lib.hid (Prod.ext f1 f2)
            clear f1 f2
            go_wp2
            go_quiet (fail)
            go_wp2
            go_roundw
            case rel =>
              refine ⟨k + 1, by omega, by go_num, fun j hj hj2 hjk => ?_, pwDrewN HB.out _⟩
              rcases Nat.lt_or_ge j k with h | h
              · exact HN.out j hj hj2 h
              · obtain rfl : j = k := by omega
                rw [← HG.out.1, ← HG.out.2]; exact NE.out
            case measure => simp [intOf]; omega
          · have e2 : (g1.2 == g2.2) = false := by simp [f2]
            have NE : Hid (¬ g1 = g2) := Lib.hid (fun e => f2 (by rw [e]))
            clear f1 f2
            go_wp2
            go_quiet (fail)
            go_wp2
            go_ret
            refine ⟨ret_bool ?_, pwDrewN HB.out _⟩
            symm
            rw [decide_eq_false_iff_not]
            rintro rfl
            exact NE.out (by rw [HG.out.1, HG.out.2])
        · have e1 : (g1.1 == g2.1) = false := by simp [f1]
          have NE : Hid (¬ g1 = g2) := Lib.hid (fun e => f1 (by rw [e]))
          clear f1
          go_wp2
          go_quiet (fail)
          go_wp2
          go_ret
          refine ⟨ret_bool ?_, pwDrewN HB.out _⟩
          symm
          rw [decide_eq_false_iff_not]
          rintro rfl
          exact NE.out (by rw [HG.out.1, HG.out.2])
      · go_wp2
        go_ret
        refine ⟨ret_bool ?_, hb⟩
        symm
        rw [decide_eq_true_eq]
        exact List.ext_getElem HL.out (fun i hi hi2 => hno i hi hi2 (by omega))
  · have hle : ((l1.length : Int) != (l2.length : Int)) = true := by simp; omega
    go_enter Tryd.func27, Tryd.ntmps27
    go_wp2
    go_ret
    refine ⟨ret_bool ?_, Below.refl _ _⟩
    symm
    rw [decide_eq_false_iff_not]
    rintro rfl
    exact hlen rfl
end Go.Proofs.YteghcgiclpbkdaaDoor
