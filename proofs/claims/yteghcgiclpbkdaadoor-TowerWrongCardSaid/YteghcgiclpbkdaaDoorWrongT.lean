/- TowerWrong, the given statement (tied card): whatever deeds, numbers and names come in, the law answers true, and they read as they did; errors.errorType starts as the program's text lays it. -/
import Derived.Test.YteghcgiclpbkdaaDoorTwW
import Derived.Test.YteghcgiclpbkdaaDoorRowB
import Derived.Test.YteghcgiclpbkdaaDoorDoor
import Derived.SevenTiedAt
import Derived.Carry
namespace Go.Proofs.YteghcgiclpbkdaaDoor
open Go.ChangeShapes Go.WideShapes Go.ChangeAt Go.RowKit

set_option maxRecDepth 100000 in
theorem towerWrong_lifted (os : Os) (started : os.Started) (H : Type) (enc : TypeId × Value → H) :
    ReturnsInHanded {} Tryd.checked os 10 .any (fun w args => (Rows.towerWrongSpec.pre enc Tryd.prog Tryd.f10 [] false w args ∧ laidMetH Tryd.prog laidL w) ∧ sizedMet enc Tryd.prog Tryd.f10 (OpenSpec.ofChange Rows.towerWrongSpec) false w args)
      (Rows.towerWrongSpec.post enc Tryd.prog Tryd.f10 false true false false) := by
  refine returnsInHanded_of_change_and (C := Tryd.checked) (X := fun w _ => laidMetH Tryd.prog laidL w) (fun _ _ _ hh h => h.of_heap hh) own_knob started (by kernel_rfl) Tryd.func10
    (ChangeSpec.witness_at (enc := enc) (C := Tryd.checked) (os := os) (X := fun w _ => laidMetH Tryd.prog laidL w) false (laidWorld os) #[.slice none 0 0, .int .i64 0, .slice none 0 0, .int .i64 0] 8 rfl (by kernel_rfl) (by kernel_rfl) (by kernel_rfl) (by kernel_rfl) (by kernel_rfl) (laidWorld_met os _)) ?_
  intro W base args ds gs before hval0 hW _ _ hL _
  have hval : ∀ (j : Nat) t v, Tryd.f10.params[j]? = some t → args[j]? = some v → Value.okWide Tryd.prog W .any base t v := hval0
  have hW' := hW
  obtain ⟨p, q, hA0, hV, rfl, _, _⟩ := hW
  have hA : DataW.TrodAll enc Tryd.prog W 0 (fun _ => true) true Tryd.f10.params.toList args.toList ds p := hA0
  rw [Tryd.params10] at hA hval
  obtain ⟨v0, v1, v2, v3, d0, d1, d2, d3, p0, p1, p2, p3, rfl, rfl, rfl, h0, h1, h2, h3⟩ := trodAll_four hA
  obtain ⟨a0, len0, cap0, rfl⟩ := okWide_slice Tryd.underlying61 (hval 0 61 v0 rfl rfl)
  obtain ⟨l0, hl0⟩ := acts_open h0 rfl
  have hlt0 : ∀ x ∈ p0, x.block < W.heap.size := fun x hx => hW'.lt x (by simp [hx])
  obtain ⟨n1, rfl, rfl, rfl, hw1⟩ := open_int Tryd.underlying2 (hval 1 2 v1 rfl rfl) h1
  obtain ⟨a2, len2, cap2, rfl⟩ := okWide_slice Tryd.underlying70 (hval 2 70 v2 rfl rfl)
  obtain ⟨l2, hl2⟩ := strs_open h2 rfl
  have hlt2 : ∀ x ∈ p2, x.block < W.heap.size := fun x hx => hW'.lt x (by simp [hx])
  obtain ⟨n3, rfl, rfl, rfl, hw3⟩ := open_int Tryd.underlying3 (hval 3 3 v3 rfl rfl) h3
  obtain ⟨rfl, rfl⟩ := trodVars_none hV
  refine (wrong_law _ _ l0 l2 n1 n3 W hl0 hl2 (errT_of_laid hL)).mono fun e W' ⟨he, hb⟩ => ?_
  subst he
  exact ⟨_, rfl, _, _, _, [], p0 ++ ([] ++ (p2 ++ [])), [], hW', trodAll_mk1 (shut_bool Tryd.underlying4 _), trodAll_mk4 (Below.trod laid_out (by kernel_rfl) (of_decide_eq_true (by kernel_rfl)) h0 hb hlt0) (shut_int Tryd.underlying2 hw1) (Below.trod laid_out (by kernel_rfl) (of_decide_eq_true (by kernel_rfl)) h2 hb hlt2) (shut_int Tryd.underlying3 hw3), hb.trodVars laid_out (by kernel_rfl) hV, hb.frame _, fun h => by cases h⟩

theorem towerWrong_holds : Rows.TowerWrongSaid :=
  OpenClaim.holds_of_wide 10 Tryd.f10 rfl rfl rfl rfl rfl rfl rfl ⟨rfl, rfl, rfl, rfl, rfl⟩ rfl rfl rfl rfl rfl (by kernel_rfl) Tryd.func10 (by kernel_rfl)
    (of_decide_eq_true (by kernel_rfl)) (by unfold Func.isWrapper; first | (rw [if_pos (by decide +kernel)]; kernel_rfl) | (rw [if_neg (by decide +kernel)]; exact ⟨rfl, rfl⟩))
    (fun os started H enc _ => towerWrong_lifted os started H enc)

theorem towerWrong_card : Rows.TowerWrongCardSaid :=
  Claim7.holds_tied_plain_at .later [] [.handle] true Rows.towerWrongCard.stood.harness true
    towerWrong_holds (fun _ h => by cases h) (by kernel_rfl) (fun _ h => by cases h) towerWrong_row_tie rfl ⟨rfl, rfl⟩ (by kernel_rfl) rfl
    (fun f fn hf hfn => by
      obtain rfl : f = 10 := Option.some.inj ((show Tryd.prog.funcNamed "roundelay/roundelaylaw14.TowerWrong" = some 10 by kernel_rfl).symm.trans hf) |>.symm
      obtain rfl : fn = Tryd.f10 := (Option.some.inj (Tryd.func10.symm.trans hfn)).symm
      exact ⟨by kernel_rfl, fun j t ht => by
        rw [Tryd.params10] at ht
        rcases j with _ | _ | _ | _ | j
        · have h3 : t = 61 := by simpa using ht.symm
          subst h3
          exact (show Tryd.prog.wantsStandIn 61 = false by kernel_rfl)
        · have h3 : t = 2 := by simpa using ht.symm
          subst h3
          exact (show Tryd.prog.wantsStandIn 2 = false by kernel_rfl)
        · have h3 : t = 70 := by simpa using ht.symm
          subst h3
          exact (show Tryd.prog.wantsStandIn 70 = false by kernel_rfl)
        · have h3 : t = 3 := by simpa using ht.symm
          subst h3
          exact (show Tryd.prog.wantsStandIn 3 = false by kernel_rfl)
        · simp at ht⟩)
    (by kernel_rfl)
end Go.Proofs.YteghcgiclpbkdaaDoor
#print axioms Go.Proofs.YteghcgiclpbkdaaDoor.towerWrong_card
