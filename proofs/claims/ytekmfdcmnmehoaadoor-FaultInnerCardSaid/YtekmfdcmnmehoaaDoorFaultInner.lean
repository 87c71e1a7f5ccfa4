/- FaultInner, the given statement (tied card): whatever code and places come in, the law answers true, and they read as they did; errors.errorType starts as the program's text lays it (strconv's table of powers of ten is not listed: whatever it holds, both sides make the same text). -/
import Derived.Test.YtekmfdcmnmehoaaDoorFaK
import Derived.Test.YtekmfdcmnmehoaaDoorRowU
import Derived.Test.YtekmfdcmnmehoaaDoorFDoor
import Derived.SevenTiedAt
import Derived.Carry
import Derived.ChangeMaps5
namespace Go.Proofs.YtekmfdcmnmehoaaDoor
open Go.ChangeShapes Go.WideShapes Go.ChangeAt Go.RowKit

set_option maxRecDepth 100000 in
theorem faultInner_lifted (os : Os) (started : os.Started) (H : Type) (enc : TypeId × Value → H) :
    ReturnsInHanded {} Tryd.checked os 5 .any (fun w args => (Rows.faultInnerSpec.pre enc Tryd.prog Tryd.f5 [] false w args ∧ laidMetH Tryd.prog laidL w) ∧ sizedMet enc Tryd.prog Tryd.f5 (OpenSpec.ofChange Rows.faultInnerSpec) false w args)
      (Rows.faultInnerSpec.post enc Tryd.prog Tryd.f5 false true false false) := by
  refine returnsInHanded_shaped (C := Tryd.checked) (X := fun w _ => laidMetH Tryd.prog laidL w) (fun _ _ _ hh h => h.of_heap hh) own_knob started (by kernel_rfl) Tryd.func5
    (ChangeSpec.witness_at (enc := enc) (C := Tryd.checked) (os := os) (X := fun w _ => laidMetH Tryd.prog laidL w) false (laidWorld os) #[.int .u8 0, .string ⟨#[]⟩, .string ⟨#[]⟩] 8 rfl (by kernel_rfl) (by kernel_rfl) (by kernel_rfl) (by kernel_rfl) (by kernel_rfl) (laidWorld_met os _)) ?_
  intro W base args ds gs before hsh hval0 hW _ hsz hL _
  obtain ⟨z, hz⟩ := pz_of_shaped hsh
  have hval : ∀ (j : Nat) t v, Tryd.f5.params[j]? = some t → args[j]? = some v → Value.okWide Tryd.prog W .any base t v := hval0
  have hW' := hW
  obtain ⟨p, q, hA0, hV, rfl, _, _⟩ := hW
  have hA : DataW.TrodAll enc Tryd.prog W 0 (fun _ => true) true Tryd.f5.params.toList args.toList ds p := hA0
  rw [Tryd.params5] at hA hval
  obtain ⟨v0, v1, v2, d0, d1, d2, p0, p1, p2, rfl, rfl, rfl, h0, h1, h2⟩ := trodAll_three hA
  obtain ⟨n0, rfl, rfl, rfl, hw0⟩ := open_int Tryd.underlying5 (hval 0 5 v0 rfl rfl) h0
  obtain ⟨n1, rfl, rfl, rfl, hw1⟩ := Go.ChangeMaps.open_string Tryd.underlying9 (hval 1 9 v1 rfl rfl) h1
  obtain ⟨n2, rfl, rfl, rfl, hw2⟩ := Go.ChangeMaps.open_string Tryd.underlying9 (hval 2 9 v2 rfl rfl) h2
  obtain ⟨rfl, rfl⟩ := trodVars_none hV
  have hwt : n1.size ≤ reachBytes ∧ n2.size ≤ reachBytes := by
    have h2 := hsz
    rw [Tryd.params5] at h2
    simp only [List.cons_append, DataW.weightsEach, DataW.weights, List.all_append, List.all_cons, List.all_nil, Bool.and_eq_true, decide_eq_true_eq, List.append_nil] at h2
    exact ⟨by simpa using h2.2.1, by simpa using h2.2.2.2.1⟩
  have hr0 := wf_u8 hw0
  refine (finner_law n0 n1 n2 z W hr0.1 hr0.2 (by have := hwt.1; unfold reachBytes at this; omega) (by have := hwt.2; unfold reachBytes at this; omega) (errT_of_laid hL) hz).mono fun e W' ⟨he, hb⟩ => ?_
  subst he
  exact ⟨_, rfl, _, _, _, [], [] ++ ([] ++ []), [], hW', trodAll_mk1 (shut_bool Tryd.underlying4 _), trodAll_mk3 (shut_int Tryd.underlying5 hw0) (Go.ChangeMaps.shut_string Tryd.underlying9 hw1) (Go.ChangeMaps.shut_string Tryd.underlying9 hw2), hb.trodVars laid_out (by kernel_rfl) hV, hb.frame _, fun h => by cases h⟩

theorem faultInner_holds : Rows.FaultInnerSaid :=
  OpenClaim.holds_of_wide 5 Tryd.f5 rfl rfl rfl rfl rfl rfl rfl ⟨rfl, rfl, rfl, rfl, rfl⟩ rfl rfl rfl rfl rfl (by kernel_rfl) Tryd.func5 (by kernel_rfl)
    (of_decide_eq_true (by kernel_rfl)) (by unfold Func.isWrapper; first | (rw [if_pos (by decide +kernel)]; kernel_rfl) | (rw [if_neg (by decide +kernel)]; exact ⟨rfl, rfl⟩))
    (fun os started H enc _ => faultInner_lifted os started H enc)

theorem faultInner_card : Rows.FaultInnerCardSaid :=
  Claim7.holds_tied_plain_at .later [] [.handle] true Rows.faultInnerCard.stood.harness true
    faultInner_holds (fun _ h => by cases h) (by kernel_rfl) (fun _ h => by cases h) faultInner_row_tie rfl ⟨rfl, rfl⟩ (by kernel_rfl) rfl
    (fun f fn hf hfn => by
      obtain rfl : f = 5 := Option.some.inj ((show Tryd.prog.funcNamed "roundelay/roundelaylaw01.FaultInner" = some 5 by kernel_rfl).symm.trans hf) |>.symm
      obtain rfl : fn = Tryd.f5 := (Option.some.inj (Tryd.func5.symm.trans hfn)).symm
      exact ⟨by kernel_rfl, fun j t ht => by
        rw [Tryd.params5] at ht
        rcases j with _ | _ | _ | j
        · have h3 : t = 5 := by simpa using ht.symm
          subst h3
          exact (show Tryd.prog.wantsStandIn 5 = false by kernel_rfl)
        · have h3 : t = 9 := by simpa using ht.symm
          subst h3
          exact (show Tryd.prog.wantsStandIn 9 = false by kernel_rfl)
        · have h3 : t = 9 := by simpa using ht.symm
          subst h3
          exact (show Tryd.prog.wantsStandIn 9 = false by kernel_rfl)
        · simp at ht⟩)
    (by kernel_rfl)
end Go.Proofs.YtekmfdcmnmehoaaDoor
#print axioms Go.Proofs.YtekmfdcmnmehoaaDoor.faultInner_card
