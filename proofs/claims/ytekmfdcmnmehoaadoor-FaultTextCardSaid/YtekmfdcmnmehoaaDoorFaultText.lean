/- FaultText, the given statement (tied card): whatever code and places come in, the law answers true, and they read as they did; errors.errorType and strconv's tables start as the program's text lays them. -/
import Derived.Test.YtekmfdcmnmehoaaDoorFaU
import Derived.Test.YtekmfdcmnmehoaaDoorRowT
import Derived.Test.YtekmfdcmnmehoaaDoorFDoor
import Derived.SevenTiedAt
import Derived.Carry
import Derived.ChangeMaps5
namespace Go.Proofs.YtekmfdcmnmehoaaDoor
open Go.ChangeShapes Go.WideShapes Go.ChangeAt Go.RowKit

set_option maxRecDepth 100000 in
theorem faultText_lifted (os : Os) (started : os.Started) (H : Type) (enc : TypeId × Value → H) :
    ReturnsInHanded {} Tryd.checked os 4 .any (fun w args => (Rows.faultTextSpec.pre enc Tryd.prog Tryd.f4 [] false w args ∧ laidMetH Tryd.prog laidL4 w) ∧ sizedMet enc Tryd.prog Tryd.f4 (OpenSpec.ofChange Rows.faultTextSpec) false w args)
      (Rows.faultTextSpec.post enc Tryd.prog Tryd.f4 false true false false) := by
  refine returnsInHanded_of_change_and (C := Tryd.checked) (X := fun w _ => laidMetH Tryd.prog laidL4 w) (fun _ _ _ hh h => h.of_heap hh) own_knob started (by kernel_rfl) Tryd.func4
    (ChangeSpec.witness_at (enc := enc) (C := Tryd.checked) (os := os) (X := fun w _ => laidMetH Tryd.prog laidL4 w) false (laidWorld4 os) #[.int .i16 0, .slice none 0 0] 8 rfl (by kernel_rfl) (by kernel_rfl) (by kernel_rfl) (by kernel_rfl) (by kernel_rfl) (laidWorld4_met os _)) ?_
  intro W base args ds gs before hval0 hW _ hsz hL _
  have hval : ∀ (j : Nat) t v, Tryd.f4.params[j]? = some t → args[j]? = some v → Value.okWide Tryd.prog W .any base t v := hval0
  have hW' := hW
  obtain ⟨p, q, hA0, hV, rfl, _, _⟩ := hW
  have hA : DataW.TrodAll enc Tryd.prog W 0 (fun _ => true) true Tryd.f4.params.toList args.toList ds p := hA0
  rw [Tryd.params4] at hA hval
  obtain ⟨v0, v1, d0, d1, p0, p1, rfl, rfl, rfl, h0, h1⟩ := trodAll_two hA
  obtain ⟨n0, rfl, rfl, rfl, hw0⟩ := open_int Tryd.underlying30 (hval 0 30 v0 rfl rfl) h0
  obtain ⟨a1, len1, cap1, rfl⟩ := okWide_slice Tryd.underlying22 (hval 1 22 v1 rfl rfl)
  obtain ⟨rfl, rfl⟩ := trodVars_none hV
  have hwt : (DataW.weights Tryd.prog 22 d1).all (· ≤ reachBytes) = true := by
    have h2 := hsz
    rw [Tryd.params4] at h2
    simp only [List.cons_append, DataW.weightsEach, List.all_append, Bool.and_eq_true, List.append_nil] at h2
    exact h2.2.1
  obtain ⟨l1, hl1, hq1⟩ := strs_open2 h1 rfl hwt
  have hr0 : -32768 ≤ n0 ∧ n0 ≤ 32767 := by simpa [Lit.wf, IntKind.min, IntKind.max, IntKind.signed, IntKind.bits] using hw0
  have hlt1 : ∀ x ∈ p1, x.block < W.heap.size := fun x hx => hW'.lt x (by simp [hx])
  refine (ftext_law n0 _ l1 W hl1 hr0.1 hr0.2 hq1 (errT_of_laid4 hL) (PT_of_laid4 hL)).mono fun e W' ⟨he, hb⟩ => ?_
  subst he
  exact ⟨_, rfl, _, _, _, [], [] ++ p1, [], hW', trodAll_mk1 (shut_bool Tryd.underlying4 _), trodAll_mk2 (shut_int Tryd.underlying30 hw0) (Below.trod laid_out (by kernel_rfl) (of_decide_eq_true (by kernel_rfl)) h1 hb hlt1), hb.trodVars laid_out (by kernel_rfl) hV, hb.frame _, fun h => by cases h⟩

theorem faultText_holds : Rows.FaultTextSaid :=
  OpenClaim.holds_of_wide 4 Tryd.f4 rfl rfl rfl rfl rfl rfl rfl ⟨rfl, rfl, rfl, rfl, rfl⟩ rfl rfl rfl rfl rfl (by kernel_rfl) Tryd.func4 (by kernel_rfl)
    (of_decide_eq_true (by kernel_rfl)) (by unfold Func.isWrapper; first | (rw [if_pos (by decide +kernel)]; kernel_rfl) | (rw [if_neg (by decide +kernel)]; exact ⟨rfl, rfl⟩))
    (fun os started H enc _ => faultText_lifted os started H enc)

theorem faultText_card : Rows.FaultTextCardSaid :=
  Claim7.holds_tied_plain_at .later [] [.data, .data, .data, .handle] true Rows.faultTextCard.stood.harness true
    faultText_holds (fun _ h => by cases h) (by kernel_rfl) (fun _ h => by cases h) faultText_row_tie rfl ⟨rfl, rfl⟩ (by kernel_rfl) rfl
    (fun f fn hf hfn => by
      obtain rfl : f = 4 := Option.some.inj ((show Tryd.prog.funcNamed "roundelay/roundelaylaw01.FaultText" = some 4 by kernel_rfl).symm.trans hf) |>.symm
      obtain rfl : fn = Tryd.f4 := (Option.some.inj (Tryd.func4.symm.trans hfn)).symm
      exact ⟨by kernel_rfl, fun j t ht => by
        rw [Tryd.params4] at ht
        rcases j with _ | _ | j
        · have h3 : t = 30 := by simpa using ht.symm
          subst h3
          exact (show Tryd.prog.wantsStandIn 30 = false by kernel_rfl)
        · have h3 : t = 22 := by simpa using ht.symm
          subst h3
          exact (show Tryd.prog.wantsStandIn 22 = false by kernel_rfl)
        · simp at ht⟩)
    (by kernel_rfl)
end Go.Proofs.YtekmfdcmnmehoaaDoor
#print axioms Go.Proofs.YtekmfdcmnmehoaaDoor.faultText_card
