/- What any text, one of pieces, or a value's with one of its bytes another one, is, or what is wrong with it, is what the document says: JsonReads returns true at every input. -/
import Derived.Test.YtccnfnoonpfdfaaGreatDoorJpJ
import Derived.Test.YtccnfnoonpfdfaaGreatDoorJpR
import Derived.Test.YtccnfnoonpfdfaaGreatDoorJnDoor
import Derived.SevenTiedAt
import Derived.Carry
import Derived.ChangeMaps5
namespace Go.Proofs.YtccnfnoonpfdfaaGreatDoor
open Go.ChangeShapes Go.WideShapes Go.ChangeAt Go.RowKit

set_option maxRecDepth 100000 in
theorem jsonReads_lifted (os : Os) (started : os.Started) (H : Type) (enc : TypeId × Value → H) :
    ReturnsInHanded {} Tryz.checked os 6 .any (fun w args => (Rows.jsonReadsSpec.pre enc Tryz.prog Tryz.f6 [] false w args ∧ laidMetH Tryz.prog laidI w) ∧ sizedMet enc Tryz.prog Tryz.f6 (OpenSpec.ofChange Rows.jsonReadsSpec) false w args)
      (Rows.jsonReadsSpec.post enc Tryz.prog Tryz.f6 false true false false) := by
  refine returnsInHanded_shaped (C := Tryz.checked) (X := fun w _ => laidMetH Tryz.prog laidI w) (fun _ _ _ hh h => h.of_heap hh) own_knob started (by kernel_rfl) Tryz.func6
    (ChangeSpec.witness_at (enc := enc) (C := Tryz.checked) (os := os) (X := fun w _ => laidMetH Tryz.prog laidI w) false (laidWorldI os) #[.string ⟨#[]⟩, .int .u8 0, .slice none 0 0, .slice none 0 0, .int .u16 0, .int .u8 0] 8 rfl (by kernel_rfl) (by kernel_rfl) (by kernel_rfl) (by kernel_rfl) (by kernel_rfl) (laidWorldI_met os _)) ?_
  intro W base args ds gs before hsh hval0 hW _ _ hL _
  have hval : ∀ (j : Nat) t v, Tryz.f6.params[j]? = some t → args[j]? = some v → Value.okWide Tryz.prog W .any base t v := hval0
  have hW' := hW
  obtain ⟨p, q, hA0, hV, rfl, _, _⟩ := hW
  have hA : DataW.TrodAll enc Tryz.prog W 0 (fun _ => true) true Tryz.f6.params.toList args.toList ds p := hA0
  rw [Tryz.params6] at hA hval
  obtain ⟨v0, v1, v2, v3, v4, v5, d0, d1, d2, d3, d4, d5, p0, p1, p2, p3, p4, p5, rfl, rfl, rfl, h0, h1, h2, h3, h4, h5⟩ := trodAll_six hA
  obtain ⟨n0, rfl, rfl, rfl, hw0⟩ := Go.ChangeMaps.open_string Tryz.underlying9 (hval 0 9 v0 rfl rfl) h0
  obtain ⟨n1, rfl, rfl, rfl, hw1⟩ := open_int Tryz.underlying5 (hval 1 5 v1 rfl rfl) h1
  obtain ⟨a2, len2, cap2, rfl⟩ := okWide_slice Tryz.underlying22 (hval 2 22 v2 rfl rfl)
  obtain ⟨l2, hl2⟩ := bytes_open h2 rfl
  have hlt2 : ∀ x ∈ p2, x.block < W.heap.size := fun x hx => hW'.lt x (by simp [hx])
  obtain ⟨a3, len3, cap3, rfl⟩ := okWide_slice Tryz.underlying22 (hval 3 22 v3 rfl rfl)
  obtain ⟨l3, hl3⟩ := bytes_open h3 rfl
  have hlt3 : ∀ x ∈ p3, x.block < W.heap.size := fun x hx => hW'.lt x (by simp [hx])
  obtain ⟨n4, rfl, rfl, rfl, hw4⟩ := open_int Tryz.underlying42 (hval 4 42 v4 rfl rfl) h4
  obtain ⟨n5, rfl, rfl, rfl, hw5⟩ := open_int Tryz.underlying5 (hval 5 5 v5 rfl rfl) h5
  obtain ⟨rfl, rfl⟩ := trodVars_none hV
  refine (jreads_law W.heap.size W n0 n1 n4 n5 hw1 hw4 hw5 _ _ l2 l3 (Nat.le_refl _) hl2 hl3 ⟨env_of_laidI hL, words_of_laidI hL⟩).mono fun e W' ⟨he, hb⟩ => ?_
  subst he
  exact ⟨_, rfl, _, _, _, [], [] ++ ([] ++ (p2 ++ (p3 ++ ([] ++ [])))), [], hW', trodAll_mk1 (shut_bool Tryz.underlying4 _), trodAll_mk6 (Go.ChangeMaps.shut_string Tryz.underlying9 hw0) (shut_int Tryz.underlying5 hw1) (Below.trod laid_out (by kernel_rfl) (of_decide_eq_true (by kernel_rfl)) h2 hb hlt2) (Below.trod laid_out (by kernel_rfl) (of_decide_eq_true (by kernel_rfl)) h3 hb hlt3) (shut_int Tryz.underlying42 hw4) (shut_int Tryz.underlying5 hw5), hb.trodVars laid_out (by kernel_rfl) hV, hb.frame _, fun h => by cases h⟩

theorem jsonReads_holds : Rows.JsonReadsSaid :=
  OpenClaim.holds_of_wide 6 Tryz.f6 rfl rfl rfl rfl rfl rfl rfl ⟨rfl, rfl, rfl, rfl, rfl⟩ rfl rfl rfl rfl rfl (by kernel_rfl) Tryz.func6 (by kernel_rfl)
    (of_decide_eq_true (by kernel_rfl)) (by unfold Func.isWrapper; first | (rw [if_pos (by decide +kernel)]; kernel_rfl) | (rw [if_neg (by decide +kernel)]; exact ⟨rfl, rfl⟩))
    (fun os started H enc _ => jsonReads_lifted os started H enc)

theorem jsonReads_card : Rows.JsonReadsCardSaid :=
  Claim7.holds_tied_plain_at .later [] [.data, .data, .data, .data, .handle, .sentinel, .sentinel, .data, .data, .pinned] true Rows.jsonReadsCard.stood.harness true
    jsonReads_holds (fun _ h => by cases h) (by kernel_rfl) (fun _ h => by cases h) jsonReads_row_tie rfl ⟨rfl, rfl⟩ (by kernel_rfl) rfl
    (fun f fn hf hfn => by
      obtain rfl : f = 6 := Option.some.inj ((show Tryz.prog.funcNamed "roundelay/roundelaylaw04.JsonReads" = some 6 by kernel_rfl).symm.trans hf) |>.symm
      obtain rfl : fn = Tryz.f6 := (Option.some.inj (Tryz.func6.symm.trans hfn)).symm
      exact ⟨by kernel_rfl, fun j t ht => by
        rw [Tryz.params6] at ht
        rcases j with _ | _ | _ | _ | _ | _ | j
        · have h3 : t = 9 := by simpa using ht.symm
          subst h3
          exact (show Tryz.prog.wantsStandIn 9 = false by kernel_rfl)
        · have h3 : t = 5 := by simpa using ht.symm
          subst h3
          exact (show Tryz.prog.wantsStandIn 5 = false by kernel_rfl)
        · have h3 : t = 22 := by simpa using ht.symm
          subst h3
          exact (show Tryz.prog.wantsStandIn 22 = false by kernel_rfl)
        · have h3 : t = 22 := by simpa using ht.symm
          subst h3
          exact (show Tryz.prog.wantsStandIn 22 = false by kernel_rfl)
        · have h3 : t = 42 := by simpa using ht.symm
          subst h3
          exact (show Tryz.prog.wantsStandIn 42 = false by kernel_rfl)
        · have h3 : t = 5 := by simpa using ht.symm
          subst h3
          exact (show Tryz.prog.wantsStandIn 5 = false by kernel_rfl)
        · simp at ht⟩)
    (by kernel_rfl)
end Go.Proofs.YtccnfnoonpfdfaaGreatDoor
#print axioms Go.Proofs.YtccnfnoonpfdfaaGreatDoor.jsonReads_card
