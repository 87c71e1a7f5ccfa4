/- IndexKeys, the given statement (tied card): whatever number, flag and bytes come in, the law answers true, and they read as they did. -/
import Derived.Test.YtecnjifincahaaaGreatDoorIxR
import Derived.Test.YtecnjifincahaaaGreatDoorIxDoor
import Derived.SevenTiedAt
import Derived.Carry
import Derived.ChangeMaps5
namespace Go.Proofs.YtecnjifincahaaaGreatDoor
open Go.ChangeShapes Go.WideShapes Go.ChangeAt Go.RowKit

set_option maxRecDepth 100000 in
theorem indexKeys_lifted (os : Os) (started : os.Started) (H : Type) (enc : TypeId × Value → H) :
    ReturnsInHanded {} Tryz.checked os 4 .any (fun w args => (Rows.indexKeysSpec.pre enc Tryz.prog Tryz.f4 [] false w args ∧ laidMetH Tryz.prog laidI w) ∧ sizedMet enc Tryz.prog Tryz.f4 (OpenSpec.ofChange Rows.indexKeysSpec) false w args)
      (Rows.indexKeysSpec.post enc Tryz.prog Tryz.f4 false true false false) := by
  refine returnsInHanded_shaped (C := Tryz.checked) (X := fun w _ => laidMetH Tryz.prog laidI w) (fun _ _ _ hh h => h.of_heap hh) own_knob started (by kernel_rfl) Tryz.func4
    (ChangeSpec.witness_at (enc := enc) (C := Tryz.checked) (os := os) (X := fun w _ => laidMetH Tryz.prog laidI w) false (laidWorldI os) #[.int .u8 0, .bool false, .slice none 0 0] 8 rfl (by kernel_rfl) (by kernel_rfl) (by kernel_rfl) (by kernel_rfl) (by kernel_rfl) (laidWorldI_met os _)) ?_
  intro W base args ds gs before hsh hval0 hW _ _ hL _
  have hval : ∀ (j : Nat) t v, Tryz.f4.params[j]? = some t → args[j]? = some v → Value.okWide Tryz.prog W .any base t v := hval0
  have hW' := hW
  obtain ⟨p, q, hA0, hV, rfl, _, _⟩ := hW
  have hA : DataW.TrodAll enc Tryz.prog W 0 (fun _ => true) true Tryz.f4.params.toList args.toList ds p := hA0
  rw [Tryz.params4] at hA hval
  obtain ⟨v0, v1, v2, d0, d1, d2, p0, p1, p2, rfl, rfl, rfl, h0, h1, h2⟩ := trodAll_three hA
  obtain ⟨n0, rfl, rfl, rfl, hw0⟩ := open_int Tryz.underlying5 (hval 0 5 v0 rfl rfl) h0
  obtain ⟨n1, rfl, rfl, rfl⟩ := open_bool Tryz.underlying4 (hval 1 4 v1 rfl rfl) h1
  obtain ⟨a2, len2, cap2, rfl⟩ := okWide_slice Tryz.underlying24 (hval 2 24 v2 rfl rfl)
  obtain ⟨l2, hl2⟩ := bytes_open h2 rfl
  have hlt2 : ∀ x ∈ p2, x.block < W.heap.size := fun x hx => hW'.lt x (by simp [hx])
  obtain ⟨rfl, rfl⟩ := trodVars_none hV
  refine (indexKeys_int n0 hw0 n1 W _ l2 hl2 (ixw_of hL hsh)).mono fun e W' ⟨he, hb⟩ => ?_
  subst he
  exact ⟨_, rfl, _, _, _, [], [] ++ ([] ++ p2), [], hW', trodAll_mk1 (shut_bool Tryz.underlying4 _), trodAll_mk3 (shut_int Tryz.underlying5 hw0) (shut_bool Tryz.underlying4 _) (Below.trod laid_out (by kernel_rfl) (of_decide_eq_true (by kernel_rfl)) h2 hb hlt2), hb.trodVars laid_out (by kernel_rfl) hV, hb.frame _, fun h => by cases h⟩

theorem indexKeys_holds : Rows.IndexKeysSaid :=
  OpenClaim.holds_of_wide 4 Tryz.f4 rfl rfl rfl rfl rfl rfl rfl ⟨rfl, rfl, rfl, rfl, rfl⟩ rfl rfl rfl rfl rfl (by kernel_rfl) Tryz.func4 (by kernel_rfl)
    (of_decide_eq_true (by kernel_rfl)) (by unfold Func.isWrapper; first | (rw [if_pos (by decide +kernel)]; kernel_rfl) | (rw [if_neg (by decide +kernel)]; exact ⟨rfl, rfl⟩))
    (fun os started H enc _ => indexKeys_lifted os started H enc)

theorem indexKeys_card : Rows.IndexKeysCardSaid :=
  Claim7.holds_tied_plain_at .later [] [.data, .data, .data, .data, .handle, .sentinel, .sentinel, .data, .data, .pinned] true Rows.indexKeysCard.stood.harness true
    indexKeys_holds (fun _ h => by cases h) (by kernel_rfl) (fun _ h => by cases h) indexKeys_row_tie rfl ⟨rfl, rfl⟩ (by kernel_rfl) rfl
    (fun f fn hf hfn => by
      obtain rfl : f = 4 := Option.some.inj ((show Tryz.prog.funcNamed "roundelay/roundelaylaw10.IndexKeys" = some 4 by kernel_rfl).symm.trans hf) |>.symm
      obtain rfl : fn = Tryz.f4 := (Option.some.inj (Tryz.func4.symm.trans hfn)).symm
      exact ⟨by kernel_rfl, fun j t ht => by
        rw [Tryz.params4] at ht
        rcases j with _ | _ | _ | j
        · have h3 : t = 5 := by simpa using ht.symm
          subst h3
          exact (show Tryz.prog.wantsStandIn 5 = false by kernel_rfl)
        · have h3 : t = 4 := by simpa using ht.symm
          subst h3
          exact (show Tryz.prog.wantsStandIn 4 = false by kernel_rfl)
        · have h3 : t = 24 := by simpa using ht.symm
          subst h3
          exact (show Tryz.prog.wantsStandIn 24 = false by kernel_rfl)
        · simp at ht⟩)
    (by kernel_rfl)
end Go.Proofs.YtecnjifincahaaaGreatDoor
#print axioms Go.Proofs.YtecnjifincahaaaGreatDoor.indexKeys_card
