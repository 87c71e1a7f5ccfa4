/- TowerSafe: the law's walk. -/
import Derived.Test.YteghcgiclpbkdaaLawE
namespace Go.Proofs.Yteghcgiclpbkdaa
open Go.RowKit

set_option maxHeartbeats 1000000 in
theorem safe_law (v : Value) (l : List Deed) (w : World) (hv : ARead w v l) :
    Calls Try.prog 3 #[v] w fun e w' => e = .returned (.bool true) ∧ Below w.heap.size w w' := by
  have HV := Lib.hid hv
  clear hv
  go_enter Try.func3, Try.ntmps3
  go_wp2_with fail
  refine (awake_any reach_ok _).mono ?_
  rintro e w1 ⟨rfl, hb⟩
  have HB := Lib.hid hb
  clear hb
  go_wp2_with fail
  refine (play_any reach_ok v _ l w1 (HV.out.below HB.out) safe_isC).mono ?_
  rintro e w2 ⟨t, rfl, _, _, hb2⟩
  have HB2 := Lib.hid (HB.out.trans (hb2.mono HB.out.size))
  clear hb2
  unfold ptrV
  go_wp2
  go_ret
  exact ⟨rfl, HB2.out⟩
end Go.Proofs.Yteghcgiclpbkdaa
