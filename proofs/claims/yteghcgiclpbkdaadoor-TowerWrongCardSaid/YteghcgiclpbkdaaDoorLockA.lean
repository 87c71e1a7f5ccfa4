/- The leaf functions of lock: Intent, fits, Compatible. -/
import Derived.Test.YteghcgiclpbkdaaDoorBase
import Derived.Test.YteghcgiclpbkdaaDoorPureQ
import Derived.WalkKit
import Derived.WalkSpells
import Derived.WalkLawsBesides
import Derived.BigQuiet
namespace Go.Proofs.YteghcgiclpbkdaaDoor
open Go.RowKit

set_option maxHeartbeats 400000 in
theorem intent_any (m : Int) (w : World) :
    Calls Tryd.prog 12 #[.int .i64 m] w fun e w' => e = .returned (.int .i64 (intentI m)) ∧ w = w' := by
  go_enter Tryd.func12, Tryd.ntmps12
  go_wp2
  all_goals go_ret
  all_goals refine ⟨ret_int ?_, rfl⟩
  all_goals (simp only [beq_iff_eq, beq_eq_false_iff_ne] at *; unfold intentI; simp [*])

set_option maxHeartbeats 400000 in
theorem fits_any (a b : Int) (w : World) :
    Calls Tryd.prog 48 #[.int .i64 a, .int .i64 b] w fun e w' => e = .returned (.bool (fitsB a b)) ∧ w = w' := by
  go_enter Tryd.func48, Tryd.ntmps48
  go_wp2
  all_goals go_ret
  all_goals refine ⟨ret_bool ?_, rfl⟩
  all_goals (unfold fitsB; simp [*, Bool.or_assoc])

set_option maxHeartbeats 400000 in
theorem compat_any (a b : Int) (w : World) :
    Calls Tryd.prog 13 #[.int .i64 a, .int .i64 b] w fun e w' => e = .returned (.bool (fitsB a b)) ∧ w = w' := by
  go_enter Tryd.func13, Tryd.ntmps13
  go_wp2_with fail
  refine (fits_any a b _).mono ?_
  rintro e w' ⟨rfl, rfl⟩
  go_wp2
  go_ret
  exact ⟨rfl, rfl⟩
end Go.Proofs.YteghcgiclpbkdaaDoor
