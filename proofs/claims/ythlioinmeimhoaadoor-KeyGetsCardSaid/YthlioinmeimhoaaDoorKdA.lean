/- The program's own comparing of values: numbers and kinds. -/
import Derived.Test.YthlioinmeimhoaaDoorKcC
namespace Go.Proofs.YthlioinmeimhoaaDoor
open Go.Shelf Go.RowKit Go.Lib

set_option maxRecDepth 100000 in
theorem nan_kind (n : Int) (w : World) : Calls Tryd.prog 91 #[.int .i64 n] w fun e w' => e = .returned (.bool false) ∧ w' = w := by
  go_enter Tryd.func91, Tryd.ntmps91
  go_wp2
  go_ret
  exact ⟨by simp, rfl⟩
set_option maxHeartbeats 4000000 in
set_option maxRecDepth 100000 in
theorem ccmp_num (a b : Int) (w : World) : Calls Tryd.prog 68 #[.int .i64 a, .int .i64 b] w fun e w' => e = .returned (.int .i64 (sgnO (icmp a b))) ∧ w' = w := by
  unfold icmp
  by_cases h1 : a < b
  · rw [if_pos h1]
    go_enter Tryd.func68, Tryd.ntmps68
    go_wp2_with fail
    refine (nan_no _ _).mono ?_
    rintro e w2 ⟨rfl, rfl⟩
    go_wp2_with fail
    refine (nan_no _ _).mono ?_
    rintro e w3 ⟨rfl, rfl⟩
    go_wp2
    go_ret
    exact ⟨rfl, rfl⟩
  · rw [if_neg h1]
    by_cases h2 : b < a
    · rw [if_pos h2]
      go_enter Tryd.func68, Tryd.ntmps68
      go_wp2_with fail
      refine (nan_no _ _).mono ?_
      rintro e w2 ⟨rfl, rfl⟩
      go_wp2_with fail
      refine (nan_no _ _).mono ?_
      rintro e w3 ⟨rfl, rfl⟩
      go_wp2
      go_ret
      exact ⟨rfl, rfl⟩
    · rw [if_neg h2]
      go_enter Tryd.func68, Tryd.ntmps68
      go_wp2_with fail
      refine (nan_no _ _).mono ?_
      rintro e w2 ⟨rfl, rfl⟩
      go_wp2_with fail
      refine (nan_no _ _).mono ?_
      rintro e w3 ⟨rfl, rfl⟩
      go_wp2
      go_ret
      exact ⟨rfl, rfl⟩
set_option maxHeartbeats 4000000 in
set_option maxRecDepth 100000 in
theorem ccmp_kind (a b : Int) (w : World) : Calls Tryd.prog 67 #[.int .i64 a, .int .i64 b] w fun e w' => e = .returned (.int .i64 (sgnO (icmp a b))) ∧ w' = w := by
  unfold icmp
  by_cases h1 : a < b
  · rw [if_pos h1]
    go_enter Tryd.func67, Tryd.ntmps67
    go_wp2_with fail
    refine (nan_kind _ _).mono ?_
    rintro e w2 ⟨rfl, rfl⟩
    go_wp2_with fail
    refine (nan_kind _ _).mono ?_
    rintro e w3 ⟨rfl, rfl⟩
    go_wp2
    go_ret
    exact ⟨rfl, rfl⟩
  · rw [if_neg h1]
    by_cases h2 : b < a
    · rw [if_pos h2]
      go_enter Tryd.func67, Tryd.ntmps67
      go_wp2_with fail
      refine (nan_kind _ _).mono ?_
      rintro e w2 ⟨rfl, rfl⟩
      go_wp2_with fail
      refine (nan_kind _ _).mono ?_
      rintro e w3 ⟨rfl, rfl⟩
      go_wp2
      go_ret
      exact ⟨rfl, rfl⟩
    · rw [if_neg h2]
      go_enter Tryd.func67, Tryd.ntmps67
      go_wp2_with fail
      refine (nan_kind _ _).mono ?_
      rintro e w2 ⟨rfl, rfl⟩
      go_wp2_with fail
      refine (nan_kind _ _).mono ?_
      rintro e w3 ⟨rfl, rfl⟩
      go_wp2
      go_ret
      exact ⟨rfl, rfl⟩
theorem cb_lcmp : ∀ a b : BL, Lib.compareBytes a b = sgnO (lcmp a b)
  | [], [] => rfl
  | [], _ :: _ => rfl
  | _ :: _, [] => rfl
  | a :: l, b :: m => by
    rw [Lib.compareBytes, lcmp_cons, cb_lcmp l m]
    split
    · rfl
    · split <;> rfl
theorem scmp_any (a b : BL) (w : World) : Calls Tryd.prog 69 #[.string (BA a), .string (BA b)] w fun e w' => e = .returned (.int .i64 (sgnO (lcmp a b))) ∧ w' = w := by
  rw [← cb_lcmp]
  exact Tryd.strings_Compare (BA a) (BA b) w
end Go.Proofs.YthlioinmeimhoaaDoor
