/- errors.Is between two codes, and fault.New. -/
import Derived.Test.YteghcgiclpbkdaaErrF
namespace Go.Proofs.Yteghcgiclpbkdaa
open Go.RowKit Go.Extern.Stop Go.Stop Go.Extern

set_option maxHeartbeats 400000 in
theorem errIs1_any (a b : Int) (w : World) :
    Calls Try.prog 50 #[.iface 73 (.int .i64 a), .iface 73 (.int .i64 b), .bool true] w fun e w' => e = .returned (.bool (a == b)) ∧ w = w' := by
  obtain ⟨i, hi, hcmp⟩ := Option.map_eq_some_iff.1 errnoComp
  have nE := noIsE
  have uE := noUnwrapE
  have vE := noUnwrapsE
  have heq := run_eql_iface_int (P := Try.prog) w a b Try.underlying46 Try.underlying73 hi hcmp
  clear hi hcmp
  cases hab : a == b with
  | true =>
    rw [hab] at heq
    clear hab
    go_enter Try.func50, Try.ntmps50
    go_wp2
    refine wp_loop_rounds 1 ?_
    rw [rounds_succ]
    go_wp2
    go_ret
    exact ⟨rfl, rfl⟩
  | false =>
    rw [hab] at heq
    clear hab
    go_enter Try.func50, Try.ntmps50
    go_wp2
    refine wp_loop_rounds 1 ?_
    rw [rounds_succ]
    go_wp2
    go_ret
    exact ⟨rfl, rfl⟩

set_option maxHeartbeats 400000 in
theorem errIs_any (a b : Int) (w : World) :
    Calls Try.prog 42 #[.iface 73 (.int .i64 a), .iface 73 (.int .i64 b)] w fun e w' => e = .returned (.bool (a == b)) ∧ w = w' := by
  have h49 := run49
  have h74 := run74
  have tT := isTypeOf
  have cT := isComparable
  have mR := isMethodComparable
  go_enter Try.func42, Try.ntmps42
  go_wp2_with fail
  refine (errIs1_any a b _).mono ?_
  rintro e w2 ⟨rfl, rfl⟩
  go_wp2
  go_ret
  exact ⟨rfl, rfl⟩

set_option maxHeartbeats 400000 in
theorem faultNew_some (c : Int) (s : ByteArray) (w : World) (hc : (c == 0) = false) :
    Calls Try.prog 33 #[.int .i64 c, .string s] w fun e w' => e = .returned (.iface 85 (.pointer (some ⟨w.heap.size, 0, none⟩))) ∧ w' = w.alloc (.cells #[.string s, .iface 73 (.int .i64 c)] 87) := by
  go_enter Try.func33, Try.ntmps33
  go_wp2_with fail
  refine (errIs_any c 0 _).mono ?_
  rintro e w2 ⟨rfl, rfl⟩
  go_wp2
  go_ret
  exact ⟨rfl, rfl⟩

set_option maxHeartbeats 400000 in
theorem faultNew_nil (s : ByteArray) (w : World) :
    Calls Try.prog 33 #[.int .i64 0, .string s] w fun e w' => e = .returned .nilIface ∧ w' = w := by
  go_enter Try.func33, Try.ntmps33
  go_wp2_with fail
  refine (errIs_any 0 0 _).mono ?_
  rintro e w2 ⟨rfl, rfl⟩
  go_wp2
  go_ret
  exact ⟨rfl, rfl⟩
end Go.Proofs.Yteghcgiclpbkdaa
