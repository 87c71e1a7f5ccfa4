/- errors.Is between two codes, and fault.New. -/
import Derived.Test.YthlioinmeimhoaaDoorErrF
namespace Go.Proofs.YthlioinmeimhoaaDoor
open Go.RowKit Go.Extern.Stop Go.Stop Go.Extern

set_option maxHeartbeats 400000 in
theorem errIs1_any (a b : Int) (w : World) :
    Calls Tryd.prog 97 #[.iface 52 (.int .i64 a), .iface 52 (.int .i64 b), .bool true] w fun e w' => e = .returned (.bool (a == b)) ∧ w = w' := by
  obtain ⟨i, hi, hcmp⟩ := Option.map_eq_some_iff.1 errnoComp
  have nE := noIsE
  have uE := noUnwrapE
  have vE := noUnwrapsE
  have heq := run_eql_iface_int (P := Tryd.prog) w a b Tryd.underlying47 Tryd.underlying52 hi hcmp
  clear hi hcmp
  cases hab : a == b with
  | true =>
    rw [hab] at heq
    clear hab
    go_enter Tryd.func97, Tryd.ntmps97
    go_wp2
    refine wp_loop_rounds 1 ?_
    rw [rounds_succ]
    go_wp2
    go_ret
    exact ⟨rfl, rfl⟩
  | false =>
    rw [hab] at heq
    clear hab
    go_enter Tryd.func97, Tryd.ntmps97
    go_wp2
    refine wp_loop_rounds 1 ?_
    rw [rounds_succ]
    go_wp2
    go_ret
    exact ⟨rfl, rfl⟩

set_option maxHeartbeats 400000 in
theorem errIs_any (a b : Int) (w : World) :
    Calls Tryd.prog 78 #[.iface 52 (.int .i64 a), .iface 52 (.int .i64 b)] w fun e w' => e = .returned (.bool (a == b)) ∧ w = w' := by
  have h49 := run49
  have h74 := run74
  have tT := isTypeOf
  have cT := isComparable
  have mR := isMethodComparable
  go_enter Tryd.func78, Tryd.ntmps78
  go_wp2_with fail
  refine (errIs1_any a b _).mono ?_
  rintro e w2 ⟨rfl, rfl⟩
  go_wp2
  go_ret
  exact ⟨rfl, rfl⟩

set_option maxHeartbeats 400000 in
theorem faultNew_some (c : Int) (s : ByteArray) (w : World) (hc : (c == 0) = false) :
    Calls Tryd.prog 51 #[.int .i64 c, .string s] w fun e w' => e = .returned (.iface 104 (.pointer (some ⟨w.heap.size, 0, none⟩))) ∧ w' = w.alloc (.cells #[.string s, .iface 52 (.int .i64 c)] 106) := by
  go_enter Tryd.func51, Tryd.ntmps51
  go_wp2_with fail
  refine (errIs_any c 0 _).mono ?_
  rintro e w2 ⟨rfl, rfl⟩
  go_wp2
  go_ret
  exact ⟨rfl, rfl⟩

set_option maxHeartbeats 400000 in
theorem faultNew_nil (s : ByteArray) (w : World) :
    Calls Tryd.prog 51 #[.int .i64 0, .string s] w fun e w' => e = .returned .nilIface ∧ w' = w := by
  go_enter Tryd.func51, Tryd.ntmps51
  go_wp2_with fail
  refine (errIs_any 0 0 _).mono ?_
  rintro e w2 ⟨rfl, rfl⟩
  go_wp2
  go_ret
  exact ⟨rfl, rfl⟩
end Go.Proofs.YthlioinmeimhoaaDoor
