/- FaultNone: the law's walk. -/
import Derived.Test.YtekmfdcmnmehoaaDoorFaB
namespace Go.Proofs.YtekmfdcmnmehoaaDoor
open Go.RowKit

theorem As_nil (t : Value) (w : World) : Calls Tryd.prog 18 #[.nilIface, t] w fun e w' => e = .returned (.bool false) ∧ w' = w := by
  go_enter Tryd.func18, Tryd.ntmps18
  go_wp2
  go_ret
  exact ⟨rfl, rfl⟩
theorem places_nil (w : World) : Calls Tryd.prog 16 #[.nilIface] w fun e w' => e = .returned (.slice none 0 0) ∧ Below w.heap.size w w' := by
  go_enter Tryd.func16, Tryd.ntmps16
  go_wp2
  refine wp_loop_rounds 1 ?_
  rw [rounds_succ]
  go_wp2_with fail
  refine (As_nil _ _).mono ?_
  rintro e w2 ⟨rfl, rfl⟩
  go_wp2
  go_ret
  exact ⟨rfl, (Below.refl _ _).alloc (Nat.le_refl _) _⟩

set_option maxHeartbeats 4000000 in
theorem fnone_law (p : ByteArray) (v : Value) (ss : List ByteArray) (w : World) (hn : SRead w v ss) (hg : ErrT w) :
    Calls Tryd.prog 8 #[.string p, v] w fun e w' => e = .returned (.bool true) ∧ Below w.heap.size w w' := by
  have HG := Lib.hid hg
  have HN := Lib.hid hn
  obtain ⟨_, a2, c2, rfl, hcap, hcap2, _⟩ := hn
  clear hg
  go_enter Tryd.func8, Tryd.ntmps8
  go_wp2_with fail
  refine (fawake_any w HG.out).mono ?_
  rintro e w1 ⟨rfl, hb⟩
  have HB := Lib.hid hb
  clear hb
  go_wp2_with fail
  refine (faultNew_nil _ _).mono ?_
  rintro e w2 ⟨rfl, rfl⟩
  obtain ⟨N, hN⟩ : ∃ N, N = (min (ss.length : Int) 30).toNat := ⟨_, rfl⟩
  obtain ⟨LL, hLL⟩ : ∃ LL, LL = ss.take N := ⟨_, rfl⟩
  have hNl : N ≤ ss.length := by omega
  have hLN : LL.length = N := by rw [hLL, List.length_take]; omega
  have HSR : Hid (SRead w2 (.slice a2 N c2) LL) := Lib.hid (by rw [hLL]; exact (HN.out.take N hNl).below HB.out)
  have HNN := Lib.hid hN
  have hmx : (((min (ss.length : Int) 30).toNat : Nat) : Int) = (N : Int) := by rw [hN]
  clear hLL hN
  go_wp2
  rw [← HNN.out]
  go_loopg [18, 5] N (fun m kv ev wr => ∃ k : Nat, kv = .int .i64 (k : Int) ∧ k + m = N ∧ ev = .nilIface ∧ wr = w2)
  case atStart => exact ⟨0, rfl, by omega, rfl, rfl⟩
  case round =>
    obtain ⟨k, rfl, hkm, rfl, rfl⟩ := hrel
    cases gk with
    | zero =>
      have hkn : ¬ ((k : Int) < (N : Int)) := by omega
      go_wp2_with fail
      refine (code_nil _).mono ?_
      rintro e w3 ⟨rfl, rfl⟩
      go_wp2_with fail
      refine (places_nil _).mono ?_
      rintro e w4 ⟨rfl, hb4⟩
      have H4 := Lib.hid (HB.out.trans (hb4.mono HB.out.size))
      clear hb4
      go_wp2
      go_ret
      exact ⟨rfl, H4.out⟩
    | succ m =>
      have hkn : (k : Int) < (N : Int) := by omega
      have hk0 : (0 : Int) ≤ (k : Int) := by omega
      obtain ⟨_, a9, c9, e9, _, _, _, hc9⟩ := HSR.out
      simp only [Value.slice.injEq] at e9
      rw [← e9.1] at hc9
      obtain ⟨b9, o9, rfl, hc⟩ := hc9 (by omega)
      have x0 := hc k (by omega)
      clear hc hc9 e9
      go_wp2_with fail
      refine (wrap_nil _ _).mono ?_
      rintro e w3 ⟨rfl, rfl⟩
      go_wp2
      go_roundg m
      case measure => omega
      case rel => exact ⟨k + 1, by go_num, by omega, rfl, rfl⟩
end Go.Proofs.YtekmfdcmnmehoaaDoor
