/- FaultCode: the law's walk. -/
import Derived.Test.YtekmfdcmnmehoaaDoorFaB
namespace Go.Proofs.YtekmfdcmnmehoaaDoor
open Go.RowKit

set_option maxHeartbeats 4000000 in
theorem fcode_law (code : Int) (v : Value) (ss : List ByteArray) (w : World) (hn : SRead w v ss) (hg : ErrT w) :
    Calls Tryd.prog 3 #[.int .i64 code, v] w fun e w' => e = .returned (.bool true) ∧ Below w.heap.size w w' := by
  have HG := Lib.hid hg
  have HN := Lib.hid hn
  obtain ⟨_, a2, c2, rfl, hcap, hcap2, _⟩ := hn
  clear hg
  go_enter Tryd.func3, Tryd.ntmps3
  go_wp2_with fail
  refine (fawake_any w HG.out).mono ?_
  rintro e w1 ⟨rfl, hb⟩
  have HB := Lib.hid hb
  clear hb
  obtain ⟨N, hN⟩ : ∃ N, N = (min (ss.length : Int) 30).toNat := ⟨_, rfl⟩
  obtain ⟨LL, hLL⟩ : ∃ LL, LL = ss.take N := ⟨_, rfl⟩
  have hNl : N ≤ ss.length := by omega
  have hLN : LL.length = N := by rw [hLL, List.length_take]; omega
  have HSR : Hid (SRead w1 (.slice a2 N c2) LL) := Lib.hid (by rw [hLL]; exact (HN.out.take N hNl).below HB.out)
  have HNN := Lib.hid hN
  clear hLL hN
  by_cases hc : code = 0
  · subst hc
    go_wp2_with fail
    rw [← HNN.out]
    refine (nest_nil _ LL w1 HSR.out).mono ?_
    rintro e w2 ⟨rfl, rfl⟩
    go_wp2_with fail
    refine (code_nil _).mono ?_
    rintro e w3 ⟨rfl, rfl⟩
    go_wp2
    go_ret
    exact ⟨rfl, HB.out⟩
  · have hc0 : (code == 0) = false := by simpa using hc
    have HC0 := Lib.hid hc0
    clear hc
    go_wp2_with fail
    rw [← HNN.out]
    refine (nest_some code _ LL w1 HC0.out HSR.out).mono ?_
    rintro e w2 ⟨v2, rfl, hp, hb2⟩
    obtain ⟨t2, u2, rfl⟩ := hp.ne_nil
    have H2 := Lib.hid (And.intro hp (HB.out.trans (hb2.mono HB.out.size)))
    clear hp hb2
    go_wp2_with fail
    refine (code_chain _ _ code w2 H2.out.1.chain (HG.out.below H2.out.2)).mono ?_
    rintro e w3 ⟨rfl, hb3⟩
    have H3 := Lib.hid (H2.out.2.trans (hb3.mono H2.out.2.size))
    clear hb3
    go_wp2
    go_ret
    exact ⟨rfl, H3.out⟩
end Go.Proofs.YtekmfdcmnmehoaaDoor
