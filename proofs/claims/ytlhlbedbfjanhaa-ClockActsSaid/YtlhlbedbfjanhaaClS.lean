/- ClockEnds: the law's walk. -/
import Derived.Test.YtlhlbedbfjanhaaClN
namespace Go.Proofs.Ytlhlbedbfjanhaa
open Go.RowKit

def adv (n : Int) : Int := min (max n 0) 1048576
theorem ends_next {c : Clk} {n : Int} {i : Nat} (h1 : c.now ≤ 1048576 * (i : Int)) (hi : i < 20) : c.next n = c.now + adv n := by
  unfold Clk.next adv maxK maxT
  omega
set_option maxHeartbeats 8000000 in
set_option maxRecDepth 100000 in
theorem cends_law (n a t : Int) (ht : 0 ≤ t ∧ t ≤ 255) (w : World) : Calls Try.prog 7 #[.int .i64 n, .int .i64 a, .int .u8 t] w fun e w' => e = .returned (.bool true) ∧ Below w.heap.size w w' := by
  obtain ⟨m, hm⟩ : ∃ m : Nat, Int.tmod t 20 = m := ⟨(t.toNat % 20), by rw [Int.tmod_eq_emod_of_nonneg ht.1]; omega⟩
  have hm20 : m < 20 := by
    have h := Int.tmod_eq_emod_of_nonneg (b := 20) ht.1
    rw [hm] at h
    omega
  have HM := Lib.hid hm20
  clear ht hm20
  go_enter Try.func7, Try.ntmps7
  go_wp2_with fail
  refine (cawake_any _).mono ?_
  rintro e w0 ⟨rfl, hb0⟩
  have H0 := Lib.hid hb0
  clear hb0
  go_wp2_with fail
  refine (new_any _).mono ?_
  rintro e w1 ⟨rfl, hr1, hb1, _⟩
  have H1 := Lib.hid (CSt.made H0.out hr1 hb1)
  clear hr1 hb1
  obtain ⟨b, hb⟩ : ∃ b, w0.heap.size = b := ⟨_, rfl⟩
  rw [hb] at H1
  try rw [hb]
  clear hb
  go_wp2_with fail
  go_loopg [19] m (fun gk iv wr => ∃ (i : Nat) (c : Clk), gk + i = m ∧ iv = .int .u8 i ∧ Hid (CSt w wr b c 0) ∧ Hid (c.now ≤ 1048576 * (i : Int)))
  case atStart => exact ⟨0, Clk.new, by omega, rfl, H1, Lib.hid (by decide)⟩
  case round =>
    obtain ⟨i, c, hg, rfl, HC, HN⟩ := hrel
    by_cases hi : i < m
    · have hiz : (i : Int) < (m : Int) := by omega
      have hwK : IntKind.u8.wrap ((i : Int) + 1) = ((i + 1 : Nat) : Int) := by
        have := HM.out
        simp [IntKind.wrap, IntKind.bits, IntKind.signed]; omega
      have hlo := HC.out.ok.lo
      have hn2 := ends_next (n := n) HN.out (by have := HM.out; omega)
      obtain ⟨d, hd⟩ : ∃ d, adv n = d := ⟨_, rfl⟩
      rw [hd] at hn2
      have hdb : 0 ≤ d ∧ d ≤ 1048576 := by rw [← hd]; unfold adv; omega
      have hwd : IntKind.i64.wrap (c.now + d - c.now) = d := by rw [IntWalk.i64_in _ (by omega)]; omega
      have HD := Lib.hid (And.intro hd (And.intro hn2 hdb))
      have hd0 : ¬ d < 0 := by omega
      have hd1 : ¬ 1048576 < d := by omega
      clear hd hn2 hdb hlo
      go_wp2_with fail
      have hcall := now_any b (b + 1) b c _ HC.out.rep
      refine hcall.mono ?_
      rintro e wq ⟨rfl, rfl⟩
      clear hcall
      go_wp2_with fail
      have hcall := tick_law HC.out (by omega) n
      refine hcall.mono ?_
      rintro e w2 ⟨a4, c4, l4, rfl, _, _, h2, _, _⟩
      have H2 := Lib.hid h2
      clear hcall h2
      go_wp2_with fail
      have hcall := now_any b (b + 1) b _ _ H2.out.rep
      rw [show (c.tick n).now = c.now + d from HD.out.2.1] at hcall
      refine hcall.mono ?_
      rintro e wq ⟨rfl, rfl⟩
      clear hcall
      have HT := Lib.hid (show (c.tick n).now ≤ 1048576 * ((i + 1 : Nat) : Int) by
        rw [show (c.tick n).now = c.now + d from HD.out.2.1]
        have := HN.out
        have := HD.out.2.2
        omega)
      by_cases hn0 : 0 ≤ n
      · by_cases hn1 : n ≤ 1048576
        · have hdn : d = n := by rw [← HD.out.1]; unfold adv; omega
          subst hdn
          go_wp2
          go_roundg (gk - 1)
          case rel => exact ⟨i + 1, _, by omega, rfl, H2, HT⟩
          case measure => omega
        · have hdn : d = 1048576 := by rw [← HD.out.1]; unfold adv; omega
          subst hdn
          have hn2 : 1048576 < n := by omega
          go_wp2
          go_roundg (gk - 1)
          case rel => exact ⟨i + 1, _, by omega, rfl, H2, HT⟩
          case measure => omega
      · have hn1 : ¬ 1048576 < n := by omega
        go_wp2
        go_roundg (gk - 1)
        case rel => exact ⟨i + 1, _, by omega, rfl, H2, HT⟩
        case measure => omega
    · have hiz : ¬ (i : Int) < (m : Int) := by omega
      clear hm
      go_wp2_with fail
      have hcall := set_any b (b + 1) b c 1 a _ HC.out.rep
      refine hcall.mono ?_
      rintro e w2 ⟨rfl, hr, ho, _⟩
      have H2 := Lib.hid (HC.out.set hr ho)
      clear hcall hr ho
      obtain ⟨x, hx⟩ : ∃ x, c.when a = x := ⟨_, rfl⟩
      have hat : (c.set 1 a).at_ 1 = some x := by unfold Clk.set; simp [hx]
      go_wp2_with fail
      have hcall := at_any b (b + 1) b _ 1 _ H2.out.rep
      rw [hat] at hcall
      refine hcall.mono ?_
      rintro e wq ⟨rfl, rfl⟩
      clear hcall hat
      have hlo := HC.out.ok.lo
      have hhi := HC.out.ok.hi
      have hwi := Clk.when_in HC.out.ok.weak a
      rw [hx] at hwi
      have hmt : maxT = 1099511627776 := rfl
      rw [hmt] at hwi hhi
      have hxa : ¬ a < c.now → ¬ 1099511627776 < a → x = a := fun h1 h2 => by rw [← hx]; unfold Clk.when maxT; omega
      have hx1 : c.now ≤ x := hwi.1
      have hx2 : x ≤ 1099511627776 := hwi.2
      have HX := Lib.hid hxa
      obtain ⟨nw, hnw⟩ : ∃ nw, c.now = nw := ⟨_, rfl⟩
      have HNW := Lib.hid hnw
      have hcall := now_any b (b + 1) b _ _ H2.out.rep
      rw [show (c.set 1 a).now = c.now from rfl, hnw] at hcall
      rw [hnw] at hx1 HX
      have HCL := Lib.hid hcall
      clear hcall hxa hwi hmt hlo hhi hx hnw
      by_cases h1 : a < nw
      · go_wp2_with fail
        refine HCL.out.mono ?_
        rintro e wq ⟨rfl, rfl⟩
        go_wp2_with fail
        refine HCL.out.mono ?_
        rintro e wq ⟨rfl, rfl⟩
        go_wp2
        go_ret
        exact ⟨by first | rfl | simp, H2.out.bel⟩
      · by_cases h2 : 1099511627776 < a
        · go_wp2_with fail
          refine HCL.out.mono ?_
          rintro e wq ⟨rfl, rfl⟩
          go_wp2_with fail
          refine HCL.out.mono ?_
          rintro e wq ⟨rfl, rfl⟩
          go_wp2
          go_ret
          exact ⟨by first | rfl | simp, H2.out.bel⟩
        · have hxa := HX.out h1 h2
          subst hxa
          go_wp2_with fail
          refine HCL.out.mono ?_
          rintro e wq ⟨rfl, rfl⟩
          go_wp2_with fail
          refine HCL.out.mono ?_
          rintro e wq ⟨rfl, rfl⟩
          go_wp2
          go_ret
          exact ⟨by first | rfl | simp, H2.out.bel⟩
end Go.Proofs.Ytlhlbedbfjanhaa
