/- FaultPlaces: the law's walk. -/
import Derived.Test.YtekmfdcmnmehoaaDoorFaQ
namespace Go.Proofs.YtekmfdcmnmehoaaDoor
open Go.RowKit

theorem rev_at {LL : List ByteArray} {N i j : Nat} (hN : LL.length = N) (hj : j + i + 1 = N) : (strsV (LL.reverse ++ [⟨#[]⟩]))[i]? = some (.string (LL[j]'(by omega))) := by
  unfold strsV
  rw [List.getElem?_map, List.getElem?_append_left (by simp; omega), List.getElem?_reverse (by omega), show LL.length - 1 - i = j by omega, List.getElem?_eq_getElem (by omega)]
  rfl
theorem rev_last {LL : List ByteArray} {N : Nat} (hN : LL.length = N) : (strsV (LL.reverse ++ [⟨#[]⟩]))[N]? = some (.string ⟨#[]⟩) := by
  unfold strsV
  rw [List.getElem?_map, List.getElem?_append_right (by simp; omega)]
  simp [hN]

set_option maxHeartbeats 4000000 in
theorem fplaces_law (code : Int) (v : Value) (ss : List ByteArray) (w : World) (hn : SRead w v ss) (hg : ErrT w) :
    Calls Tryd.prog 6 #[.int .i64 code, v] w fun e w' => e = .returned (.bool true) ∧ Below w.heap.size w w' := by
  have HG := Lib.hid hg
  have HN := Lib.hid hn
  obtain ⟨_, a2, c2, rfl, hcap, hcap2, _⟩ := hn
  clear hg
  go_enter Tryd.func6, Tryd.ntmps6
  go_wp2_with fail
  refine (fawake_any w HG.out).mono ?_
  rintro e w1 ⟨rfl, hb⟩
  have HB := Lib.hid hb
  clear hb
  obtain ⟨N, hN⟩ : ∃ N, N = (min (ss.length : Int) 30).toNat := ⟨_, rfl⟩
  obtain ⟨LL, hLL⟩ : ∃ LL, LL = ss.take N := ⟨_, rfl⟩
  have hNl : N ≤ ss.length := by omega
  have hN30 : N ≤ 30 := by omega
  have hLN : LL.length = N := by rw [hLL, List.length_take]; omega
  have HSR : Hid (SRead w1 (.slice a2 N c2) LL) := Lib.hid (by rw [hLL]; exact (HN.out.take N hNl).below HB.out)
  have HNN := Lib.hid hN
  have hmx : (((min (ss.length : Int) 30).toNat : Nat) : Int) = (N : Int) := by rw [hN]
  clear hLL hN
  by_cases hc : code = 0
  · subst hc
    go_wp2_with fail
    rw [← HNN.out]
    refine (nest_nil _ LL w1 HSR.out).mono ?_
    rintro e w2 ⟨rfl, rfl⟩
    go_wp2_with fail
    refine (places_nil _).mono ?_
    rintro e w4 ⟨rfl, hb4⟩
    have H4 := Lib.hid (HB.out.trans (hb4.mono HB.out.size))
    clear hb4
    go_wp2
    go_ret
    exact ⟨rfl, H4.out⟩
  · have hc0 : (code == 0) = false := by simpa using hc
    have HC0 := Lib.hid hc0
    clear hc
    go_wp2_with fail
    rw [← HNN.out]
    refine (nest_some code _ LL w1 HC0.out HSR.out).mono ?_
    rintro e w2 ⟨v2, rfl, hp, hb2⟩
    have H2 := Lib.hid (And.intro hp (HB.out.trans (hb2.mono HB.out.size)))
    have HSR2 := Lib.hid (HSR.out.below hb2)
    clear hp hb2
    go_wp2_with fail
    refine (places_any _ v2 code w2 H2.out.1 (by simp; omega) (HG.out.below H2.out.2)).mono ?_
    rintro e w3 ⟨u3, rfl, ho3, hb3⟩
    have hlen : (LL.reverse ++ [(⟨#[]⟩ : ByteArray)]).length = N + 1 := by simp [hLN]
    rw [hlen] at ho3
    obtain ⟨g, cap, rfl⟩ : ∃ g cap, u3 = .slice (some ⟨g, 0, none⟩) (N + 1) cap := by
      rcases ownsRow_cases ho3 with ⟨_, h, _⟩ | h
      · omega
      · exact h
    have hcl := ho3.cells (g := g) rfl
    have hcl2 : ∀ j u, (strsV (LL.reverse ++ [⟨#[]⟩]))[j]? = some u → w3.cell? ⟨g, j, none⟩ = some u := fun j u h => by
      have := hcl j u h
      rw [show ((⟨g, 0, none⟩ : Addr).add j) = ⟨g, j, none⟩ by unfold Addr.add; split <;> simp_all] at this
      exact this
    have x0 : w3.cell? ⟨g, N, none⟩ = some (.string ⟨#[]⟩) := hcl2 N _ (rev_last hLN)
    have HCL := Lib.hid hcl2
    have HSR3 := Lib.hid (HSR2.out.below hb3)
    have H3 := Lib.hid (H2.out.2.trans (hb3.mono H2.out.2.size))
    have hNN0 : (0 : Int) ≤ (N : Int) := by omega
    clear hcl hcl2 ho3 hb3 hlen
    go_wp2
    go_loopg [40] N (fun m kv wr => ∃ k : Nat, kv = .int .i64 (k : Int) ∧ k + m = N ∧ Below w3.heap.size w3 wr)
    case atStart => exact ⟨0, rfl, by omega, Below.refl _ _⟩
    case round =>
      obtain ⟨k, rfl, hkm, hbr⟩ := hrel
      have HBR := Lib.hid hbr
      clear hbr
      cases gk with
      | zero =>
        have hkn : ¬ ((k : Int) < (N : Int)) := by omega
        go_wp2
        go_ret
        exact ⟨rfl, H3.out.trans (HBR.out.mono H3.out.size)⟩
      | succ m =>
        have hkn : (k : Int) < (N : Int) := by omega
        have hk0 : (0 : Int) ≤ (k : Int) := by omega
        have hk1 : (k : Int) < (N : Int) + 1 := by omega
        obtain ⟨j, hj⟩ : ∃ j, j + k + 1 = N := ⟨N - 1 - k, by omega⟩
        obtain ⟨s, hs⟩ : ∃ s, s = LL[j]'(by omega) := ⟨_, rfl⟩
        have y0 : wr.cell? ⟨g, k, none⟩ = some (.string s) := by rw [hs]; exact bcell HBR.out (HCL.out k _ (rev_at hLN hj))
        obtain ⟨_, a9, c9, e9, _, _, _, hc9⟩ := HSR3.out
        simp only [Value.slice.injEq] at e9
        rw [← e9.1] at hc9
        obtain ⟨b9, o9, rfl, hcc⟩ := hc9 (by omega)
        have y1 : wr.cell? ⟨b9, o9 + j, none⟩ = some (.string s) := by rw [hs]; exact bcell HBR.out (hcc j (by omega))
        have hj2 : (N : Int) - 1 - (k : Int) = (j : Int) := by omega
        have u1 : IntKind.i64.wrap ((N : Int) - 1) = (N : Int) - 1 := IntWalk.i64_in _ (by omega)
        have u2 : IntKind.i64.wrap (j : Int) = (j : Int) := IntWalk.i64_in _ (by omega)
        have hj0 : (0 : Int) ≤ (j : Int) := by omega
        have hjN : (j : Int) < (N : Int) := by omega
        clear hcc hc9 e9 hs hj x0
        go_wp2
        go_quiet (fail)
        go_wp2
        go_roundg m
        case measure => omega
        case rel => exact ⟨k + 1, by go_num, by omega, pwDrewN HBR.out _⟩
end Go.Proofs.YtekmfdcmnmehoaaDoor
