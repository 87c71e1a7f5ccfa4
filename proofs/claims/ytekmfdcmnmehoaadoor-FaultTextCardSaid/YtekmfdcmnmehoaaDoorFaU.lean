/- FaultText: the law's walk. -/
import Derived.Test.YtekmfdcmnmehoaaDoorFaX
import Derived.Lib.ItoaLen
namespace Go.Proofs.YtekmfdcmnmehoaaDoor
open Go.RowKit

theorem numT_size (c : Int) (h0 : -9223372036854775808 ≤ c) (h1 : c ≤ 9223372036854775807) : (numT c).size ≤ 1000 := by
  have h := Lib.itoa_length_le c h0 h1
  show (Lib.itoa c).toArray.size ≤ 1000
  simp; omega
theorem rev_cons (LL : List ByteArray) : ∃ p ps, LL.reverse ++ [(⟨#[]⟩ : ByteArray)] = p :: ps ∧ ps.length = LL.length := by
  cases h : LL.reverse ++ [(⟨#[]⟩ : ByteArray)] with
  | nil => simp at h
  | cons p ps =>
    refine ⟨p, ps, rfl, ?_⟩
    have := congrArg List.length h
    simp at this
    omega

set_option maxHeartbeats 4000000 in
theorem ftext_law (code : Int) (v : Value) (ss : List ByteArray) (w : World) (hn : SRead w v ss) (h0 : -32768 ≤ code) (h1 : code ≤ 32767) (hq : ∀ s ∈ ss, s.size ≤ 281474976710656) (hg : ErrT w) (ht : PT w) :
    Calls Tryd.prog 4 #[.int .i16 code, v] w fun e w' => e = .returned (.bool true) ∧ Below w.heap.size w w' := by
  have HG := Lib.hid hg
  have HT := Lib.hid ht
  have HN := Lib.hid hn
  have HQ := Lib.hid hq
  obtain ⟨_, a2, c2, rfl, hcap, hcap2, _⟩ := hn
  clear hg ht hq
  go_enter Tryd.func4, Tryd.ntmps4
  go_wp2_with fail
  refine (fawake_any w HG.out).mono ?_
  rintro e w1 ⟨rfl, hb⟩
  have HB := Lib.hid hb
  clear hb
  obtain ⟨N, hN⟩ : ∃ N, N = (min (ss.length : Int) 30).toNat := ⟨_, rfl⟩
  obtain ⟨LL, hLL⟩ : ∃ LL, LL = ss.take N := ⟨_, rfl⟩
  have hNl : N ≤ ss.length := by omega
  have hN30 : N ≤ 30 := by omega
  have hLN : LL.length = N := by rw [hLL, List.length_take]; omega
  have HQL : Hid (∀ s ∈ LL, s.size ≤ 281474976710656) := Lib.hid (by rw [hLL]; exact fun s hs => HQ.out s (List.mem_of_mem_take hs))
  have HSR : Hid (SRead w1 (.slice a2 N c2) LL) := Lib.hid (by rw [hLL]; exact (HN.out.take N hNl).below HB.out)
  have HNN := Lib.hid hN
  have hmx : (((min (ss.length : Int) 30).toNat : Nat) : Int) = (N : Int) := by rw [hN]
  clear hLL hN
  by_cases hc : code = 0
  · subst hc
    go_wp2
    go_ret
    exact ⟨rfl, HB.out⟩
  · have hc0 : (code == 0) = false := by simpa using hc
    have HC0 := Lib.hid hc0
    have hcn : ¬ code = 0 := hc
    have hwr : IntKind.i64.wrap code = code := IntWalk.i64_in _ (by omega)
    have HNT := Lib.hid (numT_size code (by omega) (by omega))
    go_wp2_with fail
    rw [← HNN.out]
    refine (errno_text code (by omega) (by omega) HNT.out w1 (HT.out.below HB.out)).mono ?_
    rintro e w2 ⟨rfl, hb2⟩
    have H2 := Lib.hid (HB.out.trans (hb2.mono HB.out.size))
    have HSR2 := Lib.hid (HSR.out.below hb2)
    obtain ⟨T, hT⟩ : ∃ T, T = codeT code := ⟨_, rfl⟩
    have hTs : T.size ≤ 1006 := by
      have h6 : sErr.size = 6 := rfl
      have := HNT.out
      rw [hT]; unfold codeT; rw [ByteArray.size_append]; omega
    have HTT := Lib.hid hT
    rw [← hT]
    have n0 : ¬ 9223372036854775807 < 2 + T.size := by omega
    clear hb2 hT hc
    go_wp2
    go_loopg [24, 5] N (fun m kv sv wr => ∃ k : Nat, kv = .int .i64 (k : Int) ∧ k + m = N ∧ sv = .string (placeT T ((LL.take k).reverse ++ [⟨#[]⟩])) ∧ wr = w2)
    case atStart => exact ⟨0, rfl, by omega, by rfl, rfl⟩
    case round =>
      obtain ⟨k, rfl, hkm, rfl, rfl⟩ := hrel
      cases gk with
      | zero =>
        have hkn : ¬ ((k : Int) < (N : Int)) := by omega
        have htk : LL.take k = LL := List.take_of_length_le (by omega)
        rw [htk]
        obtain ⟨X, hX⟩ : ∃ X, X = placeT T (LL.reverse ++ [⟨#[]⟩]) := ⟨_, rfl⟩
        rw [← hX]
        have HX := Lib.hid hX
        clear hX htk
        go_wp2_with fail
        refine (nest_some code _ LL wr HC0.out HSR2.out).mono ?_
        rintro e w3 ⟨v3, rfl, hp, hb3⟩
        obtain ⟨p, ps, hps, hpl⟩ := rev_cons LL
        rw [hps] at hp
        have hqs : ∀ q ∈ p :: ps, q.size ≤ 281474976710656 := by
          intro q hq
          rw [← hps] at hq
          rcases List.mem_append.1 hq with h | h
          · exact HQL.out q (List.mem_reverse.1 h)
          · rw [List.mem_singleton.1 h]; exact Nat.zero_le _
        obtain ⟨b, u, rfl, hB, hp2⟩ := hp
        have H3 := Lib.hid (And.intro hB (And.intro hp2 (And.intro hqs (H2.out.trans (hb3.mono H2.out.size)))))
        have HPS := Lib.hid hps
        have mE := methodErrF
        have hpl2 : ps.length ≤ 1000 := by omega
        clear hB hp2 hqs hb3 hps
        go_wp2_with fail
        refine (fault_text code (by omega) (by omega) HNT.out ps p u b w3 hpl2 H3.out.2.2.1 H3.out.1 H3.out.2.1 (HT.out.below H3.out.2.2.2)).mono ?_
        rintro e w4 ⟨rfl, hb4⟩
        have H4 := Lib.hid (H3.out.2.2.2.trans (hb4.mono H3.out.2.2.2.size))
        have hXe : placeT (codeT code) (p :: ps) = X := by rw [HX.out, HTT.out, HPS.out]
        rw [hXe]
        clear hb4 hXe
        go_wp2
        go_ret
        exact ⟨by simp, H4.out⟩
      | succ m =>
        have hkn : (k : Int) < (N : Int) := by omega
        have hk0 : (0 : Int) ≤ (k : Int) := by omega
        obtain ⟨s, hs⟩ : ∃ s, s = LL[k]'(by omega) := ⟨_, rfl⟩
        obtain ⟨_, a9, c9, e9, _, _, _, hc9⟩ := HSR2.out
        simp only [Value.slice.injEq] at e9
        rw [← e9.1] at hc9
        obtain ⟨b9, o9, rfl, hcc⟩ := hc9 (by omega)
        have y1 : wr.cell? ⟨b9, o9 + k, none⟩ = some (.string s) := by rw [hs]; exact hcc k (by omega)
        have hss : s.size ≤ 281474976710656 := HQL.out s (by rw [hs]; exact List.getElem_mem _)
        have hps := place_size T 281474976710656 ((LL.take k).reverse ++ [⟨#[]⟩]) (by
          intro q hq
          rcases List.mem_append.1 hq with h | h
          · exact HQL.out q (List.mem_of_mem_take (List.mem_reverse.1 h))
          · rw [List.mem_singleton.1 h]; exact Nat.zero_le _)
        have hlk : ((LL.take k).reverse ++ [(⟨#[]⟩ : ByteArray)]).length = k + 1 := by simp; omega
        rw [hlk] at hps
        have htk : LL.take (k + 1) = LL.take k ++ [s] := by rw [hs]; exact List.take_succ_eq_append_getElem (by omega)
        have hnx : placeT T ((LL.take (k + 1)).reverse ++ [⟨#[]⟩]) = (s ++ sSep) ++ placeT T ((LL.take k).reverse ++ [⟨#[]⟩]) := by rw [htk, List.reverse_append]; rfl
        obtain ⟨X, hX⟩ : ∃ X, X = placeT T ((LL.take k).reverse ++ [⟨#[]⟩]) := ⟨_, rfl⟩
        rw [← hX] at hnx hps ⊢
        have n1 : ¬ 9223372036854775807 < s.size + 2 := by omega
        have n2 : ¬ 9223372036854775807 < s.size + 2 + X.size := by
          have := Nat.mul_le_mul_right (281474976710656 + 2) (show k + 1 ≤ 31 by omega)
          omega
        have HNX := Lib.hid hnx
        clear hcc hc9 e9 hs hX hnx htk hps hlk
        go_wp2
        go_roundg m
        case measure => omega
        case rel => exact ⟨k + 1, by go_num, by omega, by rw [HNX.out]; rfl, rfl⟩
end Go.Proofs.YtekmfdcmnmehoaaDoor
