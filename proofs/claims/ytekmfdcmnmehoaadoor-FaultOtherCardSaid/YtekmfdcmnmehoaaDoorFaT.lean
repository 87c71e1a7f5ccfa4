/- FaultOther: the law's walk. -/
import Derived.Test.YtekmfdcmnmehoaaDoorFaO
namespace Go.Proofs.YtekmfdcmnmehoaaDoor
open Go.RowKit

set_option maxHeartbeats 4000000 in
theorem fother_law (s : ByteArray) (v : Value) (ss : List ByteArray) (w : World) (hn : SRead w v ss) (hg : ErrT w) :
    Calls Tryd.prog 7 #[.string s, v] w fun e w' => e = .returned (.bool true) ∧ Below w.heap.size w w' := by
  have HG := Lib.hid hg
  have HN := Lib.hid hn
  obtain ⟨_, a2, c2, rfl, hcap, hcap2, _⟩ := hn
  clear hg
  go_enter Tryd.func7, Tryd.ntmps7
  go_wp2_with fail
  refine (fawake_any w HG.out).mono ?_
  rintro e w1 ⟨rfl, hb⟩
  have HB := Lib.hid hb
  clear hb
  obtain ⟨N, hN⟩ : ∃ N, N = (min (ss.length : Int) 30).toNat := ⟨_, rfl⟩
  obtain ⟨LL, hLL⟩ : ∃ LL, LL = ss.take N := ⟨_, rfl⟩
  have hNl : N ≤ ss.length := by omega
  have hN30 : N ≤ 30 := by omega
  have hLN : LL.length = N := by rw [hLL, List.length_take]; omega
  have HSR : Hid (SRead w1 (.slice a2 N c2) LL) := Lib.hid (by rw [hLL]; exact (HN.out.take N hNl).below HB.out)
  have HNN := Lib.hid hN
  have hmx : (((min (ss.length : Int) 30).toNat : Nat) : Int) = (N : Int) := by rw [hN]
  clear hLL hN
  go_wp2
  rw [← HNN.out]
  go_loopg [20, 5] N (fun m kv ev wr => ∃ k : Nat, kv = .int .i64 (k : Int) ∧ k + m = N ∧ PO wr (LL.take k).reverse ev (.agg #[.string s]) ∧ Below w1.heap.size w1 wr)
  case atStart => exact ⟨0, rfl, by omega, rfl, Below.refl _ _⟩
  case round =>
    obtain ⟨k, rfl, hkm, hp, hbr⟩ := hrel
    obtain ⟨t5, y5, rfl⟩ := hp.ne_nil
    have HP := Lib.hid (And.intro hp hbr)
    clear hp hbr
    cases gk with
    | zero =>
      have hkn : ¬ ((k : Int) < (N : Int)) := by omega
      have htk : LL.take k = LL := List.take_of_length_le (by omega)
      have HP2 : Hid (PO wr LL.reverse (.iface t5 y5) (.agg #[.string s]) ∧ Below w.heap.size w wr) := Lib.hid ⟨by have := HP.out.1; rw [htk] at this; exact this, HB.out.trans (HP.out.2.mono HB.out.size)⟩
      clear htk
      go_wp2_with fail
      refine (code_other _ _ _ wr HP2.out.1 (HG.out.below HP2.out.2)).mono ?_
      rintro e w3 ⟨rfl, hb3⟩
      have H3 := Lib.hid (And.intro (HP2.out.1.below hb3) (HP2.out.2.trans (hb3.mono HP2.out.2.size)))
      clear hb3
      go_wp2_with fail
      refine (places_other _ _ _ w3 H3.out.1 (by simp; omega) (HG.out.below H3.out.2)).mono ?_
      rintro e w4 ⟨u4, rfl, ho4, hb4⟩
      have hlr : LL.reverse.length = N := by simp [hLN]
      rw [hlr] at ho4
      obtain ⟨a4, m4, c4, rfl⟩ := ownsRow_slice ho4
      obtain rfl : m4 = N := by
        rcases ho4.2 with ⟨h, h0⟩ | ⟨g, cap, cur, h, _⟩
        · simp only [Value.slice.injEq] at h; omega
        · simp only [Value.slice.injEq] at h; omega
      have H4 := Lib.hid (H3.out.2.trans (hb4.mono H3.out.2.size))
      clear ho4 hb4 hlr
      go_wp2
      go_ret
      exact ⟨rfl, H4.out⟩
    | succ m =>
      have hkn : (k : Int) < (N : Int) := by omega
      have hk0 : (0 : Int) ≤ (k : Int) := by omega
      obtain ⟨_, a9, c9, e9, _, _, _, hc9⟩ := HSR.out
      simp only [Value.slice.injEq] at e9
      rw [← e9.1] at hc9
      obtain ⟨b9, o9, rfl, hcc⟩ := hc9 (by omega)
      obtain ⟨q, hq⟩ : ∃ q, q = LL[k]'(by omega) := ⟨_, rfl⟩
      have x0 : wr.cell? ⟨b9, o9 + k, none⟩ = some (.string q) := by rw [hq]; exact bcell HP.out.2 (hcc k (by omega))
      have htk : LL.take (k + 1) = LL.take k ++ [q] := by rw [hq]; exact List.take_succ_eq_append_getElem (by omega)
      have HTK := Lib.hid htk
      clear hcc hc9 e9 hq htk
      go_wp2_with fail
      refine (wrap_some _ _ q wr).mono ?_
      rintro e w3 ⟨rfl, hw3⟩
      have hb3 : Below wr.heap.size wr w3 := by rw [hw3]; exact (Below.refl _ _).alloc (Nat.le_refl _) _
      have hB3 : Blk w3 wr.heap.size 36 [.string q, .iface t5 y5] := by rw [hw3]; exact heap_alloc_new wr _
      have H3 : Hid (PO w3 (LL.take (k + 1)).reverse (.iface 34 (.pointer (some ⟨wr.heap.size, 0, none⟩))) (.agg #[.string s]) ∧ Below w1.heap.size w1 w3) := Lib.hid ⟨by
        rw [HTK.out, List.reverse_append]
        exact ⟨_, _, rfl, hB3, HP.out.1.below hb3⟩, HP.out.2.trans (hb3.mono HP.out.2.size)⟩
      clear hw3 hb3 hB3
      go_wp2
      go_roundg m
      case measure => omega
      case rel => exact ⟨k + 1, by go_num, by omega, H3.out⟩
end Go.Proofs.YtekmfdcmnmehoaaDoor
