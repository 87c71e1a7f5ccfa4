/- The key reader's number. -/
import Derived.Test.YthlioinmeimhoaaDoorKgB
namespace Go.Proofs.YthlioinmeimhoaaDoor
open Go.Shelf Go.RowKit Go.Lib

theorem xor_back (N : Nat) (h : N < 18446744073709551616) : IntKind.i64.wrap (bits .xor .u64 (N : Int) 9223372036854775808) = (N : Int) - 9223372036854775808 := by
  rw [show (9223372036854775808 : Int) = ((9223372036854775808 : Nat) : Int) from rfl, bits_xor_u64_nat _ _ h (by decide), IntKind.wrap_i64]
  by_cases hn : N < 9223372036854775808
  · rw [xor_low _ hn]; omega
  · obtain ⟨M, rfl⟩ : ∃ M, N = M + 9223372036854775808 := ⟨N - 9223372036854775808, by omega⟩
    rw [← xor_low M (by omega), Nat.xor_assoc, Nat.xor_self, Nat.xor_zero, xor_low M (by omega)]
    omega
theorem or_low (n c : Nat) (hn : n < 72057594037927936) (hc : c < 256) : bits .or .u64 ((n : Int) * 256) (c : Int) = ((n * 256 + c : Nat) : Int) := by
  rw [show ((n : Int) * 256) = ((n * 256 : Nat) : Int) by omega, bits_or_u64_nat _ _ (by omega) (by omega)]
  have h := Nat.shiftLeft_add_eq_or_of_lt (i := 8) (b := c) (by omega) n
  rw [Nat.shiftLeft_eq] at h
  rw [show (2 : Nat) ^ 8 = 256 from rfl] at h
  rw [← h]
theorem bytesN (l : BL) (w : World) : ∃ cap W, (convert 9 22 (.string (BA l))).run Tryd.prog w = .ok (.slice (some ⟨w.heap.size, 0, none⟩) l.length cap) W ∧ Below w.heap.size w W ∧
    ∀ i u, l[i]? = some u → W.cell? ⟨w.heap.size, i, none⟩ = some (.int .u8 (u.toNat : Int)) := by
  have h := run_bytes_of_string w 9 22 5 (BA l) Tryd.underlying9 Tryd.underlying22 Tryd.underlying5
  obtain ⟨cap, hcap⟩ : ∃ cap, grownCap w (BA l).size 0 5 = cap := ⟨_, rfl⟩
  rw [hcap] at h
  have hblk : ∀ (fz : Nat × Nat), (w.drew.alloc (.cells (bytesRow (BA l) cap) 5 fz)).heap[w.heap.size]? = some (.cells (bytesRow (BA l) cap) 5 fz) := fun fz => heap_alloc_new w.drew _
  rw [ba_size] at h
  refine ⟨cap, _, h, ((Below.refl _ w).drew).alloc (Nat.le_refl _) _, fun i u hu => ?_⟩
  have hi : i < l.length := (List.getElem?_eq_some_iff.1 hu).1
  rw [Go.Joins.cell_of_block (hblk _), bytesRow_at _ _ _ (show i < (BA l).size by rw [ba_size]; exact hi)]
  exact congrArg (fun v : UInt8 => some (Value.int .u8 (v.toNat : Int))) (List.getElem?_eq_some_iff.1 hu).2
theorem beN_take (l : BL) (i : Nat) (u : UInt8) (hu : l[i]? = some u) : beN (l.take (i + 1)) = beN (l.take i) * 256 + u.toNat := by
  obtain ⟨hi, he⟩ := List.getElem?_eq_some_iff.1 hu
  rw [← List.take_append_getElem hi, he]
  unfold beN
  rw [List.foldl_append]
  rfl
theorem beN_small (l : BL) (i : Nat) (hi : i < 8) : beN (l.take i) < 72057594037927936 := by
  have h1 := beN_lt (l.take i)
  have h2 : (l.take i).length ≤ 7 := by rw [List.length_take]; omega
  have h3 : 256 ^ (l.take i).length ≤ 256 ^ 7 := Nat.pow_le_pow_right (by omega) h2
  have h4 : (256 : Nat) ^ 7 = 72057594037927936 := rfl
  omega

/-- what the reader's number comes to. -/
def NumPost (w : World) (rb : Nat) (s : BL) (e : Ending) (w' : World) : Prop := ∃ n : Int, e = .returned (.int .i64 n) ∧ (match rnumL s with | some p => n = p.1 ∧ RS w' rb (some p.2) | none => RS w' rb none) ∧ Only (fun k => k = rb) w w'

set_option maxHeartbeats 8000000 in
set_option maxRecDepth 100000 in
theorem rnumber_any (rb : Nat) (s : BL) (w : World) (hR : RS w rb (some s)) :
    Calls Tryd.prog 61 #[.pointer (some ⟨rb, 0, none⟩)] w (NumPost w rb s) := by
  have hlt := hR.lt
  have key : ∀ (l : BL) (o : Option BL), l.length ≤ 8 → ((l.length = 8 ∧ o = some (s.drop 8) ∧ l = s.take 8 ∧ 8 ≤ s.length) ∨ (o = none ∧ s.length < 8)) →
      (Calls Tryd.prog 60 #[.pointer (some ⟨rb, 0, none⟩), .int .i64 8] w fun e w' => e = .returned (.string (BA l)) ∧ RS w' rb o ∧ Only (· = rb) w w') →
      Calls Tryd.prog 61 #[.pointer (some ⟨rb, 0, none⟩)] w (NumPost w rb s) := by
    intro l o hl8 ho hC
    have H := Lib.hid (And.intro hC (And.intro ho hlt))
    clear hC ho hR hlt
    go_enter Tryd.func61, Tryd.ntmps61
    go_wp2_with fail
    refine H.out.1.mono ?_
    rintro e w2 ⟨rfl, hr2, ho2⟩
    obtain ⟨cap, W, hcv, hbW, hcell⟩ := bytesN l w2
    obtain ⟨C, hC⟩ : ∃ C, BA l = C := ⟨_, rfl⟩
    rw [hC] at hcv ⊢
    obtain ⟨b, hb⟩ : ∃ b, w2.heap.size = b := ⟨_, rfl⟩
    rw [hb] at hcv hcell
    obtain ⟨N, hN⟩ : ∃ N, l.length = N := ⟨_, rfl⟩
    rw [hN] at hcv hl8
    have H2 := Lib.hid (And.intro (hr2.below hbW) (And.intro (ho2.trans' (Only.ofBelow hbW (fun _ => False)) (fun _ _ h => h.elim)) (And.intro hcell hN)))
    clear hr2 ho2 hbW hcell hC hb hN
    go_wp2_with fail
    clear hcv
    go_loopg [3, 10] N (fun gk nv iv wr => ∃ i : Nat, gk + i = N ∧ iv = .int .i64 i ∧ nv = .int .u64 (beN (l.take i)) ∧ wr = W)
    case atStart => exact ⟨0, Nat.add_zero _, rfl, rfl, rfl⟩
    case round =>
      obtain ⟨i, hg, rfl, rfl, rfl⟩ := hrel
      by_cases hi : i < N
      · obtain ⟨u, hu⟩ : ∃ u, l[i]? = some u := ⟨_, List.getElem?_eq_getElem (by rw [H2.out.2.2.2]; exact hi)⟩
        have hc := H2.out.2.2.1 i u hu
        have hsm := beN_small l i (by omega)
        have hnx := beN_take l i u hu
        obtain ⟨n, hn⟩ : ∃ n, beN (l.take i) = n := ⟨_, rfl⟩
        obtain ⟨c, hcc⟩ : ∃ c, u.toNat = c := ⟨_, rfl⟩
        have hc8 : c < 256 := by rw [← hcc]; exact u.toNat_lt
        rw [hn] at hsm hnx ⊢
        rw [hcc] at hc hnx
        have hor := or_low n c hsm hc8
        have HN := Lib.hid hnx
        have hiz : (i : Int) < (N : Int) := by omega
        have hwK : IntKind.i64.wrap ((i : Int) + 1) = ((i + 1 : Nat) : Int) := by rw [IntWalk.i64_in _ (by omega)]; omega
        have hw1 : IntKind.u64.wrap ((n : Int) * 256) = (n : Int) * 256 := by rw [IntKind.wrap_u64]; omega
        have hw2 : (n : Int) * 256 % 18446744073709551616 = (n : Int) * 256 := by omega
        clear hu hnx hn hcc
        go_wp2
        go_roundg (gk - 1)
        case rel => exact ⟨i + 1, by omega, rfl, by rw [HN.out]; rfl, rfl⟩
        case measure => omega
      · have hiz : ¬ (i : Int) < (N : Int) := by omega
        obtain rfl : i = N := by omega
        have hlen : beN (l.take i) < 18446744073709551616 := by
          have h1 := beN_lt (l.take i)
          have h2 : (l.take i).length ≤ 8 := by rw [List.length_take]; omega
          have h3 : 256 ^ (l.take i).length ≤ 256 ^ 8 := Nat.pow_le_pow_right (by omega) h2
          have h4 : (256 : Nat) ^ 8 = 18446744073709551616 := rfl
          omega
        have hxb := xor_back _ hlen
        obtain ⟨X, hX⟩ : ∃ X, bits .xor .u64 ((beN (l.take i) : Nat) : Int) 9223372036854775808 = X := ⟨_, rfl⟩
        rw [hX] at hxb
        have HX := Lib.hid hxb
        clear hxb hlen
        go_wp2
        go_ret
        refine ⟨_, rfl, ?_, H2.out.2.1⟩
        rcases H.out.2.1 with ⟨h8, rfl, hls, hs8⟩ | ⟨rfl, hs8⟩
        · have e : rnumL s = some ((beN (s.take 8) : Int) - 9223372036854775808, s.drop 8) := by unfold rnumL; rw [if_neg (by omega)]
          rw [e]
          refine ⟨?_, H2.out.1⟩
          rw [← hls]
          have hx := HX.out
          rw [List.take_of_length_le (by rw [H2.out.2.2.2]; exact Nat.le_refl _)] at hx
          rw [IntKind.wrap_i64] at hx
          unfold wrap64
          exact hx
        · have e : rnumL s = none := by unfold rnumL; rw [if_pos hs8]
          rw [e]
          exact H2.out.1
  by_cases h8 : 8 ≤ s.length
  · exact key (s.take 8) (some (s.drop 8)) (by rw [List.length_take]; omega) (.inl ⟨by rw [List.length_take]; omega, rfl, rfl, h8⟩) (take_some rb 8 s w hR h8)
  · exact key [] none (by simp) (.inr ⟨rfl, by omega⟩) (take_short rb 8 s w hR (by omega))
end Go.Proofs.YthlioinmeimhoaaDoor
