/- Four digits written, and a text put in quotes. -/
import Derived.Test.YthlioinmeimhoaaDoorTxD
import Derived.Lib.QuoteBits
namespace Go.Proofs.YthlioinmeimhoaaDoor
open Go.Shelf Go.RowKit Go.Lib

/-- the builder at b (made at or above B) holds the bytes l. -/
def BH (B b : Nat) (l : BL) (w : World) : Prop := Lib.IsBuilderF 66 5 B b (Lib.byteCells l) w
theorem bh_byte (B b : Nat) (l : BL) (c : UInt8) (w : World) (h : BH B b l w) (hlen : l.length + 1 ≤ 140737488355328) (hBw : B ≤ w.heap.size) :
    Calls Tryd.prog 37 #[.pointer (some ⟨b, 0, none⟩), .int .u8 c.toNat] w fun e w' => e = .returned .nilIface ∧ BH B b (l ++ [c]) w' ∧ Below B w w' := by
  refine (b_byte B b _ _ w h (by rw [Lib.byteCells_length]; exact hlen) hBw).mono ?_
  rintro e w' ⟨rfl, h1, h2, _⟩
  exact ⟨rfl, Or.inr (by rw [Lib.byteCells_append]; exact h1), h2⟩
theorem bh_str (B b : Nat) (l : BL) (s : ByteArray) (w : World) (h : BH B b l w) (hlen : l.length + s.size ≤ 140737488355328) (hBw : B ≤ w.heap.size) :
    Calls Tryd.prog 38 #[.pointer (some ⟨b, 0, none⟩), .string s] w fun e w' => e = .returned (.tuple #[.int .i64 s.size, .nilIface]) ∧ BH B b (l ++ s.data.toList) w' ∧ Below B w w' := by
  refine (b_str B b _ _ w h (by rw [Lib.byteCells_length]; exact hlen) hBw).mono ?_
  rintro e w' ⟨rfl, h1, h2, _⟩
  exact ⟨rfl, Or.inr (by rw [Lib.byteCells_append]; exact h1), h2⟩
theorem bh_rune (B b : Nat) (l : BL) (r : Int) (hr0 : -2147483648 ≤ r) (hr1 : r ≤ 2147483647) (w : World) (h : BH B b l w) (hlen : l.length + 4 ≤ 140737488355328) (hBw : B ≤ w.heap.size) :
    Calls Tryd.prog 53 #[.pointer (some ⟨b, 0, none⟩), .int .i32 r] w fun e w' => (∃ v, e = .returned v) ∧ BH B b (l ++ encodeRune r) w' ∧ Below B w w' := by
  refine (b_rune B b _ r hr0 hr1 w h (by rw [Lib.byteCells_length]; exact hlen) hBw).mono ?_
  rintro e w' ⟨rfl, h1, h2, _⟩
  exact ⟨⟨_, rfl⟩, Or.inr (by rw [Lib.byteCells_append, Lib.byteCells_encodeRune]; exact h1), h2⟩
theorem bh_get (B b : Nat) (l : BL) (w : World) (h : BH B b l w) (hBw : B ≤ w.heap.size) :
    Calls Tryd.prog 41 #[.pointer (some ⟨b, 0, none⟩)] w fun e w' => e = .returned (.string (BA l)) ∧ Below B w w' := by
  refine (Tryd.Builder_String_any_k B b l w h hBw).mono ?_
  rintro e w' ⟨rfl, _, h2, _⟩
  exact ⟨rfl, h2⟩
theorem BH.below {B b : Nat} {l : BL} {w w2 : World} (h : BH B b l w) (hb : Below w.heap.size w w2) : BH B b l w2 := by
  have key : ∀ p, Lib.BuilderAtF 66 5 B b p (Lib.byteCells l) w → Lib.BuilderAtF 66 5 B b p (Lib.byteCells l) w2 := by
    rintro p ⟨hB, v, hbk, hown, hne⟩
    have hlt := lt_of_block hbk
    exact ⟨hB, v, (hb.block b hlt).trans hbk, hown.kept (row := none) ⟨hb.os, hb.tape, hb.output, hb.size, fun k hk _ => hb.block k hk⟩ (by rcases hv : v.ownBlock with _ | k <;> simp), hne⟩
  rcases h with h | h
  · exact .inl (key _ h)
  · exact .inr (key _ h)
theorem digit_at (K : Nat) (h : K < 16) : ∀ hh, (ByteArray.mk #[48, 49, 50, 51, 52, 53, 54, 55, 56, 57, 97, 98, 99, 100, 101, 102])[K]'hh = hexD K := by
  have key : ∀ k : Fin 16, (ByteArray.mk #[48, 49, 50, 51, 52, 53, 54, 55, 56, 57, 97, 98, 99, 100, 101, 102])[k.val]'(k.isLt) = hexD k.val := by decide +kernel
  intro hh
  exact key ⟨K, h⟩
def dig (r j : Nat) : Nat := r / 2 ^ (12 - 4 * j) % 16
theorem dig_lt (r j : Nat) : dig r j < 16 := Nat.mod_lt _ (by omega)

set_option maxHeartbeats 2000000 in
set_option maxRecDepth 100000 in
theorem unit_any (B b : Nat) (l : BL) (r : Nat) (hr : r ≤ 65535) (w : World) (h : BH B b l w) (hlen : l.length + 10 ≤ 140737488355328) (hBw : B ≤ w.heap.size) :
    Calls Tryd.prog 50 #[.pointer (some ⟨b, 0, none⟩), .int .i32 r] w fun e w' => e = .returned (.tuple #[]) ∧ BH B b (l ++ [92, 117, hexD (dig r 0), hexD (dig r 1), hexD (dig r 2), hexD (dig r 3)]) w' ∧ Below B w w' := by
  go_enter Tryd.func50, Tryd.ntmps50
  go_wp2_with fail
  refine (bh_str B b l _ w h (by have : (ByteArray.mk #[92, 117]).size = 2 := rfl; omega) hBw).mono ?_
  rintro e w1 ⟨rfl, h1, hb1⟩
  go_wp2
  go_loopg [4] 5 (fun gk sv wr => ∃ j : Nat, gk + j = 5 ∧ j ≤ 4 ∧ sv = .int .i64 (12 - 4 * (j : Int)) ∧ BH B b (l ++ [92, 117] ++ ([hexD (dig r 0), hexD (dig r 1), hexD (dig r 2), hexD (dig r 3)] : BL).take j) wr ∧ Below B w wr)
  case atStart => exact ⟨0, rfl, by omega, rfl, by simpa using h1, hb1⟩
  case round =>
    obtain ⟨j, hj, hj5, rfl, hB, hbw⟩ := hrel
    have HB := Lib.hid (And.intro hB hbw)
    clear hB hbw
    by_cases hj4 : j < 4
    · have hc : (0 : Int) ≤ 12 - 4 * (j : Int) := by omega
      have hd : bits .and .i32 ((r : Int) / 2 ^ (12 - 4 * j)) 15 = ((dig r j : Nat) : Int) := by
        have := and15_shift (r : Int) r rfl (by omega) (2 ^ (12 - 4 * j))
        simpa [dig] using this
      have hK := dig_lt r j
      have hix := digit_at _ hK
      have hnext : ([hexD (dig r 0), hexD (dig r 1), hexD (dig r 2), hexD (dig r 3)] : BL).take j ++ [hexD (dig r j)] = ([hexD (dig r 0), hexD (dig r 1), hexD (dig r 2), hexD (dig r 3)] : BL).take (j + 1) := by
        match j, hj4 with
        | 0, _ => rfl
        | 1, _ => rfl
        | 2, _ => rfl
        | 3, _ => rfl
      have HN := Lib.hid hnext
      clear hnext
      generalize dig r j = K at hd hK hix HN
      have hKz : (K : Int) < 16 := by omega
      have hw4 : IntKind.i64.wrap (12 - 4 * (j : Int) - 4) = 12 - 4 * ((j + 1 : Nat) : Int) := by rw [IntWalk.i64_in _ (by omega)]; omega
      have hlt4 : (([hexD (dig r 0), hexD (dig r 1), hexD (dig r 2), hexD (dig r 3)] : BL).take j).length ≤ 4 := by rw [List.length_take]; simp; omega
      have HL := Lib.hid hlt4
      clear hlt4
      go_wp2_with fail
      refine (bh_byte B b _ (hexD K) _ HB.out.1 (by have := HL.out; simp only [List.length_append, List.length_cons, List.length_nil]; omega) (by have := HB.out.2.size; omega)).mono ?_
      rintro e w2 ⟨rfl, h2, hb2⟩
      have H2 := Lib.hid (And.intro h2 (HB.out.2.trans hb2))
      clear h2 hb2
      go_wp2
      go_roundg (gk - 1)
      case rel =>
        refine ⟨j + 1, by omega, by omega, by first | rfl | omega | (simp; omega), ?_, H2.out.2⟩
        rw [← HN.out, ← List.append_assoc]
        exact H2.out.1
      case measure => omega
    · obtain rfl : j = 4 := by omega
      go_wp2
      go_end0
      refine ⟨rfl, ?_, HB.out.2⟩
      have := HB.out.1
      simpa using this
end Go.Proofs.YthlioinmeimhoaaDoor
