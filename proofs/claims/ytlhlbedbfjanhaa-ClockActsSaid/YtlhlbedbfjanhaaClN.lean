/- ClockMoved, ClockEnds: the laws' walks. -/
import Derived.Test.YtlhlbedbfjanhaaClM
namespace Go.Proofs.Ytlhlbedbfjanhaa
open Go.RowKit

/-- a list that a tick has handed out, kept while the clock goes on. -/
structure OwnL (w : World) (b base : Nat) (v : Value) (l : List Int) : Prop where
  own : w.ownsRow base 2 1 v l.length (i64s l)
  low : b + 66 ≤ base
theorem OwnL.only {w w2 : World} {b base : Nat} {v : Value} {l : List Int} (h : OwnL w b base v l) (ho : Only (InW b) w w2) : OwnL w2 b base v l :=
  ⟨own_only h.own ho (fun g hg e => by have := (own_lt h.own hg).1; have := h.low; unfold InW at e; omega), h.low⟩
theorem OwnL.read {w : World} {b base : Nat} {v : Value} {l : List Int} (h : OwnL w b base v l) (hl : l.length ≤ 1000000) : LRead w v l := LRead.own h.own hl

set_option maxHeartbeats 8000000 in
set_option maxRecDepth 100000 in
theorem cmoved_law (id A B : Int) (hA : 0 ≤ A ∧ A ≤ 65535) (hB : 0 ≤ B ∧ B ≤ 65535) (w : World) : Calls Try.prog 6 #[.int .i64 id, .int .u16 A, .int .u16 B] w fun e w' => e = .returned (.bool true) ∧ Below w.heap.size w w' := by
  have HR := Lib.hid (And.intro hA hB)
  have hwA : IntKind.i64.wrap A = A := IntWalk.i64_in _ (by omega)
  have hwB : IntKind.i64.wrap B = B := IntWalk.i64_in _ (by omega)
  have hwA1 : IntKind.i64.wrap (A + 1) = A + 1 := IntWalk.i64_in _ (by omega)
  have hwB1 : IntKind.i64.wrap (B + 1) = B + 1 := IntWalk.i64_in _ (by omega)
  have hwB6 : IntKind.i64.wrap (B + 1 + 5) = B + 1 + 5 := IntWalk.i64_in _ (by omega)
  clear hA hB
  go_enter Try.func6, Try.ntmps6
  go_wp2_with fail
  refine (cawake_any _).mono ?_
  rintro e w0 ⟨rfl, hb0⟩
  have H0 := Lib.hid hb0
  clear hb0
  go_wp2_with fail
  refine (new_any _).mono ?_
  rintro e w1 ⟨rfl, hr1, hb1, _⟩
  have H1 := Lib.hid (CSt.made H0.out hr1 hb1)
  clear hr1 hb1
  obtain ⟨b, hb⟩ : ∃ b, w0.heap.size = b := ⟨_, rfl⟩
  rw [hb] at H1
  try rw [hb]
  clear hb
  have O1 := Lib.hid (One.new id)
  obtain ⟨C1, hC1⟩ : ∃ C, Clk.new = C := ⟨_, rfl⟩
  rw [hC1] at H1 O1
  clear hC1
  go_wp2_with fail
  have hcall := set_any b (b + 1) b C1 id (A + 1) _ H1.out.rep
  refine hcall.mono ?_
  rintro e w2 ⟨rfl, hr, ho, _⟩
  have H2 := Lib.hid (H1.out.set hr ho)
  have o2 := O1.out.set (A + 1)
  rw [show min (max (A + 1) 0) 1099511627776 = A + 1 by have := HR.out; omega] at o2
  have O2 := Lib.hid o2
  clear hr ho o2
  clear hcall
  obtain ⟨C2, hC2⟩ : ∃ C, C1.set id (A + 1) = C := ⟨_, rfl⟩
  rw [hC2] at H2 O2
  clear hC2
  go_wp2_with fail
  have hcall := set_any b (b + 1) b C2 id (B + 1) _ H2.out.rep
  refine hcall.mono ?_
  rintro e w3 ⟨rfl, hr, ho, _⟩
  have H3 := Lib.hid (H2.out.set hr ho)
  have o3 := O2.out.set (B + 1)
  rw [show min (max (B + 1) 0) 1099511627776 = B + 1 by have := HR.out; omega] at o3
  have O3 := Lib.hid o3
  clear hr ho o3
  clear hcall
  obtain ⟨C3, hC3⟩ : ∃ C, C2.set id (B + 1) = C := ⟨_, rfl⟩
  rw [hC3] at H3 O3
  clear hC3
  go_wp2_with fail
  have hcall := at_any b (b + 1) b C3 id _ H3.out.rep
  rw [O3.out.has] at hcall
  refine hcall.mono ?_
  rintro e w4 ⟨rfl, rfl⟩
  clear hcall
  go_wp2_with fail
  have hcall := tick_law H3.out (by omega) (B)
  have hnx : C3.next (B) = B := by rw [O3.out.next]; have := HR.out; omega
  refine hcall.mono ?_
  rintro e w4 ⟨a4, c4, l4, rfl, _, hd, hh, ho, hown, _⟩
  rw [hnx] at hd
  have hl := O3.out.due hd
  have o4 := O3.out.tick (B) hnx
  have hdue : isDue B (some (B + 1)) = false := by simp [isDue]; omega
  rw [hdue] at hl o4
  simp only [if_true, if_false, Bool.false_eq_true] at hl o4
  subst hl
  have H4 := Lib.hid hh
  have O4 := Lib.hid (show One _ id (B) (some (B + 1)) from o4)
  clear hd hh ho hown o4 hdue hnx
  clear hcall
  obtain ⟨C4, hC4⟩ : ∃ C, C3.tick (B) = C := ⟨_, rfl⟩
  rw [hC4] at H4 O4
  clear hC4
  go_wp2_with fail
  have hcall := tick_law H4.out (by omega) (1)
  have hnx : C4.next (1) = B + 1 := by rw [O4.out.next]; have := HR.out; omega
  refine hcall.mono ?_
  rintro e w5 ⟨a5, c5, l5, rfl, _, hd, hh, ho, hown, _⟩
  rw [hnx] at hd
  have hl := O4.out.due hd
  have o5 := O4.out.tick (1) hnx
  have hdue : isDue (B + 1) (some (B + 1)) = true := by simp [isDue]
  rw [hdue] at hl o5
  simp only [if_true, if_false, Bool.false_eq_true] at hl o5
  subst hl
  have H5 := Lib.hid hh
  have O5 := Lib.hid (show One _ id (B + 1) (none) from o5)
  have L5 := Lib.hid (show OwnL w5 b (w4.heap.size + 1) (.slice a5 1 c5) [id] from ⟨hown, by have := H4.out.rep.top; omega⟩)
  clear hd hh ho hown o5 hdue hnx
  clear hcall
  obtain ⟨C5, hC5⟩ : ∃ C, C4.tick (1) = C := ⟨_, rfl⟩
  rw [hC5] at H5 O5
  clear hC5
  go_wp2_with fail
  have hcall := now_any b (b + 1) b C5 _ H5.out.rep
  rw [O5.out.now] at hcall
  refine hcall.mono ?_
  rintro e wq ⟨rfl, rfl⟩
  clear hcall
  go_wp2_with fail
  have hcall := set_any b (b + 1) b C5 id (B + 1 + 5) _ H5.out.rep
  refine hcall.mono ?_
  rintro e w6 ⟨rfl, hr, ho, _⟩
  have H6 := Lib.hid (H5.out.set hr ho)
  have o6 := O5.out.set (B + 1 + 5)
  rw [show min (max (B + 1 + 5) (B + 1)) 1099511627776 = B + 1 + 5 by have := HR.out; omega] at o6
  have O6 := Lib.hid o6
  have L6 := Lib.hid (L5.out.only ho)
  clear hr ho o6
  clear hcall
  obtain ⟨C6, hC6⟩ : ∃ C, C5.set id (B + 1 + 5) = C := ⟨_, rfl⟩
  rw [hC6] at H6 O6
  clear hC6
  go_wp2_with fail
  have hcall := clear_any b (b + 1) b C6 id _ H6.out.rep
  rw [O6.out.has] at hcall
  refine hcall.mono ?_
  rintro e w7 ⟨rfl, hr, ho, _⟩
  have H7 := Lib.hid (H6.out.clear hr ho)
  have O7 := Lib.hid (O6.out.clear)
  have L7 := Lib.hid (L6.out.only ho)
  clear hr ho
  clear hcall
  obtain ⟨C7, hC7⟩ : ∃ C, C6.clear id = C := ⟨_, rfl⟩
  rw [hC7] at H7 O7
  clear hC7
  go_wp2_with fail
  have hcall := tick_law H7.out (by omega) (1048576)
  have hnx : C7.next (1048576) = B + 1 + 1048576 := by rw [O7.out.next]; have := HR.out; omega
  refine hcall.mono ?_
  rintro e w8 ⟨a8, c8, l8, rfl, _, hd, hh, ho, hown, _⟩
  rw [hnx] at hd
  have hl := O7.out.due hd
  have o8 := O7.out.tick (1048576) hnx
  have hdue : isDue (B + 1 + 1048576) none = false := rfl
  rw [hdue] at hl o8
  simp only [if_true, if_false, Bool.false_eq_true] at hl o8
  subst hl
  have H8 := Lib.hid hh
  have O8 := Lib.hid (show One _ id (B + 1 + 1048576) (none) from o8)
  have L8 := Lib.hid (L7.out.only ho)
  clear hd hh ho hown o8 hdue hnx
  clear hcall
  obtain ⟨C8, hC8⟩ : ∃ C, C7.tick (1048576) = C := ⟨_, rfl⟩
  rw [hC8] at H8 O8
  clear hC8
  go_wp2_with fail
  have hcall := csame_any _ _ _ _ _ ((L8.out.read (by simp)).below ((Below.refl _ w8).alloc (Nat.le_refl _) (.cells #[.int .i64 id] 2))) (LRead.one w8 id 1)
  refine hcall.mono ?_
  rintro e w9 ⟨rfl, q, rfl⟩
  rw [show decide ([id] = [id]) = true by simp]
  have H9 := Lib.hid ((H8.out.later ((Below.refl _ w8).alloc (Nat.le_refl _) (.cells #[.int .i64 id] 2))).step (n2 := _) ((H8.out.rep.alloc _).only (Only.drewN NoneS _ q) (fun _ _ h => h)) (Only.drewN _ _ q) H8.out.ok H8.out.few)
  clear hcall
  go_wp2_with fail
  have hcall := clear_any b (b + 1) b C8 id _ H9.out.rep
  rw [O8.out.has] at hcall
  refine hcall.mono ?_
  rintro e w10 ⟨rfl, hr, ho, _⟩
  have H10 := Lib.hid (H9.out.clear hr ho)
  clear hcall hr ho
  go_wp2
  go_ret
  exact ⟨by first | rfl | simp, H10.out.bel⟩
end Go.Proofs.Ytlhlbedbfjanhaa
