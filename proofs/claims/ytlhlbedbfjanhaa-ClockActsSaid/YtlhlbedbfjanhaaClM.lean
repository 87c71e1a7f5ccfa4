/- ClockNow, ClockMoved: a clock with one deadline at most; the laws' walks. -/
import Derived.Test.YtlhlbedbfjanhaaClL
namespace Go.Proofs.Ytlhlbedbfjanhaa
open Go.RowKit

/-- c stands at now, with the deadline o of id alone. -/
structure One (c : Clk) (id : Int) (now : Int) (o : Option Int) : Prop where
  now : c.now = now
  at_ : ∀ k, c.at_ k = if k = id then o else none
theorem One.new (id : Int) : One Clk.new id 0 none := ⟨rfl, fun k => by simp [Clk.new]⟩
theorem One.set {c : Clk} {id now : Int} {o : Option Int} (h : One c id now o) (a : Int) : One (c.set id a) id now (some (min (max a now) 1099511627776)) := by
  refine ⟨h.now, fun k => ?_⟩
  unfold Clk.set Clk.when maxT
  simp only
  by_cases e : k = id
  · simp [e, h.now]
  · simp [e, h.at_ k]
theorem One.clear {c : Clk} {id now : Int} {o : Option Int} (h : One c id now o) : One (c.clear id) id now none := by
  refine ⟨h.now, fun k => ?_⟩
  unfold Clk.clear
  simp only
  by_cases e : k = id <;> simp [e, h.at_ k]
theorem One.next {c : Clk} {id now : Int} {o : Option Int} (h : One c id now o) (n : Int) : c.next n = min (now + min (max n 0) 1048576) 1099511627776 := by
  unfold Clk.next maxK maxT; rw [h.now]
theorem One.tick {c : Clk} {id now nx : Int} {o : Option Int} (h : One c id now o) (n : Int) (hn : c.next n = nx) : One (c.tick n) id nx (if isDue nx o then none else o) := by
  refine ⟨hn, fun k => ?_⟩
  unfold Clk.tick
  simp only
  rw [hn, h.at_ k]
  by_cases e : k = id
  · simp [e]
  · simp [e, isDue]
theorem One.due {c : Clk} {id now nx : Int} {o : Option Int} (h : One c id now o) {l : List Int} (hd : DueL c.at_ nx l) : l = if isDue nx o then [id] else [] := by
  by_cases e : isDue nx o = true
  · rw [if_pos e]
    refine hd.one id fun k => ?_
    rw [h.at_ k]
    by_cases ek : k = id
    · simp [ek, e]
    · simp [ek, isDue]
  · rw [if_neg e]
    refine hd.empty fun k => ?_
    rw [h.at_ k]
    by_cases ek : k = id
    · simpa [ek] using e
    · simp [ek, isDue]
theorem One.has {c : Clk} {id now : Int} {o : Option Int} (h : One c id now o) : c.at_ id = o := by rw [h.at_ id, if_pos rfl]

set_option maxHeartbeats 4000000 in
set_option maxRecDepth 100000 in
theorem cnow_law (id a : Int) (ha : -32768 ≤ a ∧ a ≤ 32767) (w : World) : Calls Try.prog 8 #[.int .i64 id, .int .i16 a] w fun e w' => e = .returned (.bool true) ∧ Below w.heap.size w w' := by
  have hwa : IntKind.i64.wrap a = a := IntWalk.i64_in _ (by omega)
  go_enter Try.func8, Try.ntmps8
  go_wp2_with fail
  refine (cawake_any _).mono ?_
  rintro e w0 ⟨rfl, hb0⟩
  have H0 := Lib.hid hb0
  clear hb0
  go_wp2_with fail
  refine (new_any _).mono ?_
  rintro e w1 ⟨rfl, hr1, hb1, _⟩
  have H1 := Lib.hid (CSt.made H0.out hr1 hb1)
  clear hr1 hb1
  obtain ⟨b, hb⟩ : ∃ b, w0.heap.size = b := ⟨_, rfl⟩
  rw [hb] at H1
  try rw [hb]
  clear hb
  have O1 := Lib.hid (One.new id)
  go_wp2_with fail
  have hcall := tick_law H1.out (by omega) 1000
  refine hcall.mono ?_
  rintro e w2 ⟨a1, c1, l1, rfl, _, _, h2, _, _⟩
  have H2 := Lib.hid h2
  have O2 := Lib.hid (show One (Clk.new.tick 1000) id 1000 none from O1.out.tick 1000 (by decide))
  clear hcall h2
  obtain ⟨C2, hC2⟩ : ∃ C, Clk.new.tick 1000 = C := ⟨_, rfl⟩
  rw [hC2] at H2 O2
  clear hC2
  go_wp2_with fail
  have hcall := set_any b (b + 1) b C2 id a _ H2.out.rep
  refine hcall.mono ?_
  rintro e w3 ⟨rfl, hr, ho, _⟩
  have H3 := Lib.hid (H2.out.set hr ho)
  obtain ⟨t, ht⟩ : ∃ t, min (max a 1000) 1099511627776 = t := ⟨_, rfl⟩
  have O3 := O2.out.set a
  rw [ht] at O3
  have O3 := Lib.hid O3
  obtain ⟨C3, hC3⟩ : ∃ C, C2.set id a = C := ⟨_, rfl⟩
  rw [hC3] at H3 O3
  clear hcall hr ho hC3
  go_wp2_with fail
  have hcall := tick_law H3.out (by omega) 0
  refine hcall.mono ?_
  have hnx : C3.next 0 = 1000 := by rw [O3.out.next]; decide
  rintro e w4 ⟨a4, c4, l4, rfl, hlr, hd, h4, _, _⟩
  rw [hnx] at hd
  have hl4 := O3.out.due hd
  have O4 := O3.out.tick 0 hnx
  have H4 := Lib.hid (And.intro h4 hlr)
  have O4 := Lib.hid O4
  obtain ⟨C4, hC4⟩ : ∃ C, C3.tick 0 = C := ⟨_, rfl⟩
  rw [hC4] at H4 O4
  clear hcall h4 hC4 hlr hd hnx
  by_cases hle : a ≤ 1000
  · have hdue : isDue 1000 (some t) = true := by rw [← ht]; simp [isDue]; omega
    rw [if_pos hdue] at hl4
    rw [if_pos hdue] at O4
    subst hl4
    have hgt : ¬ 1000 < a := by omega
    go_wp2_with fail
    have hcall := at_any b (b + 1) b C4 id _ H4.out.1.rep
    rw [O4.out.has] at hcall
    refine hcall.mono ?_
    rintro e w5 ⟨rfl, rfl⟩
    clear hcall
    go_wp2_with fail
    have hcall := csame_any _ _ _ _ _ (H4.out.2.below ((Below.refl _ w4).alloc (Nat.le_refl _) (.cells #[.int .i64 id] 2))) (LRead.one w4 id 1)
    refine hcall.mono ?_
    rintro e w6 ⟨rfl, q, rfl⟩
    rw [show decide ([id] = [id]) = true by simp]
    clear hcall
    go_wp2
    go_ret
    exact ⟨by first | rfl | (simp; omega), H4.out.1.bel.trans ((Only.ofBelow ((Below.refl _ w4).alloc (Nat.le_refl _) _) NoneS).trans (Only.drewN NoneS _ q) |>.below H4.out.1.bel.size (fun _ _ h => h))⟩
  · have hdue : isDue 1000 (some t) = false := by rw [← ht]; simp [isDue]; omega
    rw [if_neg (by rw [hdue]; decide)] at hl4
    rw [if_neg (by rw [hdue]; decide)] at O4
    subst hl4
    have hgt : 1000 < a := by omega
    go_wp2_with fail
    have hcall := at_any b (b + 1) b C4 id _ H4.out.1.rep
    rw [O4.out.has] at hcall
    refine hcall.mono ?_
    rintro e w5 ⟨rfl, rfl⟩
    clear hcall
    go_wp2_with fail
    have hcall := csame_any _ _ _ _ _ (H4.out.2.below ((Below.refl _ w4).alloc (Nat.le_refl _) (.cells #[.int .i64 id] 2))) (LRead.one w4 id 1)
    refine hcall.mono ?_
    rintro e w6 ⟨rfl, q, rfl⟩
    rw [show decide (([] : List Int) = [id]) = false by simp]
    clear hcall
    go_wp2
    go_ret
    exact ⟨by first | rfl | (simp; omega), H4.out.1.bel.trans ((Only.ofBelow ((Below.refl _ w4).alloc (Nat.le_refl _) _) NoneS).trans (Only.drewN NoneS _ q) |>.below H4.out.1.bel.size (fun _ _ h => h))⟩
end Go.Proofs.Ytlhlbedbfjanhaa
