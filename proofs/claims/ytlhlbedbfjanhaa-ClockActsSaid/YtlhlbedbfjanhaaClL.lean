/- A clock under way; the law's examples. -/
import Derived.Test.YtlhlbedbfjanhaaClJ
namespace Go.Proofs.Ytlhlbedbfjanhaa
open Go.RowKit

/-- a clock that the law has made behind w0 stands at c, with n deadlines or fewer. -/
structure CSt (w0 w : World) (b : Nat) (c : Clk) (n : Nat) : Prop where
  rep : WRep w b (b + 1) b c
  ok : c.OK
  few : Few c n
  bel : Below w0.heap.size w0 w
  low : w0.heap.size ≤ b
theorem CSt.step {w0 w w2 : World} {b n n2 : Nat} {c c2 : Clk} (h : CSt w0 w b c n) (hr : WRep w2 b (b + 1) b c2) (ho : Only (InW b) w w2) (hk : c2.OK) (hf : Few c2 n2) : CSt w0 w2 b c2 n2 :=
  ⟨hr, hk, hf, h.bel.trans (ho.below (by have := h.bel.size; omega) (fun k hk e => by have := h.low; unfold InW at e; omega)), h.low⟩
theorem CSt.set {w0 w w2 : World} {b n : Nat} {c : Clk} (h : CSt w0 w b c n) {id a : Int} (hr : WRep w2 b (b + 1) b (c.set id a)) (ho : Only (InW b) w w2) : CSt w0 w2 b (c.set id a) (n + 1) := h.step hr ho (Clk.set_ok h.ok id a) (h.few.set id a)
theorem CSt.clear {w0 w w2 : World} {b n : Nat} {c : Clk} (h : CSt w0 w b c n) {id : Int} (hr : WRep w2 b (b + 1) b (c.clear id)) (ho : Only (InW b) w w2) : CSt w0 w2 b (c.clear id) n := h.step hr ho (Clk.clear_ok h.ok id) (h.few.clear id)
theorem CSt.tick {w0 w w2 : World} {b n : Nat} {c : Clk} (h : CSt w0 w b c n) {t : Int} (hr : WRep w2 b (b + 1) b (c.tick t)) (ho : Only (InW b) w w2) : CSt w0 w2 b (c.tick t) n := h.step hr ho (Clk.tick_ok h.ok t) (h.few.tick t)
theorem CSt.mono {w0 w : World} {b n m : Nat} {c : Clk} (h : CSt w0 w b c n) (hm : n ≤ m) : CSt w0 w b c m := ⟨h.rep, h.ok, h.few.mono hm, h.bel, h.low⟩
theorem CSt.later {w0 w w2 : World} {b n : Nat} {c : Clk} (h : CSt w0 w b c n) (hb : Below w.heap.size w w2) : CSt w0 w2 b c n := h.step (h.rep.below hb) (Only.ofBelow hb _) h.ok h.few
theorem CSt.made {w0 w w2 : World} (hb0 : Below w0.heap.size w0 w) (hr : WRep w2 w.heap.size (w.heap.size + 1) w.heap.size Clk.new) (hb : Below w.heap.size w w2) : CSt w0 w2 w.heap.size Clk.new 0 :=
  ⟨hr, Clk.new_ok, few_new, hb0.trans (hb.mono hb0.size), hb0.size⟩
theorem few_len {c : Clk} {n : Nat} {now : Int} {l : List Int} (hf : Few c n) (h : DueL c.at_ now l) : l.length ≤ n := by
  obtain ⟨L, h1, h2⟩ := hf
  refine Nat.le_trans (sub_len ?_ fun x hx => h2 x ?_) h1
  · refine h.order.imp fun {x y} hxy => ?_
    rintro rfl
    exact ahead_irrefl c.at_ x hxy
  · have := (h.mem x).1 hx
    unfold isDue at this
    cases hq : c.at_ x with
    | none => rw [hq] at this; cases this
    | some t => rfl
/-- Tick, told to a law. -/
theorem tick_law {w0 w : World} {b n : Nat} {c : Clk} (h : CSt w0 w b c n) (hn : n ≤ 1000) (t : Int) :
    Calls Try.prog 12 #[.pointer (some ⟨b + 1, 0, none⟩), .int .i64 t] w fun e w' => ∃ a cap l, e = .returned (.slice a l.length cap) ∧ LRead w' (.slice a l.length cap) l ∧ DueL c.at_ (c.next t) l ∧ CSt w0 w' b (c.tick t) n ∧ Only (InW b) w w' ∧
      w'.ownsRow (w.heap.size + 1) 2 1 (.slice a l.length cap) l.length (i64s l) ∧ l.length ≤ n ∧ w.heap.size + 1 ≤ w'.heap.size := by
  refine (wtick_any b (b + 1) b c t n w h.rep h.ok h.few (by omega)).mono ?_
  rintro e w' ⟨v, l, rfl, hown, hd, hr, ho, hsz⟩
  have hl := few_len h.few hd
  have hr2 := LRead.own hown (by omega)
  obtain ⟨h0, a, cap, rfl, hc⟩ := hr2
  exact ⟨a, cap, l, rfl, ⟨h0, a, cap, rfl, hc⟩, hd, h.tick hr ho, ho, hown, hl, hsz⟩

def awk : Clk := (Clk.new.set 7 3).set 5 3
theorem awk_at (k : Int) : awk.at_ k = if k = 5 then some 3 else if k = 7 then some 3 else none := by
  unfold awk Clk.set Clk.when Clk.new maxT
  simp only []
  rw [show min (max (3 : Int) 0) 1099511627776 = 3 by decide]
theorem awk_first {l : List Int} (h : DueL awk.at_ (awk.next 2) l) : l = [] := by
  refine h.empty fun k => ?_
  have e : awk.next 2 = 2 := by decide
  rw [e, awk_at]
  split
  · rfl
  · split <;> rfl
theorem awk_second {l : List Int} (h : DueL (awk.tick 2).at_ ((awk.tick 2).next 1) l) : l = [5, 7] := by
  have e1 : awk.next 2 = 2 := by decide
  have e2 : (awk.tick 2).next 1 = 3 := by decide
  have e3 : ∀ k, (awk.tick 2).at_ k = if k = 5 then some 3 else if k = 7 then some 3 else none := fun k => by
    show (if isDue (awk.next 2) (awk.at_ k) = true then none else awk.at_ k) = _
    rw [e1, awk_at]
    by_cases h5 : k = 5
    · simp [h5, isDue]
    · by_cases h7 : k = 7 <;> simp [h5, h7, isDue]
  rw [e2] at h
  refine h.unique ⟨?_, fun k => ?_⟩
  · simp [ahead, e3]
  · rw [e3]
    by_cases h5 : k = 5
    · simp [h5, isDue]
    · by_cases h7 : k = 7 <;> simp [h5, h7, isDue]

set_option maxHeartbeats 4000000 in
set_option maxRecDepth 100000 in
theorem cawake_any (w : World) : Calls Try.prog 9 #[] w fun e w' => e = .returned (.bool true) ∧ Below w.heap.size w w' := by
  go_enter Try.func9, Try.ntmps9
  go_wp2_with fail
  refine (new_any _).mono ?_
  rintro e w1 ⟨rfl, hr1, hb1, _⟩
  have H1 := Lib.hid (CSt.made (Below.refl w.heap.size w) hr1 hb1)
  clear hr1 hb1
  obtain ⟨b, hb⟩ : ∃ b, w.heap.size = b := ⟨_, rfl⟩
  have HB := Lib.hid hb
  rw [hb] at H1
  try rw [hb]
  clear hb
  go_wp2_with fail
  have hcall := set_any b (b + 1) b _ 7 3 _ H1.out.rep
  refine hcall.mono ?_
  rintro e w2 ⟨rfl, hr, ho, _⟩
  have H2 := Lib.hid (H1.out.set hr ho)
  clear hcall hr ho
  go_wp2_with fail
  have hcall := set_any b (b + 1) b _ 5 3 _ H2.out.rep
  refine hcall.mono ?_
  rintro e w3 ⟨rfl, hr, ho, _⟩
  have H3 := Lib.hid (show CSt w w3 b awk _ from H2.out.set hr ho)
  clear hcall hr ho
  go_wp2_with fail
  have hcall := tick_law H3.out (by omega) 2
  refine hcall.mono ?_
  rintro e w4 ⟨a1, c1, l1, rfl, _, hd, h4, _, _⟩
  obtain rfl := awk_first hd
  have H4 := Lib.hid h4
  clear hcall hd h4
  go_wp2_with fail
  have hcall := tick_law H4.out (by omega) 1
  refine hcall.mono ?_
  rintro e w5 ⟨a2, c2, l2, rfl, hl, hd, h5, _, _⟩
  obtain rfl := awk_second hd
  obtain ⟨_, a, cap, hv, hc⟩ := hl
  obtain ⟨rfl, _, rfl⟩ := (Value.slice.injEq ..).mp hv
  obtain ⟨g, rfl, hcc⟩ := hc (by simp)
  have q0 := hcc 0 (by simp)
  have q1 := hcc 1 (by simp)
  simp only [List.getElem_cons_zero, List.getElem_cons_succ] at q0 q1
  have H5 := Lib.hid h5
  clear hcall hd h5 hc hcc hv
  have hnow : ((awk.tick 2).tick 1).now = 3 := by decide
  have hcall := now_any b (b + 1) b _ _ H5.out.rep
  rw [hnow] at hcall
  have HC := Lib.hid hcall
  clear hcall hnow
  go_wp2_with fail
  refine HC.out.mono ?_
  rintro e w6 ⟨rfl, rfl⟩
  go_wp2
  go_ret
  exact ⟨rfl, H5.out.bel⟩
end Go.Proofs.Ytlhlbedbfjanhaa
