/- The clock's small functions: New, Now, At, Clear, Set. -/
import Derived.Test.YtlhlbedbfjanhaaClA
namespace Go.Proofs.Ytlhlbedbfjanhaa
open Go.RowKit

theorem zeroInt (w : World) : (zeroValue 3).run Try.prog w = .ok (.int .i64 0) w := by kernel_rfl
theorem zeroBool (w : World) : (zeroValue 4).run Try.prog w = .ok (.bool false) w := by kernel_rfl
theorem atF_get (c : Clk) (id : Int) : (atF c id).getD (.int .i64 0) = .int .i64 ((c.at_ id).getD 0) := by
  unfold atF
  cases c.at_ id <;> rfl
theorem atF_is (c : Clk) (id : Int) : (atF c id).isSome = (c.at_ id).isSome := by
  unfold atF
  cases c.at_ id <;> rfl

set_option maxRecDepth 100000 in
theorem now_any (b p mb : Nat) (c : Clk) (w : World) (h : WRep w b p mb c) : Calls Try.prog 14 #[.pointer (some ⟨p, 0, none⟩)] w fun e w' => e = .returned (.int .i64 c.now) ∧ w = w' := by
  have h0 := h.now0
  clear h
  go_enter Try.func14, Try.ntmps14
  go_wp2
  go_ret
  exact ⟨rfl, rfl⟩
set_option maxRecDepth 100000 in
theorem at_any (b p mb : Nat) (c : Clk) (id : Int) (w : World) (h : WRep w b p mb c) : Calls Try.prog 17 #[.pointer (some ⟨p, 0, none⟩), .int .i64 id] w fun e w' => e = .returned (.tuple #[.int .i64 ((c.at_ id).getD 0), .bool (c.at_ id).isSome]) ∧ w = w' := by
  have h1 := h.at1
  have hl := h.map.rep.lookup_ok keyI64 Try.underlying35 (zeroInt w) id
  rw [atF_get, atF_is] at hl
  simp only [i64V] at hl
  clear h
  go_enter Try.func17, Try.ntmps17
  go_wp2
  go_ret2
  exact ⟨rfl, rfl⟩
theorem mod64 (t : Int) (h0 : 0 ≤ t) : Int.tmod t 64 = ((t.toNat % 64 : Nat) : Int) := by
  rw [Int.tmod_eq_emod_of_nonneg h0]; omega
set_option maxHeartbeats 1000000 in
set_option maxRecDepth 100000 in
theorem clear_any (b p mb : Nat) (c : Clk) (id : Int) (w : World) (h : WRep w b p mb c) : Calls Try.prog 16 #[.pointer (some ⟨p, 0, none⟩), .int .i64 id] w fun e w' => e = .returned (.bool (c.at_ id).isSome) ∧ WRep w' b p mb (c.clear id) ∧ Only (InW b) w w' ∧ w'.heap.size = w.heap.size := by
  have h1 := h.at1
  have hl := h.map.rep.lookup_ok keyI64 Try.underlying35 (zeroInt w) id
  rw [atF_get, atF_is] at hl
  obtain ⟨t, ht⟩ : ∃ t, (c.at_ id).getD 0 = t := ⟨_, rfl⟩
  have ht0 : 0 ≤ t := by
    rw [← ht]
    cases hc : c.at_ id with
    | none => simp
    | some u => have := h.ok.at_ id u hc; simp; omega
  have hm := mod64 t ht0
  obtain ⟨k, hk⟩ : ∃ k, t.toNat % 64 = k := ⟨_, rfl⟩
  have hk64 : k < 64 := by omega
  rw [hk] at hm
  obtain ⟨w2, hd, hm2, ho2, hs2⟩ := h.map.delete (ut := 2) (ty := 0) keyI64 Try.underlying35 id
  have hms := h.ms
  have hps := h.ps
  have hne := h.ne
  obtain ⟨w3, hd3, hm3, ho3, hs3⟩ := ((h.slot k hk64).only ho2 (by omega)).delete (ut := 2) (ty := 0) keyI64 Try.underlying46 id
  have hc2 : w2.cell? ⟨p, 2 + k, none⟩ = some (.map (some (b + 2 + k))) := by
    have := (h.blk.only ho2 hne).cell (2 + k)
    rw [wcells_slot _ _ _ k hk64] at this
    exact this
  have hkz : (k : Int) < 64 := by omega
  have hky : (0 : Int) ≤ (k : Int) := by omega
  rw [ht] at hl
  simp only [i64V] at hl hd hd3
  have HE := Lib.hid (And.intro (h.cleared id k (by rw [ht]; exact hk) hm2 ho2 hm3 ho3) (And.intro ((ho2.mono (T := InW b) (fun x _ e => by unfold InW; omega)).trans (ho3.mono (T := InW b) (fun x _ e => by unfold InW; omega))) (hs3.trans hs2)))
  obtain ⟨f, hf⟩ : ∃ f, (c.at_ id).isSome = f := ⟨_, rfl⟩
  rw [hf] at hl ⊢
  clear h ht hk hm2 ho2 hs2 hm3 ho3 hs3 hms hps hne hf
  go_enter Try.func16, Try.ntmps16
  go_wp2
  go_ret
  exact ⟨rfl, HE.out⟩
set_option maxHeartbeats 1000000 in
set_option maxRecDepth 100000 in
theorem set_any (b p mb : Nat) (c : Clk) (id a : Int) (w : World) (h : WRep w b p mb c) : Calls Try.prog 11 #[.pointer (some ⟨p, 0, none⟩), .int .i64 id, .int .i64 a] w fun e w' => e = .returned (.tuple #[]) ∧ WRep w' b p mb (c.set id a) ∧ Only (InW b) w w' ∧ w'.heap.size = w.heap.size := by
  have h0 := h.now0
  have hok := Lib.hid h.ok
  have HW := Lib.hid h
  clear h
  obtain ⟨M, hM⟩ : ∃ M, (if a < c.now then c.now else a) = M := ⟨_, rfl⟩
  obtain ⟨A, hmn⟩ : ∃ A, (if 1099511627776 < M then 1099511627776 else M) = A := ⟨_, rfl⟩
  have hA : c.when a = A := by
    rw [← hmn, ← hM]
    unfold Clk.when maxT
    split <;> split <;> omega
  have hA1 := Clk.when_in hok.out a
  have hA0 : 0 ≤ A := by have := hok.out.lo; rw [hA] at hA1; omega
  have HA := Lib.hid (And.intro hA hA0)
  clear hA hA0 hA1
  go_enter Try.func11, Try.ntmps11
  go_wp2_with fail
  refine (clear_any b p mb c id w HW.out).mono ?_
  rintro e w1 ⟨rfl, h1, ho1, hs1⟩
  have hA := HA.out.1
  have hA0 := HA.out.2
  have h11 := h1.at1
  have hm := mod64 A hA0
  obtain ⟨k, hk⟩ : ∃ k, A.toNat % 64 = k := ⟨_, rfl⟩
  have hk64 : k < 64 := by omega
  rw [hk] at hm
  have hwhen : (c.clear id).when a = A := hA
  obtain ⟨w2, hd, hm2, ho2, hs2⟩ := h1.map.update keyI64 Try.underlying35 id (.int .i64 A)
  have hms := h1.ms
  have hps := h1.ps
  have hne := h1.ne
  obtain ⟨w3, hd3, hm3, ho3, hs3⟩ := ((h1.slot k hk64).only ho2 (by omega)).update keyI64 Try.underlying46 id (.bool true)
  have hc2 : w2.cell? ⟨p, 2 + k, none⟩ = some (.map (some (b + 2 + k))) := by
    have := (h1.blk.only ho2 hne).cell (2 + k)
    rw [wcells_slot _ _ _ k hk64] at this
    exact this
  have hkz : (k : Int) < 64 := by omega
  have hky : (0 : Int) ≤ (k : Int) := by omega
  simp only [i64V] at hd hd3
  have hfin := h1.setted id a k (by rw [hwhen]; exact hk) (by simp [Clk.clear]) (by rw [hwhen]; exact hm2) ho2 hm3 ho3
  rw [Clk.set_clear] at hfin
  have HE := Lib.hid (And.intro hfin (And.intro ((ho1.trans (ho2.mono (T := InW b) (fun x _ e => by unfold InW; omega))).trans (ho3.mono (T := InW b) (fun x _ e => by unfold InW; omega))) ((hs3.trans hs2).trans hs1)))
  clear h1 ho1 hs1 hA hA0 hk hm2 ho2 hs2 hm3 ho3 hs3 hms hps hne hfin hwhen h0 hmn hM
  go_wp2
  go_end0
  exact ⟨rfl, HE.out⟩
end Go.Proofs.Ytlhlbedbfjanhaa
