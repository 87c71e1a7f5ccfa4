/- A tick's list: from slot to slot, then sorted. Plain: no program in sight. -/
import Derived.Test.YtlhlbedbfjanhaaClP
import Derived.Shelf.SlSortCmp.NoneTotal
namespace Go.Proofs.Ytlhlbedbfjanhaa
open Go.Sort

def winB (c : Clk) (nx : Int) (i : Nat) (k : Int) : Bool := match c.at_ k with
  | some t => decide (t ≤ nx) && decide ((t - c.now).toNat % 64 < i)
  | none => false
theorem win_zero (c : Clk) (nx : Int) (k : Int) : winB c nx 0 k = false := by
  unfold winB
  split <;> simp
theorem win_succ {c : Clk} (h : c.OK) (nx : Int) (i : Nat) (hi : i < 64) (k : Int) :
    winB c nx (i + 1) k = (winB c nx i k || match c.at_ k with | some t => decide (t ≤ nx) && decide (t.toNat % 64 = (c.now.toNat + i) % 64) | none => false) := by
  unfold winB
  cases hc : c.at_ k with
  | none => rfl
  | some t =>
    have h1 := h.at_ k t hc
    have h0 := h.lo
    simp only
    rw [← Bool.and_or_distrib_left]
    congr 1
    rw [Bool.eq_iff_iff]
    simp only [decide_eq_true_eq, Bool.or_eq_true]
    obtain ⟨a, ha⟩ : ∃ a : Nat, c.now = a := ⟨c.now.toNat, by omega⟩
    obtain ⟨u, hu⟩ : ∃ u : Nat, t = (a + u : Nat) := ⟨(t - a).toNat, by omega⟩
    rw [ha, hu]
    have e1 : (((a + u : Nat) : Int) - (a : Int)).toNat = u := by omega
    have e2 : ((a + u : Nat) : Int).toNat = a + u := rfl
    have e3 : (a : Int).toNat = a := rfl
    rw [e1, e2, e3]
    omega
theorem win_disj {c : Clk} (h : c.OK) (nx : Int) (i : Nat) (hi : i < 64) (k : Int) (hw : winB c nx i k = true) : ¬ ∃ t, c.at_ k = some t ∧ t.toNat % 64 = (c.now.toNat + i) % 64 := by
  rintro ⟨t, hc, hm⟩
  unfold winB at hw
  rw [hc] at hw
  simp only [Bool.and_eq_true, decide_eq_true_eq] at hw
  have h1 := h.at_ k t hc
  have h0 := h.lo
  obtain ⟨a, ha⟩ : ∃ a : Nat, c.now = a := ⟨c.now.toNat, by omega⟩
  obtain ⟨u, hu⟩ : ∃ u : Nat, t = (a + u : Nat) := ⟨(t - a).toNat, by omega⟩
  rw [ha, hu] at hw hm
  have e1 : (((a + u : Nat) : Int) - (a : Int)).toNat = u := by omega
  have e2 : ((a + u : Nat) : Int).toNat = a + u := rfl
  have e3 : (a : Int).toNat = a := rfl
  rw [e1] at hw
  rw [e2, e3] at hm
  omega
theorem win_end {c : Clk} (h : c.OK) (nx : Int) (hn : c.now ≤ nx) (k : Int) : winB c nx (min (nx - c.now).toNat 63 + 1) k = isDue nx (c.at_ k) := by
  unfold winB isDue
  cases hc : c.at_ k with
  | none => rfl
  | some t =>
    have h1 := h.at_ k t hc
    simp only
    rw [Bool.eq_iff_iff]
    simp only [Bool.and_eq_true, decide_eq_true_eq]
    constructor
    · exact fun h => h.1
    · intro h2
      refine ⟨h2, ?_⟩
      have h3 : (t - c.now).toNat ≤ (nx - c.now).toNat := by omega
      generalize (t - c.now).toNat = u at h3 ⊢
      generalize (nx - c.now).toNat = v at h3 ⊢
      omega

/-- what the sort is told of two. -/
def icmpI (a b : Int) : Int := if a < b then -1 else if b < a then 1 else 0
def cmpC (m : Int → Option Int) (a b : Int) : Int := if icmpI ((m a).getD 0) ((m b).getD 0) = 0 then icmpI a b else icmpI ((m a).getD 0) ((m b).getD 0)
theorem icmpI_lt (a b : Int) : icmpI a b < 0 ↔ a < b := by
  unfold icmpI
  by_cases h1 : a < b
  · simp [h1]
  · by_cases h2 : b < a <;> simp [h1, h2]
theorem icmpI_zero (a b : Int) : icmpI a b = 0 ↔ a = b := by
  unfold icmpI
  by_cases h1 : a < b
  · simp [h1]; omega
  · by_cases h2 : b < a
    · simp [h1, h2]; omega
    · simp [h1, h2]; omega
theorem ltOf_cmpC (m : Int → Option Int) (a b : Int) : ltOf (cmpC m) a b = decide (ahead m a b) := by
  unfold ltOf cmpC
  rw [Bool.eq_iff_iff, decide_eq_true_eq, decide_eq_true_eq]
  unfold ahead
  by_cases h : icmpI ((m a).getD 0) ((m b).getD 0) = 0
  · rw [if_pos h, icmpI_lt]
    rw [icmpI_zero] at h
    omega
  · rw [if_neg h, icmpI_lt]
    rw [icmpI_zero] at h
    omega
theorem swoC (m : Int → Option Int) : SWO (ltOf (cmpC m)) where
  irrefl x := by rw [ltOf_cmpC]; simp [ahead_irrefl]
  trans x y z h1 h2 := by
    rw [ltOf_cmpC, decide_eq_true_eq] at *
    exact ahead_trans h1 h2
  ntrans x y z h1 h2 := by
    rw [ltOf_cmpC] at *
    simp only [decide_eq_false_iff_not] at *
    intro h
    unfold ahead at *
    omega
theorem totC (m : Int → Option Int) (x y : Int) (h1 : ltOf (cmpC m) x y = false) (h2 : ltOf (cmpC m) y x = false) : x = y := by
  rw [ltOf_cmpC, decide_eq_false_iff_not] at h1 h2
  exact ahead_total h1 h2
def sortC (m : Int → Option Int) (l : List Int) : List Int := l.mergeSort fun x y => !(ltOf (cmpC m)) y x
theorem sortC_due {m : Int → Option Int} {now : Int} {l : List Int} (hn : l.Nodup) (hm : ∀ k, k ∈ l ↔ isDue now (m k) = true) : DueL m now (sortC m l) := by
  have hp : (sortC m l).Perm l := List.mergeSort_perm l _
  refine ⟨?_, fun k => by rw [hp.mem_iff, hm]⟩
  have h1 : (sortC m l).Pairwise fun x y => (!(ltOf (cmpC m)) y x) = true := by
    refine List.pairwise_mergeSort ?_ ?_ l
    · intro a b c h1 h2
      simp only [ltOf_cmpC, Bool.not_eq_true', decide_eq_false_iff_not] at h1 h2 ⊢
      unfold ahead at *
      omega
    · intro a b
      simp only [ltOf_cmpC, Bool.or_eq_true, Bool.not_eq_true', decide_eq_false_iff_not]
      unfold ahead
      omega
  have h2 : (sortC m l).Nodup := hp.nodup_iff.2 hn
  refine (h1.and h2).imp fun {x y} h => ?_
  obtain ⟨h3, h4⟩ := h
  rw [ltOf_cmpC, Bool.not_eq_true', decide_eq_false_iff_not] at h3
  rcases Decidable.em (ahead m x y) with h5 | h5
  · exact h5
  · exact absurd (ahead_total h5 h3) h4
theorem sortC_length (m : Int → Option Int) (l : List Int) : (sortC m l).length = l.length := (List.mergeSort_perm l _).length_eq
end Go.Proofs.Ytlhlbedbfjanhaa
