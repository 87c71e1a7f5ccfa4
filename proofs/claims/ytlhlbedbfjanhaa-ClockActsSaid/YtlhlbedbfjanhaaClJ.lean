/- The law's Same; how many have deadlines. -/
import Derived.Test.YtlhlbedbfjanhaaClI
namespace Go.Proofs.Ytlhlbedbfjanhaa
open Go.RowKit

/-- v is a slice that reads as the numbers l. -/
def LRead (w : World) (v : Value) (l : List Int) : Prop :=
  l.length ≤ 9223372036854775806 ∧ ∃ a cap, v = .slice a l.length cap ∧ (0 < l.length → ∃ g, a = some ⟨g, 0, none⟩ ∧ ∀ i (h : i < l.length), w.cell? ⟨g, i, none⟩ = some (.int .i64 l[i]))
theorem LRead.own {w : World} {base : Nat} {v : Value} {l : List Int} (h : w.ownsRow base 2 1 v l.length (i64s l)) (hl : l.length ≤ 1000000) : LRead w v l := by
  refine ⟨by omega, ?_⟩
  have h2 := h
  rcases h.2 with ⟨rfl, h0⟩ | ⟨g, cap, cur, rfl, _⟩
  · exact ⟨none, 0, by rw [h0], fun h => by omega⟩
  · exact ⟨_, cap, rfl, fun _ => ⟨g, rfl, fun i hi => (h2.cellAt i (by omega)).trans (i64s_at l i hi)⟩⟩
theorem LRead.one (w : World) (x : Int) (c : Nat) : LRead (w.alloc (.cells #[.int .i64 x] 2)) (.slice (some ⟨w.heap.size, 0, none⟩) 1 c) [x] := by
  refine ⟨by simp, some ⟨w.heap.size, 0, none⟩, c, rfl, fun _ => ⟨_, rfl, fun i hi => ?_⟩⟩
  have h := heap_alloc_new w (.cells #[.int .i64 x] 2)
  have hi0 : i = 0 := by simp at hi; omega
  subst hi0
  exact (show Blk _ w.heap.size 2 [.int .i64 x] from h).cell 0
theorem LRead.below {w w2 : World} {v : Value} {l : List Int} (h : LRead w v l) (hb : Below w.heap.size w w2) : LRead w2 v l := by
  obtain ⟨h0, a, cap, rfl, h⟩ := h
  refine ⟨h0, a, cap, rfl, fun hl => ?_⟩
  obtain ⟨g, rfl, hc⟩ := h hl
  exact ⟨g, rfl, fun i hi => bcell hb (hc i hi)⟩

theorem few_new : Few Clk.new 0 := ⟨[], Nat.le_refl _, fun k h => by simp [Clk.new] at h⟩
theorem Few.mono {c : Clk} {n m : Nat} (h : Few c n) (hm : n ≤ m) : Few c m := by
  obtain ⟨L, h1, h2⟩ := h
  exact ⟨L, Nat.le_trans h1 hm, h2⟩
theorem Few.set {c : Clk} {n : Nat} (h : Few c n) (id a : Int) : Few (c.set id a) (n + 1) := by
  obtain ⟨L, h1, h2⟩ := h
  refine ⟨id :: L, by simp; omega, fun k hk => ?_⟩
  unfold Clk.set at hk
  simp only at hk
  by_cases e : k = id
  · rw [e]; exact List.mem_cons_self ..
  · rw [if_neg e] at hk
    exact List.mem_cons_of_mem _ (h2 k hk)
theorem Few.less {c d : Clk} {n : Nat} (h : Few c n) (hd : ∀ k, (d.at_ k).isSome = true → (c.at_ k).isSome = true) : Few d n := by
  obtain ⟨L, h1, h2⟩ := h
  exact ⟨L, h1, fun k hk => h2 k (hd k hk)⟩
theorem Few.clear {c : Clk} {n : Nat} (h : Few c n) (id : Int) : Few (c.clear id) n := h.less fun k hk => by
  unfold Clk.clear at hk
  simp only at hk
  split at hk
  · cases hk
  · exact hk
theorem Few.tick {c : Clk} {n : Nat} (h : Few c n) (t : Int) : Few (c.tick t) n := h.less fun k hk => by
  unfold Clk.tick at hk
  simp only at hk
  split at hk
  · cases hk
  · exact hk

theorem list_eq_of {l r : List Int} (hl : l.length = r.length) (h : ∀ j (h1 : j < l.length) (h2 : j < r.length), l[j] = r[j]) : l = r := List.ext_getElem hl h

set_option maxHeartbeats 1000000 in
set_option maxRecDepth 100000 in
theorem csame_any (v1 v2 : Value) (l1 l2 : List Int) (w : World) (h1 : LRead w v1 l1) (h2 : LRead w v2 l2) :
    Calls Try.prog 13 #[v1, v2] w fun e w' => e = .returned (.bool (decide (l1 = l2))) ∧ ∃ n, w' = w.drewN n := by
  obtain ⟨hm, a1, cap1, rfl, hc1⟩ := h1
  obtain ⟨_, a2, cap2, rfl, hc2⟩ := h2
  by_cases hl : l1.length = l2.length
  · obtain ⟨n, hn⟩ : ∃ n, l1.length = n := ⟨_, rfl⟩
    have hn2 : l2.length = n := by rw [← hl]; exact hn
    rw [hn] at hm
    rw [hn, hn2]
    have HC := Lib.hid (And.intro hc1 (And.intro hc2 (And.intro hn hn2)))
    clear hc1 hc2 hn hn2 hl
    go_enter Try.func13, Try.ntmps13
    go_wp2_with fail
    go_loopg [13] n (fun gk iv wr => ∃ (i : Nat) (q : Nat), gk + i = n ∧ iv = .int .i64 i ∧ wr = w.drewN q ∧ Hid (∀ j (h1 : j < l1.length) (h2 : j < l2.length), j < i → l1[j] = l2[j]))
    case atStart => exact ⟨0, 0, by omega, rfl, rfl, Lib.hid fun j _ _ h => absurd h (Nat.not_lt_zero j)⟩
    case round =>
      obtain ⟨i, q, hg, rfl, rfl, HE⟩ := hrel
      by_cases hi : i < n
      · have hiz : (i : Int) < (n : Int) := by omega
        have hwK : IntKind.i64.wrap ((i : Int) + 1) = ((i + 1 : Nat) : Int) := by rw [IntWalk.i64_in _ (by omega)]; omega
        have g1 : i < l1.length := by rw [HC.out.2.2.1]; exact hi
        have g2 : i < l2.length := by rw [HC.out.2.2.2]; exact hi
        obtain ⟨b1, rfl, k1⟩ := HC.out.1 (by omega)
        obtain ⟨b2, rfl, k2⟩ := HC.out.2.1 (by omega)
        have d1 := k1 i g1
        have d2 := k2 i g2
        obtain ⟨x, hx⟩ : ∃ x, l1[i] = x := ⟨_, rfl⟩
        obtain ⟨y, hy⟩ : ∃ y, l2[i] = y := ⟨_, rfl⟩
        rw [hx] at d1
        rw [hy] at d2
        have HX := Lib.hid (And.intro hx hy)
        clear hx hy k1 k2
        by_cases hxy : x = y
        · have hbn : (x != y) = false := by simp [hxy]
          go_wp2
          go_quiet (fail)
          go_wp2
          go_roundg (gk - 1)
          case rel =>
            refine ⟨i + 1, q + nq, by omega, rfl, (by first | rfl | rw [World.drewN_drewN]), Lib.hid fun j h1 h2 hj => ?_⟩
            rcases Nat.lt_or_ge j i with h | h
            · exact HE.out j h1 h2 h
            · obtain rfl : j = i := by omega
              rw [HX.out.1, HX.out.2, hxy]
          case measure => omega
        · have hbn : (x != y) = true := by simp [hxy]
          go_wp2
          go_quiet (fail)
          go_wp2
          go_ret
          refine ⟨ret_bool ?_, ⟨q + nq, by first | rfl | rw [World.drewN_drewN]⟩⟩
          symm
          rw [decide_eq_false_iff_not]
          intro e
          subst e
          exact hxy (HX.out.1.symm.trans HX.out.2)
      · have hiz : ¬ (i : Int) < (n : Int) := by omega
        go_wp2
        go_ret
        refine ⟨ret_bool ?_, ⟨q, rfl⟩⟩
        symm
        rw [decide_eq_true_iff]
        exact list_eq_of (HC.out.2.2.1.trans HC.out.2.2.2.symm) fun j h1 h2 => HE.out j h1 h2 (by have := HC.out.2.2.1; omega)
  · have hne : ¬ l1 = l2 := fun e => hl (by rw [e])
    have hnz : ¬ (l1.length : Int) = (l2.length : Int) := by omega
    have hbn : ((l1.length : Int) != (l2.length : Int)) = true := by simpa using hnz
    obtain ⟨n1, hn1⟩ : ∃ n, l1.length = n := ⟨_, rfl⟩
    obtain ⟨n2, hn2⟩ : ∃ n, l2.length = n := ⟨_, rfl⟩
    have hd : decide (l1 = l2) = false := decide_eq_false hne
    rw [hn1, hn2] at hnz hbn ⊢
    rw [hd]
    clear hc1 hc2 hm hl hne hn1 hn2 hd
    go_enter Try.func13, Try.ntmps13
    go_wp2
    go_ret
    exact ⟨rfl, ⟨0, rfl⟩⟩
end Go.Proofs.Ytlhlbedbfjanhaa
