/- The law's digits and units. -/
import Derived.Test.YthlioinmeimhoaaDoorTxM
namespace Go.Proofs.YthlioinmeimhoaaDoor
open Go.Shelf Go.RowKit Go.Lib

set_option maxHeartbeats 4000000 in
set_option maxRecDepth 100000 in
theorem hex_any (c : Nat) (w : World) (hc : c < 256) :
    Calls Tryd.prog 100 #[.int .u8 c] w fun e w' => e = .returned (.int .i64 (hexV c)) ∧ w' = w := by
  by_cases h0 : c < 48
  · have hv : hexV c = -1 := by unfold hexV; rw [if_neg (by omega), if_neg (by omega), if_neg (by omega)]
    have g48 : decide ((48 : Int) ≤ (c : Int)) = false := decide_eq_false (by omega)
    have j48 : ¬ (48 : Int) ≤ (c : Int) := by omega
    have g97 : decide ((97 : Int) ≤ (c : Int)) = false := decide_eq_false (by omega)
    have j97 : ¬ (97 : Int) ≤ (c : Int) := by omega
    have g65 : decide ((65 : Int) ≤ (c : Int)) = false := decide_eq_false (by omega)
    have j65 : ¬ (65 : Int) ≤ (c : Int) := by omega
    have g57 : decide ((c : Int) ≤ (57 : Int)) = true := decide_eq_true (by omega)
    have j57 : (c : Int) ≤ (57 : Int) := by omega
    have g102 : decide ((c : Int) ≤ (102 : Int)) = true := decide_eq_true (by omega)
    have j102 : (c : Int) ≤ (102 : Int) := by omega
    have g70 : decide ((c : Int) ≤ (70 : Int)) = true := decide_eq_true (by omega)
    have j70 : (c : Int) ≤ (70 : Int) := by omega
    rw [hv]
    clear hv h0
    go_enter Tryd.func100, Tryd.ntmps100
    go_wp2
    go_ret
    exact ⟨rfl, rfl⟩
  by_cases h1 : 48 ≤ c ∧ c ≤ 57
  · have hv : hexV c = (c : Int) - 48 := by unfold hexV; rw [if_pos (by omega)]
    have g48 : decide ((48 : Int) ≤ (c : Int)) = true := decide_eq_true (by omega)
    have j48 : (48 : Int) ≤ (c : Int) := by omega
    have g97 : decide ((97 : Int) ≤ (c : Int)) = false := decide_eq_false (by omega)
    have j97 : ¬ (97 : Int) ≤ (c : Int) := by omega
    have g65 : decide ((65 : Int) ≤ (c : Int)) = false := decide_eq_false (by omega)
    have j65 : ¬ (65 : Int) ≤ (c : Int) := by omega
    have g57 : decide ((c : Int) ≤ (57 : Int)) = true := decide_eq_true (by omega)
    have j57 : (c : Int) ≤ (57 : Int) := by omega
    have g102 : decide ((c : Int) ≤ (102 : Int)) = true := decide_eq_true (by omega)
    have j102 : (c : Int) ≤ (102 : Int) := by omega
    have g70 : decide ((c : Int) ≤ (70 : Int)) = true := decide_eq_true (by omega)
    have j70 : (c : Int) ≤ (70 : Int) := by omega
    rw [hv]
    clear hv h0 h1
    go_enter Tryd.func100, Tryd.ntmps100
    go_wp2
    go_ret
    exact ⟨rfl, rfl⟩
  by_cases h2 : 57 < c ∧ c < 65
  · have hv : hexV c = -1 := by unfold hexV; rw [if_neg (by omega), if_neg (by omega), if_neg (by omega)]
    have g48 : decide ((48 : Int) ≤ (c : Int)) = true := decide_eq_true (by omega)
    have j48 : (48 : Int) ≤ (c : Int) := by omega
    have g97 : decide ((97 : Int) ≤ (c : Int)) = false := decide_eq_false (by omega)
    have j97 : ¬ (97 : Int) ≤ (c : Int) := by omega
    have g65 : decide ((65 : Int) ≤ (c : Int)) = false := decide_eq_false (by omega)
    have j65 : ¬ (65 : Int) ≤ (c : Int) := by omega
    have g57 : decide ((c : Int) ≤ (57 : Int)) = false := decide_eq_false (by omega)
    have j57 : ¬ (c : Int) ≤ (57 : Int) := by omega
    have g102 : decide ((c : Int) ≤ (102 : Int)) = true := decide_eq_true (by omega)
    have j102 : (c : Int) ≤ (102 : Int) := by omega
    have g70 : decide ((c : Int) ≤ (70 : Int)) = true := decide_eq_true (by omega)
    have j70 : (c : Int) ≤ (70 : Int) := by omega
    rw [hv]
    clear hv h0 h1 h2
    go_enter Tryd.func100, Tryd.ntmps100
    go_wp2
    go_ret
    exact ⟨rfl, rfl⟩
  by_cases h3 : 65 ≤ c ∧ c ≤ 70
  · have hv : hexV c = (c : Int) - 55 := by unfold hexV; rw [if_neg (by omega), if_neg (by omega), if_pos (by omega)]
    have g48 : decide ((48 : Int) ≤ (c : Int)) = true := decide_eq_true (by omega)
    have j48 : (48 : Int) ≤ (c : Int) := by omega
    have g97 : decide ((97 : Int) ≤ (c : Int)) = false := decide_eq_false (by omega)
    have j97 : ¬ (97 : Int) ≤ (c : Int) := by omega
    have g65 : decide ((65 : Int) ≤ (c : Int)) = true := decide_eq_true (by omega)
    have j65 : (65 : Int) ≤ (c : Int) := by omega
    have g57 : decide ((c : Int) ≤ (57 : Int)) = false := decide_eq_false (by omega)
    have j57 : ¬ (c : Int) ≤ (57 : Int) := by omega
    have g102 : decide ((c : Int) ≤ (102 : Int)) = true := decide_eq_true (by omega)
    have j102 : (c : Int) ≤ (102 : Int) := by omega
    have g70 : decide ((c : Int) ≤ (70 : Int)) = true := decide_eq_true (by omega)
    have j70 : (c : Int) ≤ (70 : Int) := by omega
    rw [hv]
    clear hv h0 h1 h2 h3
    go_enter Tryd.func100, Tryd.ntmps100
    go_wp2
    go_ret
    exact ⟨ret_int (by omega), rfl⟩
  by_cases h4 : 70 < c ∧ c < 97
  · have hv : hexV c = -1 := by unfold hexV; rw [if_neg (by omega), if_neg (by omega), if_neg (by omega)]
    have g48 : decide ((48 : Int) ≤ (c : Int)) = true := decide_eq_true (by omega)
    have j48 : (48 : Int) ≤ (c : Int) := by omega
    have g97 : decide ((97 : Int) ≤ (c : Int)) = false := decide_eq_false (by omega)
    have j97 : ¬ (97 : Int) ≤ (c : Int) := by omega
    have g65 : decide ((65 : Int) ≤ (c : Int)) = true := decide_eq_true (by omega)
    have j65 : (65 : Int) ≤ (c : Int) := by omega
    have g57 : decide ((c : Int) ≤ (57 : Int)) = false := decide_eq_false (by omega)
    have j57 : ¬ (c : Int) ≤ (57 : Int) := by omega
    have g102 : decide ((c : Int) ≤ (102 : Int)) = true := decide_eq_true (by omega)
    have j102 : (c : Int) ≤ (102 : Int) := by omega
    have g70 : decide ((c : Int) ≤ (70 : Int)) = false := decide_eq_false (by omega)
    have j70 : ¬ (c : Int) ≤ (70 : Int) := by omega
    rw [hv]
    clear hv h0 h1 h2 h3 h4
    go_enter Tryd.func100, Tryd.ntmps100
    go_wp2
    go_ret
    exact ⟨rfl, rfl⟩
  by_cases h5 : 97 ≤ c ∧ c ≤ 102
  · have hv : hexV c = (c : Int) - 87 := by unfold hexV; rw [if_neg (by omega), if_pos (by omega)]
    have g48 : decide ((48 : Int) ≤ (c : Int)) = true := decide_eq_true (by omega)
    have j48 : (48 : Int) ≤ (c : Int) := by omega
    have g97 : decide ((97 : Int) ≤ (c : Int)) = true := decide_eq_true (by omega)
    have j97 : (97 : Int) ≤ (c : Int) := by omega
    have g65 : decide ((65 : Int) ≤ (c : Int)) = true := decide_eq_true (by omega)
    have j65 : (65 : Int) ≤ (c : Int) := by omega
    have g57 : decide ((c : Int) ≤ (57 : Int)) = false := decide_eq_false (by omega)
    have j57 : ¬ (c : Int) ≤ (57 : Int) := by omega
    have g102 : decide ((c : Int) ≤ (102 : Int)) = true := decide_eq_true (by omega)
    have j102 : (c : Int) ≤ (102 : Int) := by omega
    have g70 : decide ((c : Int) ≤ (70 : Int)) = false := decide_eq_false (by omega)
    have j70 : ¬ (c : Int) ≤ (70 : Int) := by omega
    rw [hv]
    clear hv h0 h1 h2 h3 h4 h5
    go_enter Tryd.func100, Tryd.ntmps100
    go_wp2
    go_ret
    exact ⟨ret_int (by omega), rfl⟩
  have h6 : 102 < c := by omega
  have hv : hexV c = -1 := by unfold hexV; rw [if_neg (by omega), if_neg (by omega), if_neg (by omega)]
  have g48 : decide ((48 : Int) ≤ (c : Int)) = true := decide_eq_true (by omega)
  have j48 : (48 : Int) ≤ (c : Int) := by omega
  have g97 : decide ((97 : Int) ≤ (c : Int)) = true := decide_eq_true (by omega)
  have j97 : (97 : Int) ≤ (c : Int) := by omega
  have g65 : decide ((65 : Int) ≤ (c : Int)) = true := decide_eq_true (by omega)
  have j65 : (65 : Int) ≤ (c : Int) := by omega
  have g57 : decide ((c : Int) ≤ (57 : Int)) = false := decide_eq_false (by omega)
  have j57 : ¬ (c : Int) ≤ (57 : Int) := by omega
  have g102 : decide ((c : Int) ≤ (102 : Int)) = false := decide_eq_false (by omega)
  have j102 : ¬ (c : Int) ≤ (102 : Int) := by omega
  have g70 : decide ((c : Int) ≤ (70 : Int)) = false := decide_eq_false (by omega)
  have j70 : ¬ (c : Int) ≤ (70 : Int) := by omega
  rw [hv]
  clear hv h0 h1 h2 h3 h4 h5 h6
  go_enter Tryd.func100, Tryd.ntmps100
  go_wp2
  go_ret
  exact ⟨rfl, rfl⟩

set_option maxHeartbeats 4000000 in
set_option maxRecDepth 100000 in
theorem unit_law (s : ByteArray) (at_ : Nat) (w : World) (hat : at_ ≤ 1099511627776) :
    Calls Tryd.prog 82 #[.string s, .int .i64 at_] w fun e w' => e = .returned (.int .i64 (fourL (s.data.toList.drop at_))) ∧ Below w.heap.size w w' := by
  obtain ⟨D, hD⟩ : ∃ D, s.data.toList.drop at_ = D := ⟨_, rfl⟩
  have hDl : D.length = s.size - at_ := by rw [← hD, List.length_drop, ← size_eq]
  have hget : ∀ j, D.getD j 0 = s.get! (at_ + j) := fun j => by rw [← hD, getD_drop0, getD_get!']
  rw [hD]
  clear hD
  have HG := Lib.hid hget
  clear hget
  have hw4 : IntKind.i64.wrap ((at_ : Int) + 4) = ((at_ + 4 : Nat) : Int) := by rw [IntWalk.i64_in _ (by omega)]; omega
  go_enter Tryd.func82, Tryd.ntmps82
  go_wp2
  go_loopg [5, 6] 4 (fun gk nv iv wr => ∃ j : Nat, gk + j = 4 ∧ iv = .int .i64 ((at_ + j : Nat) : Int) ∧ nv = .int .i64 (valN D j) ∧ (∀ k, k < j → 0 ≤ hv D k) ∧ Below w.heap.size w wr)
  case atStart => exact ⟨0, rfl, rfl, rfl, fun k hk => by omega, Below.refl _ _⟩
  case round =>
    obtain ⟨j, hg, rfl, rfl, hok, hbw⟩ := hrel
    have HB := Lib.hid (And.intro hok hbw)
    clear hok hbw
    obtain ⟨I, hI⟩ : ∃ I, at_ + j = I := ⟨_, rfl⟩
    simp only [hI]
    by_cases hj : j < 4
    · have hlt : (I : Int) < ((at_ + 4 : Nat) : Int) := by omega
      have hwI : IntKind.i64.wrap ((I : Int) + 1) = ((I + 1 : Nat) : Int) := by rw [IntWalk.i64_in _ (by omega)]; omega
      by_cases hs : I < s.size
      · have hsz : ¬ (s.size : Int) ≤ (I : Int) := by omega
        have hsz2 : decide ((s.size : Int) ≤ (I : Int)) = false := decide_eq_false hsz
        have hsz3 : (I : Int) < (s.size : Int) := by omega
        obtain ⟨b, hb⟩ : ∃ b, s[I]'hs = b := ⟨_, rfl⟩
        have hbv : hv D j = hexV b.toNat := by unfold hv; rw [HG.out j, hI, Utf8W.get!_of_lt s I hs, hb]
        have hr := valN_range D j HB.out.1
        have cH := fun W => hex_any b.toNat W b.toNat_lt
        have hle := hexV_le b.toNat
        obtain ⟨V, hV⟩ : ∃ V, hexV b.toNat = V := ⟨_, rfl⟩
        obtain ⟨N, hN⟩ : ∃ N, valN D j = N := ⟨_, rfl⟩
        simp only [hV] at cH
        rw [hV] at hbv hle
        rw [hN] at hr
        simp only [hN]
        have hN4 : N < 4096 := by
          have : (16 : Int) ^ j ≤ 4096 := by
            match j, hj with
            | 0, _ => decide
            | 1, _ => decide
            | 2, _ => decide
            | 3, _ => decide
          omega
        have hN0 := hr.1
        have HH := Lib.hid (And.intro hN hbv)
        clear hN hbv hr hV
        by_cases hneg : V < 0
        · have d1 : decide (V < 0) = true := decide_eq_true hneg
          go_wp2_with fail
          refine (cH _).mono ?_
          rintro e w2 ⟨rfl, rfl⟩
          go_wp2
          go_ret
          rw [four_bad D j hj (by rw [HH.out.2]; exact hneg)]
          exact ⟨rfl, HB.out.2⟩
        · have d1 : decide (V < 0) = false := decide_eq_false hneg
          have hw1 : IntKind.i64.wrap (N * 16) = N * 16 := IntWalk.i64_in _ (by omega)
          have hw2 : IntKind.i64.wrap (N * 16 + V) = N * 16 + V := IntWalk.i64_in _ (by omega)
          go_wp2_with fail
          refine (cH _).mono ?_
          rintro e w2 ⟨rfl, rfl⟩
          go_wp2_with fail
          refine (cH _).mono ?_
          rintro e w3 ⟨rfl, rfl⟩
          go_wp2
          go_roundg (gk - 1)
          case rel =>
            refine ⟨j + 1, by omega, ?_, ?_, ?_, HB.out.2⟩
            · rw [← hI]; rfl
            · show Value.int .i64 _ = .int .i64 (valN D j * 16 + hv D j)
              rw [HH.out.1, HH.out.2]
            · intro k hk
              by_cases hkj : k = j
              · rw [hkj, HH.out.2]; omega
              · exact HB.out.1 k (by omega)
          case measure => omega
      · have hsz : (s.size : Int) ≤ (I : Int) := by omega
        have hsz2 : decide ((s.size : Int) ≤ (I : Int)) = true := decide_eq_true hsz
        have hf := four_short D j hj (by omega)
        have HF := Lib.hid hf
        clear hf
        go_wp2
        go_ret
        rw [HF.out]
        exact ⟨rfl, HB.out.2⟩
    · obtain rfl : j = 4 := by omega
      have hlt : ¬ (I : Int) < ((at_ + 4 : Nat) : Int) := by omega
      go_wp2
      go_ret
      rw [four_ok D HB.out.1]
      exact ⟨rfl, HB.out.2⟩
end Go.Proofs.YthlioinmeimhoaaDoor
