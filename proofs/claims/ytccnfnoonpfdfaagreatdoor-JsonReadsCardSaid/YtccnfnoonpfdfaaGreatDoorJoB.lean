/- The law's digits (printed by wip/gen_job.py). -/
import Derived.Test.YtccnfnoonpfdfaaGreatDoorJnV
namespace Go.Proofs.YtccnfnoonpfdfaaGreatDoor
open Go.Shelf Go.RowKit Go.Lib

def DgC (n : Int) (s : BL) : Prop := ∀ w, Calls Tryz.prog 28 #[.int .i64 n] w fun e w' => e = .returned (.string (BA s)) ∧ w' = w
theorem dig_ext : ∀ k : Nat, k < 10 → (⟨#[48, 49, 50, 51, 52, 53, 54, 55, 56, 57]⟩ : ByteArray).extract k (k + 1) = BA (digN k) := by
  intro k hk
  have e : digN k = [UInt8.ofNat (48 + k)] := by rw [digN, if_pos hk]
  rw [e]
  rcases (show k = 0 ∨ k = 1 ∨ k = 2 ∨ k = 3 ∨ k = 4 ∨ k = 5 ∨ k = 6 ∨ k = 7 ∨ k = 8 ∨ k = 9 by omega) with rfl | rfl | rfl | rfl | rfl | rfl | rfl | rfl | rfl | rfl <;> rfl
theorem digN_small (m : Nat) (h : m ≤ 9223372036854775808) : (digN m).length ≤ 20 := by
  have := digN_len m 18 (by have : (10 : Nat) ^ 19 = 10000000000000000000 := rfl; omega)
  omega
set_option maxHeartbeats 4000000 in
set_option maxRecDepth 100000 in
theorem digit_any (k : Nat) (hk : k < 10) : DgC (k : Int) (digN k) := by
  intro w
  have h1 : (0 : Int) ≤ (k : Int) := by omega
  have h2 : (k : Int) < 10 := by omega
  have h3 : IntKind.i64.wrap ((k : Int) + 1) = ((k + 1 : Nat) : Int) := by rw [IntKind.wrap_i64]; omega
  have h4 : (k : Int) + 1 ≤ 10 := by omega
  have HE := Lib.hid (dig_ext k hk)
  go_enter Tryz.func28, Tryz.ntmps28
  go_wp2
  go_ret
  exact ⟨by rw [HE.out]; rfl, rfl⟩
set_option maxHeartbeats 4000000 in
set_option maxRecDepth 100000 in
theorem digits_nat (m : Nat) : m ≤ 9223372036854775807 → DgC (m : Int) (digN m) := by
  induction m using Nat.strongRecOn with
  | _ m ih =>
    intro hm
    by_cases h10 : m < 10
    · exact digit_any m h10
    · intro w
      have HA := Lib.hid (And.intro (ih (m / 10) (by omega) (by omega) w) (digit_any (m % 10) (by omega) w))
      have h1 : (0 : Int) ≤ (m : Int) := by omega
      have h2 : ¬ (m : Int) < 10 := by omega
      have h2' : (0 : Int) < (m : Int) := by omega
      obtain ⟨q, hq⟩ : ∃ q, m / 10 = q := ⟨_, rfl⟩
      obtain ⟨r, hr⟩ : ∃ r, m % 10 = r := ⟨_, rfl⟩
      have h3 : IntKind.i64.wrap ((m : Int).tdiv 10) = (q : Int) := by rw [Int.tdiv_eq_ediv_of_nonneg h1, IntKind.wrap_i64]; omega
      have h3' : (m : Int).tdiv 10 = (q : Int) := by rw [Int.tdiv_eq_ediv_of_nonneg h1]; omega
      have h4 : (m : Int).tmod 10 = (r : Int) := by rw [Int.tmod_eq_emod_of_nonneg h1]; omega
      have h5 : IntKind.i64.wrap (q : Int) = (q : Int) := by rw [IntKind.wrap_i64]; omega
      have HD : digN m = digN q ++ digN r := by
        rw [digN, if_neg h10, hq, hr]
        congr 1
        rw [digN, if_pos (by omega)]
      rw [hq, hr] at HA
      have HD2 := Lib.hid HD
      obtain ⟨A, hA⟩ : ∃ A, BA (digN q) = A := ⟨_, rfl⟩
      obtain ⟨B, hB⟩ : ∃ B, BA (digN r) = B := ⟨_, rfl⟩
      have z1 : A.size ≤ 20 := by rw [← hA, ba_size]; exact digN_small q (by omega)
      have z2 : B.size ≤ 20 := by rw [← hB, ba_size]; exact digN_small r (by omega)
      rw [hA, hB] at HA
      have HB := Lib.hid (And.intro hA hB)
      clear hA hB HD hq hr ih
      go_enter Tryz.func28, Tryz.ntmps28
      go_wp2_with fail
      refine (show Calls _ _ _ _ _ from HA.out.1).mono ?_
      rintro e w1 ⟨rfl, rfl⟩
      go_wp2_with fail
      refine (show Calls _ _ _ _ _ from HA.out.2).mono ?_
      rintro e w2 ⟨rfl, rfl⟩
      go_wp2
      go_ret
      exact ⟨by rw [HD2.out, BA_append, HB.out.1, HB.out.2]; rfl, rfl⟩
set_option maxHeartbeats 4000000 in
set_option maxRecDepth 100000 in
theorem digits_neg (m : Nat) : 1 ≤ m → m ≤ 9223372036854775808 → DgC (-(m : Int)) (45 :: digN m) := by
  induction m using Nat.strongRecOn with
  | _ m ih =>
    intro hm1 hm w
    obtain ⟨n, hn⟩ : ∃ n : Int, -(m : Int) = n := ⟨_, rfl⟩
    rw [hn]
    have h1 : ¬ (0 : Int) ≤ n := by omega
    have h2' : ¬ (0 : Int) < n := by omega
    by_cases h10 : m < 10
    · have HA := Lib.hid (digit_any m h10 w)
      have h2 : (-10 : Int) < n := by omega
      have h3 : IntKind.i64.wrap (-n) = (m : Int) := by rw [IntKind.wrap_i64]; omega
      obtain ⟨A, hA⟩ : ∃ A, BA (digN m) = A := ⟨_, rfl⟩
      have z1 : A.size ≤ 20 := by rw [← hA, ba_size]; exact digN_small m (by omega)
      rw [hA] at HA
      have HB := Lib.hid hA
      clear hA hn ih
      go_enter Tryz.func28, Tryz.ntmps28
      go_wp2_with fail
      refine (show Calls _ _ _ _ _ from HA.out).mono ?_
      rintro e w1 ⟨rfl, rfl⟩
      go_wp2
      go_ret
      exact ⟨by rw [show (45 :: digN m : BL) = [45] ++ digN m from rfl, BA_append, HB.out]; rfl, rfl⟩
    · have HA := Lib.hid (And.intro (ih (m / 10) (by omega) (by omega) (by omega) w) (digit_any (m % 10) (by omega) w))
      have h2 : ¬ (-10 : Int) < n := by omega
      obtain ⟨q, hq⟩ : ∃ q, m / 10 = q := ⟨_, rfl⟩
      obtain ⟨r, hr⟩ : ∃ r, m % 10 = r := ⟨_, rfl⟩
      have hdn : n.tdiv 10 = -(q : Int) := by rw [← hn, Int.neg_tdiv, Int.tdiv_eq_ediv_of_nonneg (by omega)]; omega
      have hmn : n.tmod 10 = -(r : Int) := by rw [← hn, Int.neg_tmod, Int.tmod_eq_emod_of_nonneg (by omega)]; omega
      obtain ⟨nq, hnq⟩ : ∃ z : Int, -(q : Int) = z := ⟨_, rfl⟩
      obtain ⟨nr, hnr⟩ : ∃ z : Int, -(r : Int) = z := ⟨_, rfl⟩
      rw [hnq] at hdn
      rw [hnr] at hmn
      have h3 : IntKind.i64.wrap nq = nq := by rw [IntKind.wrap_i64]; omega
      have h5 : IntKind.i64.wrap (-nr) = (r : Int) := by rw [IntKind.wrap_i64]; omega
      have HD : digN m = digN q ++ digN r := by
        rw [digN, if_neg h10, hq, hr]
        congr 1
        rw [digN, if_pos (by omega)]
      rw [hq, hr, hnq] at HA
      have HD2 := Lib.hid HD
      obtain ⟨A, hA⟩ : ∃ A, BA (45 :: digN q) = A := ⟨_, rfl⟩
      obtain ⟨B, hB⟩ : ∃ B, BA (digN r) = B := ⟨_, rfl⟩
      have z1 : A.size ≤ 21 := by rw [← hA, ba_size]; have := digN_small q (by omega); simp only [List.length_cons]; omega
      have z2 : B.size ≤ 20 := by rw [← hB, ba_size]; exact digN_small r (by omega)
      rw [hA, hB] at HA
      have HB := Lib.hid (And.intro hA hB)
      clear hA hB HD hq hr ih hn hnq hnr
      go_enter Tryz.func28, Tryz.ntmps28
      go_wp2_with fail
      refine (show Calls _ _ _ _ _ from HA.out.1).mono ?_
      rintro e w1 ⟨rfl, rfl⟩
      go_wp2_with fail
      refine (show Calls _ _ _ _ _ from HA.out.2).mono ?_
      rintro e w2 ⟨rfl, rfl⟩
      go_wp2
      go_ret
      exact ⟨by rw [HD2.out, show (45 :: (digN q ++ digN r) : BL) = (45 :: digN q) ++ digN r from rfl, BA_append, HB.out.1, HB.out.2]; rfl, rfl⟩
theorem digits_any (n : Int) (h : -9223372036854775808 ≤ n ∧ n ≤ 9223372036854775807) : DgC n (intL n) := by
  unfold intL
  split
  · have := digits_neg (-n).toNat (by omega) (by omega)
    rw [show -((-n).toNat : Int) = n by omega] at this
    exact this
  · have := digits_nat n.toNat (by omega)
    rw [show (n.toNat : Int) = n by omega] at this
    exact this
end Go.Proofs.YtccnfnoonpfdfaaGreatDoor
