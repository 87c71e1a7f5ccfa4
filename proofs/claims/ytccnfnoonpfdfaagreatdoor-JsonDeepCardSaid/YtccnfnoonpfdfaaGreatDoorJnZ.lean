/- JsonDeep: the law's walk (printed by wip/gen_jnz.py). -/
import Derived.Test.YtccnfnoonpfdfaaGreatDoorJnY
namespace Go.Proofs.YtccnfnoonpfdfaaGreatDoor
open Go.Shelf Go.RowKit Go.Lib

set_option maxHeartbeats 8000000 in
set_option maxRecDepth 100000 in
theorem jdeep_true (n : Int) (k : Nat) (hk : k < 24) (hn : n.tmod 24 = (k : Int)) (w : World) (hE : EG w) :
    Calls Tryz.prog 5 #[.int .u8 n, .bool true] w fun e w' => e = .returned (.bool true) ∧ Below w.heap.size w w' := by
  have H := Lib.hid hE
  clear hE
  have hwk : IntKind.i64.wrap (k : Int) = (k : Int) := by rw [IntKind.wrap_i64]; omega
  go_enter Tryz.func5, Tryz.ntmps5
  go_wp2_with fail
  refine (jawake_any _ H.out).mono ?_
  rintro e w1 ⟨rfl, hb1⟩
  have H1 := Lib.hid hb1
  clear hb1
  go_wp2_with fail
  go_loopg [8, 9] k (fun gk sv iv wr => ∃ (i : Nat) (X : ByteArray), gk + i = k ∧ sv = .string X ∧ iv = .int .i64 i ∧ X.size ≤ 6 * i + 1 ∧ Hid (X = BA (nestL true i) ∧ Below w.heap.size w wr))
  case atStart => exact ⟨0, _, Nat.add_zero _, rfl, rfl, by decide, Lib.hid ⟨by rw [nest_zero], H1.out⟩⟩
  case round =>
    obtain ⟨i, X, hg, rfl, rfl, hxs, HC⟩ := hrel
    have hx2 : X.size ≤ 200 := by omega
    by_cases hi : i < k
    · have hiz : (i : Int) < (k : Int) := by omega
      have hwK : IntKind.i64.wrap ((i : Int) + 1) = ((i + 1 : Nat) : Int) := by rw [IntWalk.i64_in _ (by omega)]; omega
      go_wp2
      go_roundg (gk - 1)
      case rel =>
        refine ⟨i + 1, _, by omega, rfl, rfl, ?_, Lib.hid ⟨?_, HC.out.2⟩⟩
        · simp only [ByteArray.size_append]
          have e1 : (⟨#[123, 34, 97, 34, 58]⟩ : ByteArray).size = 5 := rfl
          have e2 : (⟨#[125]⟩ : ByteArray).size = 1 := rfl
          omega
        · rw [nest_obj, BA_append, BA_append, HC.out.1]
      case measure => omega
    · have hiz : ¬ (i : Int) < (k : Int) := by omega
      have hik : i = k := by omega
      subst hik
      by_cases h16 : i < 16
      · have hc16 : ¬ (16 : Int) ≤ (i : Int) := by omega
        have hwi : IntKind.i64.wrap ((i : Int) + 1) = (i : Int) + 1 := by rw [IntKind.wrap_i64]; omega
        go_wp2_with fail
        refine (show Calls _ _ _ _ _ from parse_ok (deep_yes true i h16) X HC.out.1.symm wr (H.out.below HC.out.2)).mono ?_
        rintro e w4 ⟨r0, r1, r2, r3, r4, r5, r6, r7, r8, rfl, hy, hb4⟩
        obtain ⟨W4, hW4⟩ : ∃ W, w4.alloc (.cells #[.int .i64 r0, .int .i64 r1, .string r2, .slice r3 r4 r5, .slice r6 r7 r8] 28) = W := ⟨_, rfl⟩
        have hb4a : Below w4.heap.size w4 W4 := by rw [← hW4]; exact (Below.refl _ w4).alloc (Nat.le_refl _) _
        have hd := depth_nest true i (by omega) _ _ _ (hy.later hb4a)
        have H4 := Lib.hid (And.intro hW4 (And.intro (HC.out.2.trans ((hb4.trans (hb4a.mono hb4.size)).mono HC.out.2.size)) hd))
        clear hb4 hb4a hW4 hy hd
        go_wp2_with fail
        rw [H4.out.1]
        refine (show Calls _ _ _ _ _ from H4.out.2.2).mono ?_
        rintro e w5 ⟨rfl, hb5⟩
        have HF := Lib.hid (H4.out.2.1.trans (hb5.mono H4.out.2.1.size))
        clear hb5
        go_wp2
        go_ret
        exact ⟨by first | rfl | simp, HF.out⟩
      · have hc16 : (16 : Int) ≤ (i : Int) := by omega
        go_wp2_with fail
        refine (show Calls _ _ _ _ _ from parse_err (k := 2) (deep_no true i (by omega) hk) X HC.out.1.symm wr (H.out.below HC.out.2)).mono ?_
        rintro e v6 ⟨t6, u6, rfl, hc6, hb6⟩
        obtain ⟨W6, hW6⟩ : ∃ W, v6.alloc (.cells #[.int .i64 0, .int .i64 0, .string ⟨#[]⟩, .slice none 0 0, .slice none 0 0] 28) = W := ⟨_, rfl⟩
        have hb6a : Below v6.heap.size v6 W6 := by rw [← hW6]; exact (Below.refl _ v6).alloc (Nat.le_refl _) _
        have H6 := Lib.hid (And.intro hW6 (And.intro (HC.out.2.trans ((hb6.trans (hb6a.mono hb6.size)).mono HC.out.2.size)) (hc6.below hb6a)))
        clear hb6 hb6a hW6 hc6
        go_wp2_with fail
        rw [H6.out.1]
        refine (show Calls _ _ _ _ _ from code_chain 1 _ 2 W6 H6.out.2.2 (H.out.below H6.out.2.1).1.errt).mono ?_
        rintro e w7 ⟨rfl, hb7⟩
        have HF := Lib.hid (H6.out.2.1.trans (hb7.mono H6.out.2.1.size))
        clear hb7
        go_wp2
        go_ret
        exact ⟨by first | rfl | simp, HF.out⟩

set_option maxHeartbeats 8000000 in
set_option maxRecDepth 100000 in
theorem jdeep_false (n : Int) (k : Nat) (hk : k < 24) (hn : n.tmod 24 = (k : Int)) (w : World) (hE : EG w) :
    Calls Tryz.prog 5 #[.int .u8 n, .bool false] w fun e w' => e = .returned (.bool true) ∧ Below w.heap.size w w' := by
  have H := Lib.hid hE
  clear hE
  have hwk : IntKind.i64.wrap (k : Int) = (k : Int) := by rw [IntKind.wrap_i64]; omega
  go_enter Tryz.func5, Tryz.ntmps5
  go_wp2_with fail
  refine (jawake_any _ H.out).mono ?_
  rintro e w1 ⟨rfl, hb1⟩
  have H1 := Lib.hid hb1
  clear hb1
  go_wp2_with fail
  go_loopg [8, 9] k (fun gk sv iv wr => ∃ (i : Nat) (X : ByteArray), gk + i = k ∧ sv = .string X ∧ iv = .int .i64 i ∧ X.size ≤ 6 * i + 1 ∧ Hid (X = BA (nestL false i) ∧ Below w.heap.size w wr))
  case atStart => exact ⟨0, _, Nat.add_zero _, rfl, rfl, by decide, Lib.hid ⟨by rw [nest_zero], H1.out⟩⟩
  case round =>
    obtain ⟨i, X, hg, rfl, rfl, hxs, HC⟩ := hrel
    have hx2 : X.size ≤ 200 := by omega
    by_cases hi : i < k
    · have hiz : (i : Int) < (k : Int) := by omega
      have hwK : IntKind.i64.wrap ((i : Int) + 1) = ((i + 1 : Nat) : Int) := by rw [IntWalk.i64_in _ (by omega)]; omega
      go_wp2
      go_roundg (gk - 1)
      case rel =>
        refine ⟨i + 1, _, by omega, rfl, rfl, ?_, Lib.hid ⟨?_, HC.out.2⟩⟩
        · simp only [ByteArray.size_append]
          have e1 : (⟨#[91]⟩ : ByteArray).size = 1 := rfl
          have e2 : (⟨#[93]⟩ : ByteArray).size = 1 := rfl
          omega
        · rw [nest_list, BA_append, BA_append, HC.out.1]
      case measure => omega
    · have hiz : ¬ (i : Int) < (k : Int) := by omega
      have hik : i = k := by omega
      subst hik
      by_cases h16 : i < 16
      · have hc16 : ¬ (16 : Int) ≤ (i : Int) := by omega
        have hwi : IntKind.i64.wrap ((i : Int) + 1) = (i : Int) + 1 := by rw [IntKind.wrap_i64]; omega
        go_wp2_with fail
        refine (show Calls _ _ _ _ _ from parse_ok (deep_yes false i h16) X HC.out.1.symm wr (H.out.below HC.out.2)).mono ?_
        rintro e w4 ⟨r0, r1, r2, r3, r4, r5, r6, r7, r8, rfl, hy, hb4⟩
        obtain ⟨W4, hW4⟩ : ∃ W, w4.alloc (.cells #[.int .i64 r0, .int .i64 r1, .string r2, .slice r3 r4 r5, .slice r6 r7 r8] 28) = W := ⟨_, rfl⟩
        have hb4a : Below w4.heap.size w4 W4 := by rw [← hW4]; exact (Below.refl _ w4).alloc (Nat.le_refl _) _
        have hd := depth_nest false i (by omega) _ _ _ (hy.later hb4a)
        have H4 := Lib.hid (And.intro hW4 (And.intro (HC.out.2.trans ((hb4.trans (hb4a.mono hb4.size)).mono HC.out.2.size)) hd))
        clear hb4 hb4a hW4 hy hd
        go_wp2_with fail
        rw [H4.out.1]
        refine (show Calls _ _ _ _ _ from H4.out.2.2).mono ?_
        rintro e w5 ⟨rfl, hb5⟩
        have HF := Lib.hid (H4.out.2.1.trans (hb5.mono H4.out.2.1.size))
        clear hb5
        go_wp2
        go_ret
        exact ⟨by first | rfl | simp, HF.out⟩
      · have hc16 : (16 : Int) ≤ (i : Int) := by omega
        go_wp2_with fail
        refine (show Calls _ _ _ _ _ from parse_err (k := 2) (deep_no false i (by omega) hk) X HC.out.1.symm wr (H.out.below HC.out.2)).mono ?_
        rintro e v6 ⟨t6, u6, rfl, hc6, hb6⟩
        obtain ⟨W6, hW6⟩ : ∃ W, v6.alloc (.cells #[.int .i64 0, .int .i64 0, .string ⟨#[]⟩, .slice none 0 0, .slice none 0 0] 28) = W := ⟨_, rfl⟩
        have hb6a : Below v6.heap.size v6 W6 := by rw [← hW6]; exact (Below.refl _ v6).alloc (Nat.le_refl _) _
        have H6 := Lib.hid (And.intro hW6 (And.intro (HC.out.2.trans ((hb6.trans (hb6a.mono hb6.size)).mono HC.out.2.size)) (hc6.below hb6a)))
        clear hb6 hb6a hW6 hc6
        go_wp2_with fail
        rw [H6.out.1]
        refine (show Calls _ _ _ _ _ from code_chain 1 _ 2 W6 H6.out.2.2 (H.out.below H6.out.2.1).1.errt).mono ?_
        rintro e w7 ⟨rfl, hb7⟩
        have HF := Lib.hid (H6.out.2.1.trans (hb7.mono H6.out.2.1.size))
        clear hb7
        go_wp2
        go_ret
        exact ⟨by first | rfl | simp, HF.out⟩

theorem jdeep_law (n : Int) (hn : (Lit.int .u8 n).wf = true) (o : Bool) (w : World) (hE : EG w) :
    Calls Tryz.prog 5 #[.int .u8 n, .bool o] w fun e w' => e = .returned (.bool true) ∧ Below w.heap.size w w' := by
  have h := wf_u8 hn
  have e : n.tmod 24 = n % 24 := Int.tmod_eq_emod_of_nonneg h.1
  cases o with
  | true => exact jdeep_true n (n % 24).toNat (by omega) (by omega) w hE
  | false => exact jdeep_false n (n % 24).toNat (by omega) (by omega) w hE
end Go.Proofs.YtccnfnoonpfdfaaGreatDoor
