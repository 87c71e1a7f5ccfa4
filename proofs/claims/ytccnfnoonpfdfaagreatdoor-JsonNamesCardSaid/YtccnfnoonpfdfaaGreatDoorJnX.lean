/- JsonInts: the law's walk (printed by wip/gen_jnx.py). -/
import Derived.Test.YtccnfnoonpfdfaaGreatDoorJnV
namespace Go.Proofs.YtccnfnoonpfdfaaGreatDoor
open Go.Shelf Go.RowKit Go.Lib

theorem int_size (n : Int) (hn : -9223372036854775808 ≤ n ∧ n ≤ 9223372036854775807) : (printV (.int n)).length ≤ 20 := by
  rw [printV]; exact intL_len n hn
theorem int_back (n : Int) (hn : -9223372036854775808 ≤ n ∧ n ≤ 9223372036854775807) : parseP (printV (.int n)) = .ok (.int n) := by
  have h := parse_back (.int n) hn rfl (by simp [depthV]) (fun _ => []) (fun _ _ h => by simp at h) [] [] (fun _ h => by simp at h) (fun _ h => by simp at h)
  rw [printP_none, List.append_nil, List.nil_append] at h
  exact h (by have := int_size n hn; omega)
def endL (f : Int) : BL := if f % 4 = 0 then [46, 48] else if f % 4 = 1 then [101, 49] else if f % 4 = 2 then [69, 48] else [46]
theorem int_end (n : Int) (hn : -9223372036854775808 ≤ n ∧ n ≤ 9223372036854775807) (f : Int) : parseP (printV (.int n) ++ endL f) = .error 4 := by
  rw [printV]
  have : digsL (endL f) = [] ∧ isDot (endL f) = true ∧ (endL f).length ≤ 100 := by
    unfold endL
    split
    · exact ⟨rfl, rfl, by decide⟩
    split
    · exact ⟨rfl, rfl, by decide⟩
    split
    · exact ⟨rfl, rfl, by decide⟩
    · exact ⟨rfl, rfl, by decide⟩
  exact int_dot n hn _ this.1 this.2.1 this.2.2
def zsL : BL := [48, 48, 48, 48, 48, 48, 48, 48, 48, 48, 48, 48, 48, 48, 48, 48, 48, 48, 48]
theorem int_zs (n : Int) (hn : -9223372036854775808 ≤ n ∧ n ≤ 9223372036854775807) : parseP (printV (.int n) ++ zsL) = .error (if n = 0 then 1 else 4) := by
  rw [printV]
  exact int_zeros n hn zsL (by decide) rfl
theorem int_zero (n : Int) (hn : -9223372036854775808 ≤ n ∧ n ≤ 9223372036854775807) : parseP ([48] ++ printV (.int n)) = .error 1 := by
  rw [printV]
  exact zero_int n hn

theorem BA_append (a b : BL) : BA (a ++ b) = BA a ++ BA b := by
  apply ByteArray.ext
  simp [BA]
theorem tmod_four (f : Int) (hf : 0 ≤ f ∧ f < 256) : (f.tmod 4 = 0 ∧ endL f = [46, 48]) ∨ (f.tmod 4 = 1 ∧ endL f = [101, 49]) ∨ (f.tmod 4 = 2 ∧ endL f = [69, 48]) ∨ (f.tmod 4 = 3 ∧ endL f = [46]) := by
  have e : f.tmod 4 = f % 4 := Int.tmod_eq_emod_of_nonneg hf.1
  rw [e]
  unfold endL
  rcases (show f % 4 = 0 ∨ f % 4 = 1 ∨ f % 4 = 2 ∨ f % 4 = 3 by omega) with h | h | h | h <;> rw [h] <;> simp

set_option maxHeartbeats 8000000 in
set_option maxRecDepth 100000 in
theorem jints_law (n : Int) (hn : -9223372036854775808 ≤ n ∧ n ≤ 9223372036854775807) (z : Bool) (f : Int) (hf : 0 ≤ f ∧ f < 256) (w : World) (hE : EG w) :
    Calls Tryz.prog 4 #[.int .i64 n, .bool z, .int .u8 f] w fun e w' => e = .returned (.bool true) ∧ Below w.heap.size w w' := by
  have H := Lib.hid (And.intro hn (And.intro hf hE))
  clear hn hf hE
  go_enter Tryz.func4, Tryz.ntmps4
  go_wp2_with fail
  refine (jawake_any _ H.out.2.2).mono ?_
  rintro e w1 ⟨rfl, hb1⟩
  have H1 := Lib.hid hb1
  clear hb1
  go_wp2_with fail
  refine (show Calls _ _ _ _ _ from print_any (.int n) (fun _ => True) w1 _ (VAt.int n H.out.1) (H.out.2.2.below H1.out) (by have := int_size n H.out.1; omega)).mono ?_
  rintro e w3 ⟨rfl, hb3⟩
  have H3 := Lib.hid (H1.out.trans (hb3.mono H1.out.size))
  clear hb3
  obtain ⟨K, hK⟩ : ∃ K, BA (printV (.int n)) = K := ⟨_, rfl⟩
  rw [hK]
  go_wp2_with fail
  refine (show Calls _ _ _ _ _ from parse_ok (int_back n H.out.1) K hK _ (H.out.2.2.below H3.out)).mono ?_
  rintro e w4 ⟨r0, r1, r2, r3, r4, r5, r6, r7, r8, rfl, hy, hb4⟩
  have HK := Lib.hid hK
  clear hK
  cases hy
  obtain ⟨Y, hY⟩ : ∃ Y, w4.heap.size = Y := ⟨_, rfl⟩
  obtain ⟨W4, hW4⟩ : ∃ W, w4.alloc (.cells #[.int .i64 2, .int .i64 n, .string ⟨#[]⟩, .slice none 0 0, .slice none 0 0] 28) = W := ⟨_, rfl⟩
  have hb4a : Below w4.heap.size w4 W4 := by rw [← hW4]; exact (Below.refl _ w4).alloc (Nat.le_refl _) _
  have H4 := Lib.hid (And.intro hW4 (H3.out.trans ((hb4.trans (hb4a.mono hb4.size)).mono H3.out.size)))
  clear hb4 hb4a hW4 hY Y
  obtain ⟨W5, hW5⟩ : ∃ W, W4.alloc (.cells #[.string ⟨#[46, 48]⟩, .string ⟨#[101, 49]⟩, .string ⟨#[69, 48]⟩, .string ⟨#[46]⟩] 9) = W := ⟨_, rfl⟩
  have hb5 : Below W4.heap.size W4 W5 := by rw [← hW5]; exact (Below.refl _ W4).alloc (Nat.le_refl _) _
  have H5 := Lib.hid (And.intro hW5 (H4.out.2.trans (hb5.mono H4.out.2.size)))
  clear hW5 hb5
  have hj := tmod_four f H.out.2.1
  rcases hj with ⟨zf, hE⟩ | ⟨zf, hE⟩ | ⟨zf, hE⟩ | ⟨zf, hE⟩
  all_goals (
  have hks : K.size ≤ 20 := by rw [← HK.out, ba_size]; exact int_size n H.out.1
  have HE := Lib.hid hE
  clear hE
  go_wp2_with fail
  (try rw [H4.out.1])
  rw [H5.out.1]
  refine Calls.mono (parse_err (k := 4) (int_end n H.out.1 f) _ (by rw [HE.out, BA_append, HK.out]) W5 (H.out.2.2.below H5.out.2)) ?_
  rintro e v6 ⟨t6, u6, rfl, hc6, hb6⟩
  obtain ⟨W6, hW6⟩ : ∃ W, v6.alloc (.cells #[.int .i64 0, .int .i64 0, .string ⟨#[]⟩, .slice none 0 0, .slice none 0 0] 28) = W := ⟨_, rfl⟩
  have hbw6 := (H5.out.2).trans ((hb6.trans ((Below.refl _ v6).alloc (Nat.le_refl _) (.cells #[.int .i64 0, .int .i64 0, .string ⟨#[]⟩, .slice none 0 0, .slice none 0 0] 28) |>.mono hb6.size)).mono (H5.out.2).size)
  rw [hW6] at hbw6
  have hc6' : Chain W6 1 (.iface t6 u6) ((4 : Nat) : Int) := by rw [← hW6]; exact hc6.below ((Below.refl _ v6).alloc (Nat.le_refl _) _)
  have E6 := Lib.hid (And.intro hW6 (And.intro hbw6 hc6'))
  clear hb6 hc6 hW6 hbw6 hc6'
  go_wp2_with fail
  rw [E6.out.1]
  refine (show Calls _ _ _ _ _ from code_chain 1 _ 4 W6 (E6.out.2.2) (H.out.2.2.below (E6.out.2.1)).1.errt).mono ?_
  rintro e w7 ⟨rfl, hg7⟩
  have E7 := Lib.hid ((E6.out.2.1).trans (hg7.mono (E6.out.2.1).size))
  clear hg7
  go_wp2_with fail
  refine Calls.mono (parse_err (k := if n = 0 then 1 else 4) (int_zs n H.out.1) _ (by rw [BA_append, HK.out]; rfl) w7 (H.out.2.2.below E7.out)) ?_
  rintro e v8 ⟨t8, u8, rfl, hc8, hb8⟩
  obtain ⟨W8, hW8⟩ : ∃ W, v8.alloc (.cells #[.int .i64 0, .int .i64 0, .string ⟨#[]⟩, .slice none 0 0, .slice none 0 0] 28) = W := ⟨_, rfl⟩
  have hbw8 := (E7.out).trans ((hb8.trans ((Below.refl _ v8).alloc (Nat.le_refl _) (.cells #[.int .i64 0, .int .i64 0, .string ⟨#[]⟩, .slice none 0 0, .slice none 0 0] 28) |>.mono hb8.size)).mono (E7.out).size)
  rw [hW8] at hbw8
  have hc8' : Chain W8 1 (.iface t8 u8) ((if n = 0 then 1 else 4 : Nat) : Int) := by rw [← hW8]; exact hc8.below ((Below.refl _ v8).alloc (Nat.le_refl _) _)
  have E8 := Lib.hid (And.intro hW8 (And.intro hbw8 hc8'))
  clear hb8 hc8 hW8 hbw8 hc8'
  by_cases hn0 : n = 0
  · have hc8 : Chain W8 1 (.iface t8 u8) 1 := by have h := E8.out.2.2; rw [if_pos hn0] at h; exact h
    have HC8 := Lib.hid hc8
    clear hc8
    go_wp2_with fail
    rw [E8.out.1]
    refine (show Calls _ _ _ _ _ from code_chain 1 _ 1 W8 (HC8.out) (H.out.2.2.below (E8.out.2.1)).1.errt).mono ?_
    rintro e w9 ⟨rfl, hg9⟩
    have E9 := Lib.hid ((E8.out.2.1).trans (hg9.mono (E8.out.2.1).size))
    clear hg9
    go_wp2_with fail
    refine Calls.mono (parse_err (k := 1) (int_zero n H.out.1) _ (by rw [BA_append, HK.out]) w9 (H.out.2.2.below E9.out)) ?_
    rintro e v10 ⟨t10, u10, rfl, hc10, hb10⟩
    obtain ⟨W10, hW10⟩ : ∃ W, v10.alloc (.cells #[.int .i64 0, .int .i64 0, .string ⟨#[]⟩, .slice none 0 0, .slice none 0 0] 28) = W := ⟨_, rfl⟩
    have hbw10 := (E9.out).trans ((hb10.trans ((Below.refl _ v10).alloc (Nat.le_refl _) (.cells #[.int .i64 0, .int .i64 0, .string ⟨#[]⟩, .slice none 0 0, .slice none 0 0] 28) |>.mono hb10.size)).mono (E9.out).size)
    rw [hW10] at hbw10
    have hc10' : Chain W10 1 (.iface t10 u10) ((1 : Nat) : Int) := by rw [← hW10]; exact hc10.below ((Below.refl _ v10).alloc (Nat.le_refl _) _)
    have E10 := Lib.hid (And.intro hW10 (And.intro hbw10 hc10'))
    clear hb10 hc10 hW10 hbw10 hc10'
    cases z
    · go_wp2
      go_ret
      exact ⟨by first | rfl | simp, by rw [E10.out.1]; exact E10.out.2.1⟩
    · go_wp2_with fail
      rw [E10.out.1]
      refine (show Calls _ _ _ _ _ from code_chain 1 _ 1 W10 (E10.out.2.2) (H.out.2.2.below (E10.out.2.1)).1.errt).mono ?_
      rintro e w11 ⟨rfl, hg11⟩
      have E11 := Lib.hid ((E10.out.2.1).trans (hg11.mono (E10.out.2.1).size))
      clear hg11
      go_wp2
      go_ret
      exact ⟨by first | rfl | simp, E11.out⟩
  · have hc8 : Chain W8 1 (.iface t8 u8) 4 := by have h := E8.out.2.2; rw [if_neg hn0] at h; exact h
    have HC8 := Lib.hid hc8
    clear hc8
    go_wp2_with fail
    rw [E8.out.1]
    refine (show Calls _ _ _ _ _ from code_chain 1 _ 4 W8 (HC8.out) (H.out.2.2.below (E8.out.2.1)).1.errt).mono ?_
    rintro e w9 ⟨rfl, hg9⟩
    have E9 := Lib.hid ((E8.out.2.1).trans (hg9.mono (E8.out.2.1).size))
    clear hg9
    go_wp2_with fail
    refine Calls.mono (parse_err (k := 1) (int_zero n H.out.1) _ (by rw [BA_append, HK.out]) w9 (H.out.2.2.below E9.out)) ?_
    rintro e v10 ⟨t10, u10, rfl, hc10, hb10⟩
    obtain ⟨W10, hW10⟩ : ∃ W, v10.alloc (.cells #[.int .i64 0, .int .i64 0, .string ⟨#[]⟩, .slice none 0 0, .slice none 0 0] 28) = W := ⟨_, rfl⟩
    have hbw10 := (E9.out).trans ((hb10.trans ((Below.refl _ v10).alloc (Nat.le_refl _) (.cells #[.int .i64 0, .int .i64 0, .string ⟨#[]⟩, .slice none 0 0, .slice none 0 0] 28) |>.mono hb10.size)).mono (E9.out).size)
    rw [hW10] at hbw10
    have hc10' : Chain W10 1 (.iface t10 u10) ((1 : Nat) : Int) := by rw [← hW10]; exact hc10.below ((Below.refl _ v10).alloc (Nat.le_refl _) _)
    have E10 := Lib.hid (And.intro hW10 (And.intro hbw10 hc10'))
    clear hb10 hc10 hW10 hbw10 hc10'
    cases z
    · go_wp2
      go_ret
      exact ⟨by first | rfl | simp, by rw [E10.out.1]; exact E10.out.2.1⟩
    · go_wp2_with fail
      rw [E10.out.1]
      refine (show Calls _ _ _ _ _ from code_chain 1 _ 1 W10 (E10.out.2.2) (H.out.2.2.below (E10.out.2.1)).1.errt).mono ?_
      rintro e w11 ⟨rfl, hg11⟩
      have E11 := Lib.hid ((E10.out.2.1).trans (hg11.mono (E10.out.2.1).size))
      clear hg11
      go_wp2
      go_ret
      exact ⟨by first | rfl | simp, E11.out⟩)
theorem wf_i64 {n : Int} (h : (Lit.int .i64 n).wf = true) : -9223372036854775808 ≤ n ∧ n ≤ 9223372036854775807 := by simpa [Lit.wf, IntKind.min, IntKind.max, IntKind.signed, IntKind.bits] using h
theorem wf_u8 {n : Int} (h : (Lit.int .u8 n).wf = true) : 0 ≤ n ∧ n < 256 := by
  have hr : 0 ≤ n ∧ n ≤ 255 := by simpa [Lit.wf, IntKind.min, IntKind.max, IntKind.signed, IntKind.bits] using h
  omega
end Go.Proofs.YtccnfnoonpfdfaaGreatDoor
