/- TextReads: the law's walk. -/
import Derived.Test.YthlioinmeimhoaaDoorTxBB
import Derived.Test.YthlioinmeimhoaaDoorTxCC
namespace Go.Proofs.YthlioinmeimhoaaDoor
open Go.Shelf Go.RowKit Go.Lib

theorem readB_pos (l : BL) (t : BL) (m : Nat) (h : readB l = some (t, m)) : 1 ≤ m := by
  by_cases hne : l = []
  · rw [hne, readB_nil] at h; cases h
  by_cases hq : l.getD 0 0 = 34
  · rw [readB_quote l hne hq] at h
    have := (Prod.mk.inj (Option.some.inj h)).2
    omega
  by_cases hz : (charL l).2 = 0
  · rw [readB_bad l hq hz] at h; cases h
  rw [readB_step l hne hq hz] at h
  cases hr : readB (l.drop (charL l).2) with
  | none => rw [hr] at h; cases h
  | some p =>
    obtain ⟨t2, m2⟩ := p
    rw [hr] at h
    have := (Prod.mk.inj (Option.some.inj h)).2
    omega
theorem readL_pos (l : BL) (t : BL) (m : Nat) (h : readL l = some (t, m)) : 1 ≤ m := by
  unfold readL at h
  split at h
  · cases h
  · cases hr : readB (l.drop 1) with
    | none => rw [hr] at h; cases h
    | some p =>
      obtain ⟨t2, m2⟩ := p
      rw [hr] at h
      have := (Prod.mk.inj (Option.some.inj h)).2
      omega

set_option maxHeartbeats 4000000 in
set_option maxRecDepth 100000 in
theorem treads_own (s : ByteArray) (a c : Nat) (w : World) (ha : a < 65536) (hc : c < 256) (hT : Tabs w) (hg : ErrT w) :
    Calls Tryd.prog 10 #[.string s, .bool true, .int .u16 a, .int .u8 c] w fun e w' => e = .returned (.bool true) ∧ Below w.heap.size w w' := by
  have HT := Lib.hid (And.intro hT hg)
  clear hT hg
  obtain ⟨X, hX⟩ : ∃ X, s.extract 0 (min (s.size : Int) 400).toNat = X := ⟨_, rfl⟩
  have hXs : X.size ≤ 400 := by rw [← hX]; exact cut4_size s
  go_enter Tryd.func10, Tryd.ntmps10
  go_wp2_with fail
  refine (tawake_any _ HT.out.1 HT.out.2).mono ?_
  rintro e w1 ⟨rfl, hb1⟩
  have H1 := Lib.hid hb1
  clear hb1
  go_wp2_with fail
  refine (put_any X _ (by omega)).mono ?_
  rintro e w2 ⟨rfl, hb2⟩
  have hQs : (BA (quoteL X.data.toList)).size ≤ 2402 := by
    have := chunks_length X.data.toList
    rw [← size_eq] at this
    rw [ba_size]
    unfold quoteL
    rw [List.length_cons, List.length_append, List.length_singleton]
    omega
  generalize BA (quoteL X.data.toList) = Q at hQs ⊢
  have H2 := Lib.hid (H1.out.trans (hb2.mono H1.out.size))
  clear hb2
  go_wp2_with fail
  refine (bend_any Q a c _ (by omega) ha hc).mono ?_
  rintro e w3 ⟨⟨Z, rfl, hZs⟩, hb3⟩
  have hZ : Z.size ≤ 2402 := by omega
  have H3 := Lib.hid (H2.out.trans (hb3.mono H2.out.size))
  clear hb3 hZs
  go_wp2_with fail
  refine (unquote_any Z _ (by omega) (HT.out.1.below H3.out)).mono ?_
  rintro e w4 ⟨hU, hb4⟩
  unfold Unq at hU
  have H4 := Lib.hid (H3.out.trans (hb4.mono H3.out.size))
  have HP := Lib.hid (readL_pos Z.data.toList)
  cases hr : readL Z.data.toList with
  | none =>
    rw [hr] at hU
    obtain ⟨v, rfl, hc4⟩ := hU
    have HE := Lib.hid hc4
    have HR := Lib.hid hr
    clear hb4 hc4 hr
    go_wp2_with fail
    refine (read_any Z _ (by omega)).mono ?_
    rintro e w5 ⟨hR, hb5⟩
    unfold Rd at hR
    rw [HR.out] at hR
    subst hR
    have H5 := Lib.hid (And.intro (HE.out.below hb5) (H4.out.trans (hb5.mono H4.out.size)))
    clear hb5
    go_wp2_with fail
    refine (code_chain 1 v 1 _ H5.out.1 (HT.out.2.below H5.out.2)).mono ?_
    rintro e w6 ⟨rfl, hb6⟩
    have H6 := Lib.hid (H5.out.2.trans (hb6.mono H5.out.2.size))
    clear hb6
    go_wp2
    go_ret
    exact ⟨rfl, H6.out⟩
  | some p =>
    obtain ⟨t, m⟩ := p
    rw [hr] at hU
    dsimp only at hU
    have hm := HP.out t m hr
    have HR := Lib.hid hr
    obtain ⟨E, hE⟩ : ∃ E, BA t = E := ⟨_, rfl⟩
    rw [hE] at hU
    subst hU
    have HE := Lib.hid hE
    have hm0 : ¬ (m : Int) = 0 := by omega
    have hm1 : ((m : Int) == 0) = false := beq_eq_false_iff_ne.2 hm0
    have hm2 : decide (m = 0) = false := decide_eq_false (by omega)
    have hm3 : (m == 0) = false := beq_eq_false_iff_ne.2 (by omega)
    have hm4 : ¬ m = 0 := by omega
    clear hb4 hr hE hm
    go_wp2_with fail
    refine (read_any Z _ (by omega)).mono ?_
    rintro e w5 ⟨hR, hb5⟩
    unfold Rd at hR
    rw [HR.out] at hR
    dsimp only at hR
    rw [HE.out] at hR
    subst hR
    have H5 := Lib.hid (H4.out.trans (hb5.mono H4.out.size))
    clear hb5
    go_wp2
    go_ret
    exact ⟨rfl, H5.out⟩

set_option maxHeartbeats 4000000 in
set_option maxRecDepth 100000 in
theorem treads_plain (s : ByteArray) (a c : Nat) (w : World) (hT : Tabs w) (hg : ErrT w) :
    Calls Tryd.prog 10 #[.string s, .bool false, .int .u16 a, .int .u8 c] w fun e w' => e = .returned (.bool true) ∧ Below w.heap.size w w' := by
  have HT := Lib.hid (And.intro hT hg)
  clear hT hg
  obtain ⟨X, hX⟩ : ∃ X, s.extract 0 (min (s.size : Int) 400).toNat = X := ⟨_, rfl⟩
  have hXs : X.size ≤ 400 := by rw [← hX]; exact cut4_size s
  go_enter Tryd.func10, Tryd.ntmps10
  go_wp2_with fail
  refine (tawake_any _ HT.out.1 HT.out.2).mono ?_
  rintro e w1 ⟨rfl, hb1⟩
  have H1 := Lib.hid hb1
  clear hb1
  go_wp2_with fail
  refine (unquote_any X _ (by omega) (HT.out.1.below H1.out)).mono ?_
  rintro e w4 ⟨hU, hb4⟩
  unfold Unq at hU
  have H4 := Lib.hid (H1.out.trans (hb4.mono H1.out.size))
  have HP := Lib.hid (readL_pos X.data.toList)
  cases hr : readL X.data.toList with
  | none =>
    rw [hr] at hU
    obtain ⟨v, rfl, hc4⟩ := hU
    have HE := Lib.hid hc4
    have HR := Lib.hid hr
    clear hb4 hc4 hr
    go_wp2_with fail
    refine (read_any X _ (by omega)).mono ?_
    rintro e w5 ⟨hR, hb5⟩
    unfold Rd at hR
    rw [HR.out] at hR
    subst hR
    have H5 := Lib.hid (And.intro (HE.out.below hb5) (H4.out.trans (hb5.mono H4.out.size)))
    clear hb5
    go_wp2_with fail
    refine (code_chain 1 v 1 _ H5.out.1 (HT.out.2.below H5.out.2)).mono ?_
    rintro e w6 ⟨rfl, hb6⟩
    have H6 := Lib.hid (H5.out.2.trans (hb6.mono H5.out.2.size))
    clear hb6
    go_wp2
    go_ret
    exact ⟨rfl, H6.out⟩
  | some p =>
    obtain ⟨t, m⟩ := p
    rw [hr] at hU
    dsimp only at hU
    have hm := HP.out t m hr
    have HR := Lib.hid hr
    obtain ⟨E, hE⟩ : ∃ E, BA t = E := ⟨_, rfl⟩
    rw [hE] at hU
    subst hU
    have HE := Lib.hid hE
    have hm0 : ¬ (m : Int) = 0 := by omega
    have hm1 : ((m : Int) == 0) = false := beq_eq_false_iff_ne.2 hm0
    have hm2 : decide (m = 0) = false := decide_eq_false (by omega)
    have hm3 : (m == 0) = false := beq_eq_false_iff_ne.2 (by omega)
    have hm4 : ¬ m = 0 := by omega
    clear hb4 hr hE hm
    go_wp2_with fail
    refine (read_any X _ (by omega)).mono ?_
    rintro e w5 ⟨hR, hb5⟩
    unfold Rd at hR
    rw [HR.out] at hR
    dsimp only at hR
    rw [HE.out] at hR
    subst hR
    have H5 := Lib.hid (H4.out.trans (hb5.mono H4.out.size))
    clear hb5
    go_wp2
    go_ret
    exact ⟨rfl, H5.out⟩

theorem treads_law (s : ByteArray) (own : Bool) (a c : Int) (w : World) (ha : 0 ≤ a ∧ a ≤ 65535) (hc : 0 ≤ c ∧ c ≤ 255) (hT : Tabs w) (hg : ErrT w) :
    Calls Tryd.prog 10 #[.string s, .bool own, .int .u16 a, .int .u8 c] w fun e w' => e = .returned (.bool true) ∧ Below w.heap.size w w' := by
  obtain ⟨A, rfl⟩ : ∃ A : Nat, a = A := ⟨a.toNat, by omega⟩
  obtain ⟨C, rfl⟩ : ∃ C : Nat, c = C := ⟨c.toNat, by omega⟩
  cases own
  · exact treads_plain s A C w hT hg
  · exact treads_own s A C w (by omega) (by omega) hT hg
end Go.Proofs.YthlioinmeimhoaaDoor
