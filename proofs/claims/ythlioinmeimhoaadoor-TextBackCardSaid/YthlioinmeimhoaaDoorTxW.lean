/- Any text read, however long; TextBack: the law's walk. -/
import Derived.Test.YthlioinmeimhoaaDoorTxM
namespace Go.Proofs.YthlioinmeimhoaaDoor
open Go.Shelf Go.RowKit Go.Lib

theorem enc_len (r : Int) : (encodeRune r).length ≤ 4 ∧ (0 ≤ r → r ≤ 127 → (encodeRune r).length = 1) ∧ (0 ≤ r → r ≤ 65535 → (encodeRune r).length ≤ 3) := by
  unfold encodeRune
  rw [List.length_map]
  refine ⟨(encodeRuneZ_length r).2, fun h0 h1 => by rw [encodeRuneZ_one h0 h1]; rfl, fun h0 h1 => ?_⟩
  unfold encodeRuneZ
  split
  · simp
  split
  · simp
  split
  · simp
  split
  · omega
  · simp
theorem enc_le (l : BL) (hz : (charL l).2 ≠ 0) : (encodeRune (charL l).1).length ≤ (charL l).2 := by
  have hne : l ≠ [] := fun e => hz (by rw [e]; decide +kernel)
  unfold charL at hz ⊢
  by_cases h1 : (decodeL l).1 < 32 ∨ ((decodeL l).1 = 65533 ∧ (decodeL l).2 = 1)
  · rw [if_pos h1] at hz; exact absurd rfl hz
  rw [if_neg h1] at hz ⊢
  by_cases h2 : (decodeL l).1 ≠ 92
  · rw [if_pos h2]
    have := congrArg List.length (encode_decode l hne (fun h => h1 (.inr h)))
    rw [List.length_take] at this
    dsimp only
    omega
  rw [if_neg h2] at hz ⊢
  by_cases h3 : escL (l.getD 1 0).toNat ≠ 0
  · rw [if_pos h3]
    have : escL (l.getD 1 0).toNat ≤ 92 := by
      unfold escL
      repeat' split
      all_goals omega
    have h4 := (enc_len (escL (l.getD 1 0).toNat)).2.1 (by omega) (by omega)
    dsimp only
    omega
  rw [if_neg h3] at hz ⊢
  by_cases h4 : l.getD 1 0 ≠ 117
  · rw [if_pos h4] at hz; exact absurd rfl hz
  rw [if_neg h4] at hz ⊢
  by_cases h5 : (wideL (l.drop 2)).2 = 0
  · rw [if_pos h5] at hz; exact absurd rfl hz
  rw [if_neg h5]
  have h6 := (enc_len (wideL (l.drop 2)).1).1
  dsimp only
  unfold wideL at h5 h6 ⊢
  by_cases h7 : fourL (l.drop 2) < 0
  · rw [if_pos h7] at h5; exact absurd rfl h5
  rw [if_neg h7] at h5 h6 ⊢
  by_cases h8 : fourL (l.drop 2) < 55296 ∨ 57343 < fourL (l.drop 2)
  · rw [if_pos h8] at h6 ⊢; dsimp only at h6 ⊢; omega
  rw [if_neg h8] at h5 h6 ⊢
  split
  · rename_i h9; rw [if_pos h9] at h5; exact absurd rfl h5
  · rename_i h9; rw [if_neg h9] at h6; dsimp only at h6 ⊢; omega

set_option maxHeartbeats 4000000 in
set_option maxRecDepth 100000 in
theorem unquote_big (s : ByteArray) (w : World) (hs : s.size ≤ 140737488355300) (hT : Tabs w) :
    Calls Tryd.prog 29 #[.string s] w fun e w' => Unq s.data.toList e w' ∧ Below w.heap.size w w' := by
  obtain ⟨L, hL⟩ : ∃ L, s.data.toList = L := ⟨_, rfl⟩
  have hLs : L.length = s.size := by rw [← hL, ← size_eq]
  have HT := Lib.hid hT
  have HL := Lib.hid hL
  clear hT
  rw [hL]
  by_cases h0 : s.size = 0
  · have hLn : L = [] := List.eq_nil_of_length_eq_zero (by omega)
    have hs0 : s = ⟨#[]⟩ := by
      rw [← ba_list s, hL, hLn]
    subst hLn
    clear hL HL hLs h0 hs HT
    subst hs0
    go_enter Tryd.func29, Tryd.ntmps29
    go_wp2_with fail
    refine (err_made _).mono ?_
    rintro e w1 ⟨⟨v, rfl, hc⟩, hb1⟩
    have H := Lib.hid (And.intro hc (((Below.refl _ w).alloc (Nat.le_refl _) _).trans (hb1.mono (by simp))))
    clear hc hb1
    go_wp2
    go_ret3
    exact ⟨⟨v, rfl, H.out.1⟩, H.out.2⟩
  have h1 : 0 < s.size := by omega
  have h1z : (0 : Int) < (s.size : Int) := by omega
  have hLne : s.toList.isEmpty = false := by
    rw [Lib.toList_data, hL]
    cases L with
    | nil => simp at hLs; omega
    | cons _ _ => rfl
  obtain ⟨b0, hb0⟩ : ∃ b, s[0]'h1 = b := ⟨_, rfl⟩
  have hb0L : L.getD 0 0 = b0 := by rw [← hL, getD_get!', Utf8W.get!_of_lt s 0 h1, hb0]
  clear hL h0
  by_cases hq : b0 = 34
  · have hqz : (b0.toNat : Int) = 34 := by rw [hq]; rfl
    have hRL : readL L = goOn [] 1 (readB (L.drop 1)) := by
      unfold readL
      rw [if_neg (by rw [hb0L, hq]; decide)]
      cases readB (L.drop 1) with
      | none => rfl
      | some p => rfl
    have HQ := Lib.hid hRL
    clear hRL hb0L hq
    go_enter Tryd.func29, Tryd.ntmps29
    go_wp2
    go_loopg [6] (s.size - 1) (fun gk iv wr => ∃ (pos : Nat) (acc : BL), gk + pos = s.size ∧ 1 ≤ pos ∧ iv = .int .i64 pos ∧ BH w.heap.size w.heap.size acc wr ∧ readL L = goOn acc pos (readB (L.drop pos)) ∧ acc.length ≤ pos ∧ Below w.heap.size w wr)
    case atStart => exact ⟨1, [], by omega, by omega, rfl, Lib.IsBuilderF.of (Lib.fresh_isBuilder _ _ w), HQ.out, by simp, (Below.refl _ w).alloc (Nat.le_refl _) _⟩
    case round =>
      obtain ⟨pos, acc, hg, hp1, rfl, hB, hacc, hal, hbw⟩ := hrel
      have HB := Lib.hid (And.intro hB (And.intro hacc (And.intro hal hbw)))
      clear hB hacc hal hbw
      by_cases hp : pos < s.size
      · have hpz : (pos : Int) < (s.size : Int) := by omega
        have hple : (pos : Int) ≤ (s.size : Int) := by omega
        have hp0 : (0 : Int) ≤ (pos : Int) := by omega
        obtain ⟨b, hb⟩ : ∃ b, s[pos]'hp = b := ⟨_, rfl⟩
        have hbL : L.getD pos 0 = b := by rw [← HL.out, getD_get!', Utf8W.get!_of_lt s pos hp, hb]
        have hw1 : IntKind.i64.wrap ((pos : Int) + 1) = ((pos + 1 : Nat) : Int) := by rw [IntWalk.i64_in _ (by omega)]; omega
        obtain ⟨D, hD⟩ : ∃ D, L.drop pos = D := ⟨_, rfl⟩
        have hDne : D ≠ [] := fun e => by
          have := congrArg List.length (hD.trans e)
          rw [List.length_drop] at this
          simp at this
          omega
        have hbD : D.getD 0 0 = b := by rw [← hD, getD_drop0, Nat.add_zero, hbL]
        have hsz := HB.out.2.2.2.size
        by_cases hbq : b = 34
        · have hbz : (b.toNat : Int) = 34 := by rw [hbq]; rfl
          have hans : readL L = some (acc, pos + 1) := by
            rw [HB.out.2.1, hD, readB_quote D hDne (by rw [hbD, hbq])]
            simp only [goOn, List.append_nil]
            rw [Nat.add_comm]
          have HA := Lib.hid (And.intro hans hsz)
          clear hans hbq hD hDne hbD hbL hsz
          go_wp2_with fail
          refine (bh_get _ _ acc _ HB.out.1 HA.out.2).mono ?_
          rintro e w2 ⟨rfl, hb2⟩
          have H2 := Lib.hid (HB.out.2.2.2.trans hb2)
          clear hb2
          go_wp2
          go_ret3
          refine ⟨?_, H2.out⟩
          unfold Unq
          rw [HA.out.1]
          rfl
        · have hbz : ¬ (b.toNat : Int) = 34 := fun h => hbq (UInt8.toNat_inj.1 (by show b.toNat = 34; omega))
          have hbz2 : ((b.toNat : Int) == 34) = false := beq_eq_false_iff_ne.2 hbz
          obtain ⟨X, hX⟩ : ∃ X, s.extract pos s.size = X := ⟨_, rfl⟩
          have hXD : X.data.toList = D := by rw [← hX, drop_ba s pos (by omega), HL.out, hD]
          have cN : Calls Tryd.prog 52 #[.string X] wr _ := next_any X wr (by rw [hXD]; exact hDne) (HT.out.below HB.out.2.2.2)
          rw [hXD] at cN
          have hNle := charL_le D hDne
          have hrng := charL_range D
          have hDl : D.length = s.size - pos := by rw [← hD, List.length_drop]; omega
          have hgo := goOn_step acc pos D hDne (by rw [hbD]; exact hbq)
          have hbad := readB_bad D (by rw [hbD]; exact hbq)
          obtain ⟨N, hN⟩ : ∃ N, (charL D).2 = N := ⟨_, rfl⟩
          obtain ⟨R, hR⟩ : ∃ R, (charL D).1 = R := ⟨_, rfl⟩
          rw [hN, hR] at cN
          rw [hN] at hNle hbad
          rw [hR] at hrng
          simp only [hN, hR] at hgo
          by_cases hN0 : N = 0
          · have hans : readL L = none := by
              rw [HB.out.2.1, hD, hbad hN0]
              rfl
            subst hN0
            have HA := Lib.hid (And.intro hans hsz)
            clear hans hbq hD hDne hbD hbL hsz hgo hbad hNle hrng hDl hXD hN hR
            go_wp2_with fail
            refine cN.mono ?_
            rintro e w2 ⟨⟨r, rfl, _⟩, hb2⟩
            have H2 := Lib.hid (HB.out.2.2.2.trans (hb2.mono HA.out.2))
            clear hb2 cN
            go_wp2_with fail
            refine (err_made _).mono ?_
            rintro e w3 ⟨⟨v, rfl, hc⟩, hb3⟩
            have H3 := Lib.hid (And.intro hc (H2.out.trans (hb3.mono H2.out.size)))
            clear hc hb3
            go_wp2
            go_ret3
            refine ⟨?_, H3.out.2⟩
            unfold Unq
            rw [HA.out.1]
            exact ⟨v, rfl, H3.out.1⟩
          · have hNz : ¬ (N : Int) = 0 := by omega
            have hNz2 : ((N : Int) == 0) = false := beq_eq_false_iff_ne.2 hNz
            have hNz3 : decide (N = 0) = false := decide_eq_false hN0
            have hNz4 : (N == 0) = false := beq_eq_false_iff_ne.2 hN0
            have hwN : IntKind.i64.wrap ((pos : Int) + (N : Int)) = ((pos + N : Nat) : Int) := by rw [IntWalk.i64_in _ (by omega)]; omega
            have hg1 := hgo hN0
            have hdd : D.drop N = L.drop (pos + N) := by rw [← hD, List.drop_drop]
            have hel : (encodeRune R).length ≤ N := by
              have := enc_le D (by rw [hN]; exact hN0)
              rw [hN, hR] at this
              exact this
            have hNle2 : pos + N ≤ s.size := by omega
            rw [hdd] at hg1
            have hst : readL L = goOn (acc ++ encodeRune R) (pos + N) (readB (L.drop (pos + N))) := by rw [HB.out.2.1, hD]; exact hg1
            have hal4 : acc.length + 4 ≤ 140737488355328 := by have := HB.out.2.2.1; omega
            have HA := Lib.hid (And.intro hst (And.intro hsz (And.intro hel (And.intro hrng (And.intro hal4 hNle2)))))
            clear hst hg1 hgo hbad hNle hrng hDl hXD hN hR hdd hel hsz hal4 hbq hD hDne hbD hbL hNle2 hbz
            go_wp2_with fail
            refine cN.mono ?_
            rintro e w2 ⟨⟨r, rfl, hr⟩, hb2⟩
            obtain rfl := hr hN0
            have H2 := Lib.hid (And.intro (HB.out.1.below hb2) (HB.out.2.2.2.trans (hb2.mono HA.out.2.1)))
            clear hb2 cN hr
            go_wp2_with fail
            refine (bh_rune _ _ acc r (by have := HA.out.2.2.2.1; omega) (by have := HA.out.2.2.2.1; omega) _ H2.out.1 HA.out.2.2.2.2.1 H2.out.2.size).mono ?_
            rintro e w3 ⟨⟨v, rfl⟩, h3, hb3⟩
            have H3 := Lib.hid (And.intro h3 (H2.out.2.trans hb3))
            clear h3 hb3
            go_wp2
            go_roundg (gk - N)
            case rel =>
              refine ⟨pos + N, acc ++ encodeRune r, ?_, by omega, rfl, H3.out.1, HA.out.1, ?_, H3.out.2⟩
              · have := HA.out.2.2.2.2.2; omega
              · have := HA.out.2.2.1
                have h5 := HB.out.2.2.1
                rw [List.length_append]
                omega
            case measure => omega
      · have hpz : ¬ (pos : Int) < (s.size : Int) := by omega
        have hans : readL L = none := by
          rw [HB.out.2.1, List.drop_eq_nil_of_le (by omega), readB_nil]
          rfl
        have HA := Lib.hid hans
        clear hans
        go_wp2_with fail
        refine (err_made _).mono ?_
        rintro e w3 ⟨⟨v, rfl, hc⟩, hb3⟩
        have H3 := Lib.hid (And.intro hc (HB.out.2.2.2.trans (hb3.mono HB.out.2.2.2.size)))
        clear hc hb3
        go_wp2
        go_ret3
        refine ⟨?_, H3.out.2⟩
        unfold Unq
        rw [HA.out]
        exact ⟨v, rfl, H3.out.1⟩
  · have hqz : ¬ (b0.toNat : Int) = 34 := fun h => hq (UInt8.toNat_inj.1 (by show b0.toNat = 34; omega))
    have hqz2 : ((b0.toNat : Int) == 34) = false := beq_eq_false_iff_ne.2 hqz
    have hqz3 : ((b0.toNat : Int) != 34) = true := by simp [bne, hqz2]
    have hRL : readL L = none := by
      unfold readL
      rw [if_pos (by rw [hb0L]; exact hq)]
    have HQ := Lib.hid hRL
    clear hRL hb0L hq hqz
    go_enter Tryd.func29, Tryd.ntmps29
    go_wp2_with fail
    refine (err_made _).mono ?_
    rintro e w1 ⟨⟨v, rfl, hc⟩, hb1⟩
    have H := Lib.hid (And.intro hc (((Below.refl _ w).alloc (Nat.le_refl _) _).trans (hb1.mono (by simp))))
    clear hc hb1
    go_wp2
    go_ret3
    refine ⟨?_, H.out.2⟩
    unfold Unq
    rw [HQ.out]
    exact ⟨v, rfl, H.out.1⟩
set_option maxHeartbeats 2000000 in
set_option maxRecDepth 100000 in
theorem tback_law (s behind : ByteArray) (w : World) (hb : behind.size ≤ 140737488351232) (hT : Tabs w) (hg : ErrT w) :
    Calls Tryd.prog 11 #[.string s, .string behind] w fun e w' => e = .returned (.bool true) ∧ Below w.heap.size w w' := by
  have HT := Lib.hid (And.intro hT hg)
  clear hT hg
  obtain ⟨X, hX⟩ : ∃ X, s.extract 0 (min (s.size : Int) 400).toNat = X := ⟨_, rfl⟩
  have hXs : X.size ≤ 400 := by rw [← hX]; exact cut4_size s
  obtain ⟨L, hL⟩ : ∃ L, X.data.toList = L := ⟨_, rfl⟩
  have hLs : L.length = X.size := by rw [← hL, ← size_eq]
  have hql := chunks_length L
  obtain ⟨Q, hQ⟩ : ∃ Q, BA (quoteL L) = Q := ⟨_, rfl⟩
  have hQL : Q.data.toList = quoteL L := by rw [← hQ]
  have hQs : Q.size = (chunks L).length + 2 := by rw [size_eq, hQL]; unfold quoteL; simp
  obtain ⟨M, hM⟩ : ∃ M, BA (mendL L) = M := ⟨_, rfl⟩
  have hML : M.data.toList = mendL L := by rw [← hM]
  have hMs : M.size ≤ 1600 := by
    have := mend_length L
    rw [size_eq, hML]
    omega
  have hcat : ¬ 9223372036854775807 < Q.size + behind.size := by omega
  have cQ : ∀ W, Tabs W → Calls Tryd.prog 27 #[.string X] W fun e w' => e = .returned (.string Q) ∧ Below W.heap.size W w' := fun W hW => by
    have := quote_any X W (by omega) hW
    rw [hL, hQ] at this
    exact this
  have cM : ∀ W, Calls Tryd.prog 32 #[.string X] W fun e w' => e = .returned (.string M) ∧ Below W.heap.size W w' := fun W => by
    have := mend_any X W (by omega)
    rw [hL, hM] at this
    exact this
  have hread : readL (Q ++ behind).data.toList = some (mendL L, Q.size) := by
    rw [app_list, hQL, quote_read, size_eq, hQL]
  have hqv : Lib.validD Q.data.toList = true := by rw [hQL]; exact quote_valid L
  have HV := Lib.hid (And.intro hread (And.intro hqv (And.intro hM (And.intro hQs (And.intro hMs cQ)))))
  clear hread hqv hM hML hMs hQ hQL cQ hL
  go_enter Tryd.func11, Tryd.ntmps11
  go_wp2_with fail
  refine (tawake_any _ HT.out.1 HT.out.2).mono ?_
  rintro e w1 ⟨rfl, hb1⟩
  have H1 := Lib.hid hb1
  clear hb1
  go_wp2_with fail
  refine (HV.out.2.2.2.2.2 _ (HT.out.1.below H1.out)).mono ?_
  rintro e w2 ⟨rfl, hb2⟩
  have H2 := Lib.hid (H1.out.trans (hb2.mono H1.out.size))
  clear hb2
  go_wp2_with fail
  refine (unquote_big (Q ++ behind) _ (by rw [app_size]; omega) (HT.out.1.below H2.out)).mono ?_
  rintro e w3 ⟨hU, hb3⟩
  unfold Unq at hU
  rw [HV.out.1] at hU
  dsimp only at hU
  rw [HV.out.2.2.1] at hU
  subst hU
  have H3 := Lib.hid (H2.out.trans (hb3.mono H2.out.size))
  clear hb3
  go_wp2_with fail
  refine (cM _).mono ?_
  rintro e w4 ⟨rfl, hb4⟩
  have H4 := Lib.hid (H3.out.trans (hb4.mono H3.out.size))
  clear hb4
  go_wp2_with fail
  refine (valid_any Q _ (by omega) (HT.out.1.below H4.out)).mono ?_
  rintro e w5 ⟨rfl, hb5⟩
  rw [HV.out.2.1]
  have H5 := Lib.hid (H4.out.trans (hb5.mono H4.out.size))
  clear hb5
  go_wp2_with fail
  refine (quote_any M _ (by have := HV.out.2.2.2.2.1; omega) (HT.out.1.below H5.out)).mono ?_
  rintro e w6 ⟨rfl, hb6⟩
  have H6 := Lib.hid (H5.out.trans (hb6.mono H5.out.size))
  clear hb6
  go_wp2_with fail
  refine (cM _).mono ?_
  rintro e w7 ⟨rfl, hb7⟩
  have H7 := Lib.hid (H6.out.trans (hb7.mono H6.out.size))
  clear hb7
  go_wp2_with fail
  refine (quote_any M _ (by have := HV.out.2.2.2.2.1; omega) (HT.out.1.below H7.out)).mono ?_
  rintro e w8 ⟨rfl, hb8⟩
  have H8 := Lib.hid (H7.out.trans (hb8.mono H7.out.size))
  clear hb8
  go_wp2
  go_ret
  exact ⟨rfl, H8.out⟩
end Go.Proofs.YthlioinmeimhoaaDoor
