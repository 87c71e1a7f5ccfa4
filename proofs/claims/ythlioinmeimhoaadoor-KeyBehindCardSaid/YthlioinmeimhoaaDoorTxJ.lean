/- A text in quotes read: what text.Unquote answers. -/
import Derived.Test.YthlioinmeimhoaaDoorTxI
import Derived.Test.YthlioinmeimhoaaDoorFasB
namespace Go.Proofs.YthlioinmeimhoaaDoor
open Go.Shelf Go.RowKit Go.Lib

theorem charL_le (l : BL) (hne : l ≠ []) : (charL l).2 ≤ l.length := by
  have hK := decodeL_le l hne
  have hl1 : 0 < l.length := List.length_pos_iff.2 hne
  unfold charL
  split
  · dsimp only; omega
  split
  · exact hK
  split
  · rename_i h
    have : 1 < l.length := getD_len l 1 (l.getD 1 0) (fun e => h (by rw [e]; decide)) rfl
    dsimp only; omega
  split
  · dsimp only; omega
  split
  · dsimp only; omega
  · rename_i h
    dsimp only
    unfold wideL at h ⊢
    by_cases h1 : fourL (l.drop 2) < 0
    · rw [if_pos h1] at h; exact absurd rfl h
    rw [if_neg h1] at h ⊢
    have h4 := four_len (l.drop 2) (by omega)
    rw [List.length_drop] at h4
    by_cases h2 : fourL (l.drop 2) < 55296 ∨ 57343 < fourL (l.drop 2)
    · rw [if_pos h2]; dsimp only; omega
    rw [if_neg h2] at h ⊢
    split at h
    · exact absurd rfl h
    · rename_i h3
      rw [if_neg h3]
      have h5 : 0 ≤ fourL ((l.drop 2).drop 6) := by
        rcases Int.lt_or_le (fourL ((l.drop 2).drop 6)) 56320 with hx | hx
        · exact absurd (.inr (.inr (.inr (.inl hx)))) h3
        · omega
      have h6 := four_len _ h5
      rw [List.drop_drop, List.length_drop] at h6
      dsimp only; omega

theorem err_made (w : World) : Calls Tryd.prog 51 #[.int .i64 1, .string ⟨#[116, 101, 120, 116]⟩] w fun e w' => (∃ v, e = .returned v ∧ Chain w' 1 v 1) ∧ Below w.heap.size w w' := by
  refine (faultNew_some 1 ⟨#[116, 101, 120, 116]⟩ w (by decide)).mono ?_
  rintro e w' ⟨rfl, rfl⟩
  exact ⟨⟨_, rfl, _, _, _, rfl, heap_alloc_new w _, rfl⟩, (Below.refl _ _).alloc (Nat.le_refl _) _⟩

/-- What Unquote answers. -/
def Unq (l : BL) (e : Ending) (w' : World) : Prop :=
  match readL l with
  | none => ∃ v, e = .returned (.tuple #[.string ⟨#[]⟩, .int .i64 0, v]) ∧ Chain w' 1 v 1
  | some (t, m) => e = .returned (.tuple #[.string (BA t), .int .i64 m, .nilIface])

/-- what is read, of a part of which acc is read, by pos bytes. -/
def goOn (acc : BL) (pos : Nat) : Option (BL × Nat) → Option (BL × Nat)
  | none => none
  | some (t, m) => some (acc ++ t, m + pos)
theorem goOn_step (acc : BL) (pos : Nat) (l : BL) (hne : l ≠ []) (hq : l.getD 0 0 ≠ 34) (hz : (charL l).2 ≠ 0) :
    goOn acc pos (readB l) = goOn (acc ++ encodeRune (charL l).1) (pos + (charL l).2) (readB (l.drop (charL l).2)) := by
  rw [readB_step l hne hq hz]
  cases readB (l.drop (charL l).2) with
  | none => rfl
  | some p =>
    obtain ⟨t, m⟩ := p
    simp only [goOn]
    rw [List.append_assoc, show (charL l).2 + m + pos = m + (pos + (charL l).2) by omega]

set_option maxHeartbeats 4000000 in
set_option maxRecDepth 100000 in
theorem unquote_any (s : ByteArray) (w : World) (hs : s.size ≤ 1099511627776) (hT : Tabs w) :
    Calls Tryd.prog 29 #[.string s] w fun e w' => Unq s.data.toList e w' ∧ Below w.heap.size w w' := by
  obtain ⟨L, hL⟩ : ∃ L, s.data.toList = L := ⟨_, rfl⟩
  have hLs : L.length = s.size := by rw [← hL, ← size_eq]
  have HT := Lib.hid hT
  have HL := Lib.hid hL
  clear hT
  rw [hL]
  by_cases h0 : s.size = 0
  · have hLn : L = [] := List.eq_nil_of_length_eq_zero (by omega)
    have hs0 : s = ⟨#[]⟩ := by
      rw [← ba_list s, hL, hLn]
    subst hLn
    clear hL HL hLs h0 hs HT
    subst hs0
    go_enter Tryd.func29, Tryd.ntmps29
    go_wp2_with fail
    refine (err_made _).mono ?_
    rintro e w1 ⟨⟨v, rfl, hc⟩, hb1⟩
    have H := Lib.hid (And.intro hc (((Below.refl _ w).alloc (Nat.le_refl _) _).trans (hb1.mono (by simp))))
    clear hc hb1
    go_wp2
    go_ret3
    exact ⟨⟨v, rfl, H.out.1⟩, H.out.2⟩
  have h1 : 0 < s.size := by omega
  have h1z : (0 : Int) < (s.size : Int) := by omega
  have hLne : s.toList.isEmpty = false := by
    rw [Lib.toList_data, hL]
    cases L with
    | nil => simp at hLs; omega
    | cons _ _ => rfl
  obtain ⟨b0, hb0⟩ : ∃ b, s[0]'h1 = b := ⟨_, rfl⟩
  have hb0L : L.getD 0 0 = b0 := by rw [← hL, getD_get!', Utf8W.get!_of_lt s 0 h1, hb0]
  clear hL h0
  by_cases hq : b0 = 34
  · have hqz : (b0.toNat : Int) = 34 := by rw [hq]; rfl
    have hRL : readL L = goOn [] 1 (readB (L.drop 1)) := by
      unfold readL
      rw [if_neg (by rw [hb0L, hq]; decide)]
      cases readB (L.drop 1) with
      | none => rfl
      | some p => rfl
    have HQ := Lib.hid hRL
    clear hRL hb0L hq
    go_enter Tryd.func29, Tryd.ntmps29
    go_wp2
    go_loopg [6] (s.size - 1) (fun gk iv wr => ∃ (pos : Nat) (acc : BL), gk + pos = s.size ∧ 1 ≤ pos ∧ iv = .int .i64 pos ∧ BH w.heap.size w.heap.size acc wr ∧ readL L = goOn acc pos (readB (L.drop pos)) ∧ acc.length ≤ 4 * pos ∧ Below w.heap.size w wr)
    case atStart => exact ⟨1, [], by omega, by omega, rfl, Lib.IsBuilderF.of (Lib.fresh_isBuilder _ _ w), HQ.out, by simp, (Below.refl _ w).alloc (Nat.le_refl _) _⟩
    case round =>
      obtain ⟨pos, acc, hg, hp1, rfl, hB, hacc, hal, hbw⟩ := hrel
      have HB := Lib.hid (And.intro hB (And.intro hacc (And.intro hal hbw)))
      clear hB hacc hal hbw
      by_cases hp : pos < s.size
      · have hpz : (pos : Int) < (s.size : Int) := by omega
        have hple : (pos : Int) ≤ (s.size : Int) := by omega
        have hp0 : (0 : Int) ≤ (pos : Int) := by omega
        obtain ⟨b, hb⟩ : ∃ b, s[pos]'hp = b := ⟨_, rfl⟩
        have hbL : L.getD pos 0 = b := by rw [← HL.out, getD_get!', Utf8W.get!_of_lt s pos hp, hb]
        have hw1 : IntKind.i64.wrap ((pos : Int) + 1) = ((pos + 1 : Nat) : Int) := by rw [IntWalk.i64_in _ (by omega)]; omega
        obtain ⟨D, hD⟩ : ∃ D, L.drop pos = D := ⟨_, rfl⟩
        have hDne : D ≠ [] := fun e => by
          have := congrArg List.length (hD.trans e)
          rw [List.length_drop] at this
          simp at this
          omega
        have hbD : D.getD 0 0 = b := by rw [← hD, getD_drop0, Nat.add_zero, hbL]
        have hsz := HB.out.2.2.2.size
        by_cases hbq : b = 34
        · have hbz : (b.toNat : Int) = 34 := by rw [hbq]; rfl
          have hans : readL L = some (acc, pos + 1) := by
            rw [HB.out.2.1, hD, readB_quote D hDne (by rw [hbD, hbq])]
            simp only [goOn, List.append_nil]
            rw [Nat.add_comm]
          have HA := Lib.hid (And.intro hans hsz)
          clear hans hbq hD hDne hbD hbL hsz
          go_wp2_with fail
          refine (bh_get _ _ acc _ HB.out.1 HA.out.2).mono ?_
          rintro e w2 ⟨rfl, hb2⟩
          have H2 := Lib.hid (HB.out.2.2.2.trans hb2)
          clear hb2
          go_wp2
          go_ret3
          refine ⟨?_, H2.out⟩
          unfold Unq
          rw [HA.out.1]
          rfl
        · have hbz : ¬ (b.toNat : Int) = 34 := fun h => hbq (UInt8.toNat_inj.1 (by show b.toNat = 34; omega))
          have hbz2 : ((b.toNat : Int) == 34) = false := beq_eq_false_iff_ne.2 hbz
          obtain ⟨X, hX⟩ : ∃ X, s.extract pos s.size = X := ⟨_, rfl⟩
          have hXD : X.data.toList = D := by rw [← hX, drop_ba s pos (by omega), HL.out, hD]
          have cN : Calls Tryd.prog 52 #[.string X] wr _ := next_any X wr (by rw [hXD]; exact hDne) (HT.out.below HB.out.2.2.2)
          rw [hXD] at cN
          have hNle := charL_le D hDne
          have hrng := charL_range D
          have hDl : D.length = s.size - pos := by rw [← hD, List.length_drop]; omega
          have hgo := goOn_step acc pos D hDne (by rw [hbD]; exact hbq)
          have hbad := readB_bad D (by rw [hbD]; exact hbq)
          obtain ⟨N, hN⟩ : ∃ N, (charL D).2 = N := ⟨_, rfl⟩
          obtain ⟨R, hR⟩ : ∃ R, (charL D).1 = R := ⟨_, rfl⟩
          rw [hN, hR] at cN
          rw [hN] at hNle hbad
          rw [hR] at hrng
          simp only [hN, hR] at hgo
          by_cases hN0 : N = 0
          · have hans : readL L = none := by
              rw [HB.out.2.1, hD, hbad hN0]
              rfl
            subst hN0
            have HA := Lib.hid (And.intro hans hsz)
            clear hans hbq hD hDne hbD hbL hsz hgo hbad hNle hrng hDl hXD hN hR
            go_wp2_with fail
            refine cN.mono ?_
            rintro e w2 ⟨⟨r, rfl, _⟩, hb2⟩
            have H2 := Lib.hid (HB.out.2.2.2.trans (hb2.mono HA.out.2))
            clear hb2 cN
            go_wp2_with fail
            refine (err_made _).mono ?_
            rintro e w3 ⟨⟨v, rfl, hc⟩, hb3⟩
            have H3 := Lib.hid (And.intro hc (H2.out.trans (hb3.mono H2.out.size)))
            clear hc hb3
            go_wp2
            go_ret3
            refine ⟨?_, H3.out.2⟩
            unfold Unq
            rw [HA.out.1]
            exact ⟨v, rfl, H3.out.1⟩
          · have hNz : ¬ (N : Int) = 0 := by omega
            have hNz2 : ((N : Int) == 0) = false := beq_eq_false_iff_ne.2 hNz
            have hNz3 : decide (N = 0) = false := decide_eq_false hN0
            have hNz4 : (N == 0) = false := beq_eq_false_iff_ne.2 hN0
            have hwN : IntKind.i64.wrap ((pos : Int) + (N : Int)) = ((pos + N : Nat) : Int) := by rw [IntWalk.i64_in _ (by omega)]; omega
            have hg1 := hgo hN0
            have hdd : D.drop N = L.drop (pos + N) := by rw [← hD, List.drop_drop]
            have hel : (encodeRune R).length ≤ 4 := by
              have := encodeRuneZ_length R
              unfold encodeRune
              rw [List.length_map]
              omega
            have hNle2 : pos + N ≤ s.size := by omega
            rw [hdd] at hg1
            have hst : readL L = goOn (acc ++ encodeRune R) (pos + N) (readB (L.drop (pos + N))) := by rw [HB.out.2.1, hD]; exact hg1
            have hal4 : acc.length + 4 ≤ 140737488355328 := by have := HB.out.2.2.1; omega
            have HA := Lib.hid (And.intro hst (And.intro hsz (And.intro hel (And.intro hrng (And.intro hal4 hNle2)))))
            clear hst hg1 hgo hbad hNle hrng hDl hXD hN hR hdd hel hsz hal4 hbq hD hDne hbD hbL hNle2 hbz
            go_wp2_with fail
            refine cN.mono ?_
            rintro e w2 ⟨⟨r, rfl, hr⟩, hb2⟩
            obtain rfl := hr hN0
            have H2 := Lib.hid (And.intro (HB.out.1.below hb2) (HB.out.2.2.2.trans (hb2.mono HA.out.2.1)))
            clear hb2 cN hr
            go_wp2_with fail
            refine (bh_rune _ _ acc r (by have := HA.out.2.2.2.1; omega) (by have := HA.out.2.2.2.1; omega) _ H2.out.1 HA.out.2.2.2.2.1 H2.out.2.size).mono ?_
            rintro e w3 ⟨⟨v, rfl⟩, h3, hb3⟩
            have H3 := Lib.hid (And.intro h3 (H2.out.2.trans hb3))
            clear h3 hb3
            go_wp2
            go_roundg (gk - N)
            case rel =>
              refine ⟨pos + N, acc ++ encodeRune r, ?_, by omega, rfl, H3.out.1, HA.out.1, ?_, H3.out.2⟩
              · have := HA.out.2.2.2.2.2; omega
              · have := HA.out.2.2.1
                have h5 := HB.out.2.2.1
                rw [List.length_append]
                omega
            case measure => omega
      · have hpz : ¬ (pos : Int) < (s.size : Int) := by omega
        have hans : readL L = none := by
          rw [HB.out.2.1, List.drop_eq_nil_of_le (by omega), readB_nil]
          rfl
        have HA := Lib.hid hans
        clear hans
        go_wp2_with fail
        refine (err_made _).mono ?_
        rintro e w3 ⟨⟨v, rfl, hc⟩, hb3⟩
        have H3 := Lib.hid (And.intro hc (HB.out.2.2.2.trans (hb3.mono HB.out.2.2.2.size)))
        clear hc hb3
        go_wp2
        go_ret3
        refine ⟨?_, H3.out.2⟩
        unfold Unq
        rw [HA.out]
        exact ⟨v, rfl, H3.out.1⟩
  · have hqz : ¬ (b0.toNat : Int) = 34 := fun h => hq (UInt8.toNat_inj.1 (by show b0.toNat = 34; omega))
    have hqz2 : ((b0.toNat : Int) == 34) = false := beq_eq_false_iff_ne.2 hqz
    have hqz3 : ((b0.toNat : Int) != 34) = true := by simp [bne, hqz2]
    have hRL : readL L = none := by
      unfold readL
      rw [if_pos (by rw [hb0L]; exact hq)]
    have HQ := Lib.hid hRL
    clear hRL hb0L hq hqz
    go_enter Tryd.func29, Tryd.ntmps29
    go_wp2_with fail
    refine (err_made _).mono ?_
    rintro e w1 ⟨⟨v, rfl, hc⟩, hb1⟩
    have H := Lib.hid (And.intro hc (((Below.refl _ w).alloc (Nat.le_refl _) _).trans (hb1.mono (by simp))))
    clear hc hb1
    go_wp2
    go_ret3
    refine ⟨?_, H.out.2⟩
    unfold Unq
    rw [HQ.out]
    exact ⟨v, rfl, H.out.1⟩
end Go.Proofs.YthlioinmeimhoaaDoor
