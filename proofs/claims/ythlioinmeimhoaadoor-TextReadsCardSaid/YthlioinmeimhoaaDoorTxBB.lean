/- The law's Read and Bend. -/
import Derived.Test.YthlioinmeimhoaaDoorTxAA
import Derived.Test.YthlioinmeimhoaaDoorTxX
namespace Go.Proofs.YthlioinmeimhoaaDoor
open Go.Shelf Go.RowKit Go.Lib

theorem char_any (s : ByteArray) (at_ : Nat) (w : World) (hs : s.size ≤ 1099511627000) (hat : at_ < s.size) :
    Calls Tryd.prog 54 #[.string s, .int .i64 at_] w fun e w' => e = .returned (.tuple #[.int .i32 (charL (s.data.toList.drop at_)).1, .int .i64 (charL (s.data.toList.drop at_)).2]) ∧ Below w.heap.size w w' := by
  by_cases h : (decodeL (s.data.toList.drop at_)).1 = 92
  · exact char_back s at_ w hs hat h
  · exact char_plain s at_ w hs hat h

/-- What Read answers. -/
def Rd (l : BL) (e : Ending) : Prop :=
  match readL l with
  | none => e = .returned (.tuple #[.string ⟨#[]⟩, .int .i64 0])
  | some (t, m) => e = .returned (.tuple #[.string (BA t), .int .i64 m])

theorem one_rune2 (r : Int) (W : World) (b : Nat) (hc : W.cell? ⟨b, 0, none⟩ = some (.int .i32 r)) : (convert 58 9 (.slice (some ⟨b, 0, none⟩) 1 1)).run Tryd.prog W = .ok (.string (BA (encodeRune r))) W := by
  have := run_convert_runes W 58 9 21 ⟨b, 0, none⟩ 1 1 [r] (by simp) Tryd.underlying58 Tryd.underlying21 Tryd.underlying9 (fun j hj => by
    simp at hj
    subst hj
    simpa [Addr.add] using hc)
  rw [this, List.take_of_length_le (by simp), runes_one]

set_option maxHeartbeats 4000000 in
set_option maxRecDepth 100000 in
theorem read_any (s : ByteArray) (w : World) (hs : s.size ≤ 1099511627000) :
    Calls Tryd.prog 30 #[.string s] w fun e w' => Rd s.data.toList e ∧ Below w.heap.size w w' := by
  have cC := fun n (hn : n < s.size) W => char_any s n W hs hn
  obtain ⟨L, hL⟩ : ∃ L, s.data.toList = L := ⟨_, rfl⟩
  have hLs : L.length = s.size := by rw [← hL, ← size_eq]
  have HL := Lib.hid hL
  simp only [hL] at cC
  rw [hL]
  by_cases h0 : s.size = 0
  · have hLn : L = [] := List.eq_nil_of_length_eq_zero (by omega)
    have hs0 : s = ⟨#[]⟩ := by
      rw [← ba_list s, hL, hLn]
    subst hLn
    clear hL HL hLs h0 hs cC
    subst hs0
    go_enter Tryd.func30, Tryd.ntmps30
    go_wp2
    go_ret2
    exact ⟨rfl, Below.refl _ _⟩
  have h1 : 0 < s.size := by omega
  have h1z : (0 : Int) < (s.size : Int) := by omega
  have hLne : s.toList.isEmpty = false := by
    rw [Lib.toList_data, hL]
    cases L with
    | nil => simp at hLs; omega
    | cons _ _ => rfl
  obtain ⟨b0, hb0⟩ : ∃ b, s[0]'h1 = b := ⟨_, rfl⟩
  have hb0L : L.getD 0 0 = b0 := by rw [← hL, getD_get!', Utf8W.get!_of_lt s 0 h1, hb0]
  clear hL h0
  by_cases hq : b0 = 34
  · have hqz : (b0.toNat : Int) = 34 := by rw [hq]; rfl
    have hRL : readL L = goOn [] 1 (readB (L.drop 1)) := by
      unfold readL
      rw [if_neg (by rw [hb0L, hq]; decide)]
      cases readB (L.drop 1) with
      | none => rfl
      | some p => rfl
    have HQ := Lib.hid hRL
    have HCC := Lib.hid cC
    clear hRL hb0L hq cC
    go_enter Tryd.func30, Tryd.ntmps30
    go_wp2
    go_loopg [4, 5] (s.size - 1) (fun gk ov iv wr => ∃ (pos : Nat) (acc : BL) (O : ByteArray), gk + pos = s.size ∧ 1 ≤ pos ∧ iv = .int .i64 pos ∧ ov = .string O ∧ O.data.toList = acc ∧ readL L = goOn acc pos (readB (L.drop pos)) ∧ acc.length ≤ 4 * pos ∧ Below w.heap.size w wr)
    case atStart => exact ⟨1, [], ⟨#[]⟩, by omega, by omega, rfl, rfl, rfl, HQ.out, by simp, Below.refl _ _⟩
    case round =>
      obtain ⟨pos, acc, O, hg, hp1, rfl, rfl, hO, hacc, hal, hbw⟩ := hrel
      have hOs : O.size ≤ 8796093022208 := by rw [size_eq, hO]; omega
      have HB := Lib.hid (And.intro hO (And.intro hacc (And.intro hal hbw)))
      clear hO hacc hal hbw
      by_cases hp : pos < s.size
      · have hpz : (pos : Int) < (s.size : Int) := by omega
        have hple : (pos : Int) ≤ (s.size : Int) := by omega
        have hp0 : (0 : Int) ≤ (pos : Int) := by omega
        obtain ⟨b, hb⟩ : ∃ b, s[pos]'hp = b := ⟨_, rfl⟩
        have hbL : L.getD pos 0 = b := by rw [← HL.out, getD_get!', Utf8W.get!_of_lt s pos hp, hb]
        have hw1 : IntKind.i64.wrap ((pos : Int) + 1) = ((pos + 1 : Nat) : Int) := by rw [IntWalk.i64_in _ (by omega)]; omega
        obtain ⟨D, hD⟩ : ∃ D, L.drop pos = D := ⟨_, rfl⟩
        have hDne : D ≠ [] := fun e => by
          have := congrArg List.length (hD.trans e)
          rw [List.length_drop] at this
          simp at this
          omega
        have hbD : D.getD 0 0 = b := by rw [← hD, getD_drop0, Nat.add_zero, hbL]
        by_cases hbq : b = 34
        · have hbz : (b.toNat : Int) = 34 := by rw [hbq]; rfl
          have hans : readL L = some (acc, pos + 1) := by
            rw [HB.out.2.1, hD, readB_quote D hDne (by rw [hbD, hbq])]
            simp only [goOn, List.append_nil]
            rw [Nat.add_comm]
          have hBO : BA acc = O := by rw [← HB.out.1, ba_list]
          have HA := Lib.hid (And.intro hans hBO)
          clear hans hbq hD hDne hbD hbL hBO
          go_wp2
          go_ret2
          refine ⟨?_, HB.out.2.2.2⟩
          unfold Rd
          rw [HA.out.1]
          dsimp only
          rw [HA.out.2]
          rfl
        · have hbz : ¬ (b.toNat : Int) = 34 := fun h => hbq (UInt8.toNat_inj.1 (by show b.toNat = 34; omega))
          have hbz2 : ((b.toNat : Int) == 34) = false := beq_eq_false_iff_ne.2 hbz
          have cN := HCC.out pos hp wr
          rw [hD] at cN
          have hNle := charL_le D hDne
          have hDl : D.length = s.size - pos := by rw [← hD, List.length_drop]; omega
          have hgo := goOn_step acc pos D hDne (by rw [hbD]; exact hbq)
          have hbad := readB_bad D (by rw [hbD]; exact hbq)
          have hrng := charL_range D
          obtain ⟨N, hN⟩ : ∃ N, (charL D).2 = N := ⟨_, rfl⟩
          obtain ⟨R, hR⟩ : ∃ R, (charL D).1 = R := ⟨_, rfl⟩
          rw [hN, hR] at cN
          rw [hN] at hNle hbad
          rw [hR] at hrng
          simp only [hN, hR] at hgo
          by_cases hN0 : N = 0
          · have hans : readL L = none := by
              rw [HB.out.2.1, hD, hbad hN0]
              rfl
            subst hN0
            have HA := Lib.hid hans
            clear hans hbq hD hDne hbD hbL hgo hbad hNle hrng hDl hN hR
            go_wp2_with fail
            refine cN.mono ?_
            rintro e w2 ⟨rfl, hb2⟩
            have H2 := Lib.hid (HB.out.2.2.2.trans (hb2.mono HB.out.2.2.2.size))
            clear hb2 cN
            go_wp2
            go_ret2
            refine ⟨?_, H2.out⟩
            unfold Rd
            rw [HA.out]
            rfl
          · have hNz : ¬ (N : Int) = 0 := by omega
            have hNz2 : ((N : Int) == 0) = false := beq_eq_false_iff_ne.2 hNz
            have hNz3 : decide (N = 0) = false := decide_eq_false hN0
            have hNz4 : (N == 0) = false := beq_eq_false_iff_ne.2 hN0
            have hwN : IntKind.i64.wrap ((pos : Int) + (N : Int)) = ((pos + N : Nat) : Int) := by rw [IntWalk.i64_in _ (by omega)]; omega
            have hg1 := hgo hN0
            have hdd : D.drop N = L.drop (pos + N) := by rw [← hD, List.drop_drop]
            have hel : (encodeRune R).length ≤ 4 := by
              have := encodeRuneZ_length R
              unfold encodeRune
              rw [List.length_map]
              omega
            have hNle2 : pos + N ≤ s.size := by omega
            rw [hdd] at hg1
            have hst : readL L = goOn (acc ++ encodeRune R) (pos + N) (readB (L.drop (pos + N))) := by rw [HB.out.2.1, hD]; exact hg1
            obtain ⟨E, hE⟩ : ∃ E, BA (encodeRune R) = E := ⟨_, rfl⟩
            have hEL : E.data.toList = encodeRune R := by rw [← hE]
            have hEs : E.size ≤ 4 := by rw [size_eq, hEL]; exact hel
            have hcv := fun W b hc => one_rune2 R W b hc
            simp only [hE] at hcv
            have hcat : ¬ 9223372036854775807 < O.size + E.size := by omega
            have HA := Lib.hid (And.intro hst (And.intro hel (And.intro hEL hNle2)))
            clear hst hg1 hgo hbad hNle hrng hDl hN hR hdd hel hbq hD hDne hbD hbL hNle2 hbz hEL hE hEs
            go_wp2_with fail
            refine cN.mono ?_
            rintro e w2 ⟨rfl, hb2⟩
            have H2 := Lib.hid (HB.out.2.2.2.trans (hb2.mono HB.out.2.2.2.size))
            clear hb2 cN
            go_wp2
            go_roundg (gk - N)
            case rel =>
              refine ⟨pos + N, acc ++ encodeRune R, O ++ E, ?_, by omega, rfl, rfl, ?_, HA.out.1, ?_, H2.out.alloc H2.out.size _⟩
              · have := HA.out.2.2.2; omega
              · rw [app_list, HB.out.1, HA.out.2.2.1]
              · have := HA.out.2.1
                have h5 := HB.out.2.2.1
                rw [List.length_append]
                omega
            case measure => omega
      · have hpz : ¬ (pos : Int) < (s.size : Int) := by omega
        have hans : readL L = none := by
          rw [HB.out.2.1, List.drop_eq_nil_of_le (by omega), readB_nil]
          rfl
        have HA := Lib.hid hans
        clear hans
        go_wp2
        go_ret2
        refine ⟨?_, HB.out.2.2.2⟩
        unfold Rd
        rw [HA.out]
        rfl
  · have hqz : ¬ (b0.toNat : Int) = 34 := fun h => hq (UInt8.toNat_inj.1 (by show b0.toNat = 34; omega))
    have hqz2 : ((b0.toNat : Int) == 34) = false := beq_eq_false_iff_ne.2 hqz
    have hqz3 : ((b0.toNat : Int) != 34) = true := by simp [bne, hqz2]
    have hRL : readL L = none := by
      unfold readL
      rw [if_pos (by rw [hb0L]; exact hq)]
    have HQ := Lib.hid hRL
    clear hRL hb0L hq hqz cC
    go_enter Tryd.func30, Tryd.ntmps30
    go_wp2
    go_ret2
    refine ⟨?_, Below.refl _ _⟩
    unfold Rd
    rw [HQ.out]
    rfl
end Go.Proofs.YthlioinmeimhoaaDoor
