/- The law's own reader: what stands at a place; blanks (printed by wip/gen_jpa.py). -/
import Derived.Test.YtccnfnoonpfdfaaGreatDoorJoC
namespace Go.Proofs.YtccnfnoonpfdfaaGreatDoor
open Go.Shelf Go.RowKit Go.Lib

theorem is_take : ∀ (t x : BL), (x.take t.length == t) = (isL t x).isSome
  | [], x => by rw [isL]; simp
  | a :: t, [] => by rw [isL]; simp
  | a :: t, c :: x => by
    have ih := is_take t x
    rw [isL]
    by_cases h : a = c
    · subst h
      rw [if_pos rfl, ← ih]
      simp
    · rw [if_neg h]
      simp only [List.length_cons, List.take_succ_cons, Option.isSome_none, beq_eq_false_iff_ne, ne_eq, List.cons.injEq, not_and]
      exact fun e => absurd e.symm h
set_option maxHeartbeats 4000000 in
set_option maxRecDepth 100000 in
/-- blank: the place behind the blanks. -/
theorem lblank_any (s : BL) (K : ByteArray) (hK : BA s = K) (i : Nat) (hi : i ≤ s.length) (hs : s.length ≤ 4096) (w : World) :
    Calls Tryz.prog 38 #[.string K, .int .i64 i] w fun e w' => ∃ j : Nat, e = .returned (.int .i64 j) ∧ i ≤ j ∧ j ≤ s.length ∧ s.drop j = blankL (s.drop i) ∧ w' = w := by
  have hN : K.size = s.length := by rw [← hK, ba_size]
  have HK := Lib.hid hK
  clear hK
  go_enter Tryz.func38, Tryz.ntmps38
  go_wp2_with fail
  go_loopg [1] (s.length - i) (fun gk iv wr => ∃ (j : Nat), gk + j = s.length ∧ iv = .int .i64 j ∧ i ≤ j ∧ Hid (blankL (s.drop j) = blankL (s.drop i)) ∧ wr = w)
  case atStart => exact ⟨i, by omega, rfl, Nat.le_refl _, Lib.hid rfl, rfl⟩
  case round =>
    obtain ⟨j, hg, rfl, hij, HC, rfl⟩ := hrel
    by_cases hj : j < s.length
    · have hjz : (j : Int) < (K.size : Int) := by omega
      have hjz2 : (j : Int) < (s.length : Int) := by omega
      have hz1 : decide ((j : Int) < (K.size : Int)) = true := by simpa using hjz
      have hwK : IntKind.i64.wrap ((j : Int) + 1) = ((j + 1 : Nat) : Int) := by rw [IntWalk.i64_in _ (by omega)]; omega
      have hjK : j < K.size := by omega
      obtain ⟨c, hc⟩ : ∃ c, K[j] = c := ⟨_, rfl⟩
      have hcs : s[j]? = some c := by rw [← hc]; exact ba_get HK.out j hjK
      have hdr : s.drop j = c :: s.drop (j + 1) := by
        obtain ⟨h, he⟩ := List.getElem?_eq_some_iff.1 hcs
        rw [List.drop_eq_getElem_cons h, he]
      have hsp : isBlank c = (c == 9 || c == 10 || c == 13 || c == 32) := by unfold isBlank; generalize (c == 9) = a1; generalize (c == 10) = a2; generalize (c == 13) = a3; generalize (c == 32) = a4; cases a1 <;> cases a2 <;> cases a3 <;> cases a4 <;> rfl
      obtain ⟨x1, hx1⟩ : ∃ x, (c == 9) = x := ⟨_, rfl⟩
      have q1 : (((c.toNat : Nat) : Int) == 9) = x1 := (u8_eq c 9 (by decide)).trans hx1
      obtain ⟨x2, hx2⟩ : ∃ x, (c == 10) = x := ⟨_, rfl⟩
      have q2 : (((c.toNat : Nat) : Int) == 10) = x2 := (u8_eq c 10 (by decide)).trans hx2
      obtain ⟨x3, hx3⟩ : ∃ x, (c == 13) = x := ⟨_, rfl⟩
      have q3 : (((c.toNat : Nat) : Int) == 13) = x3 := (u8_eq c 13 (by decide)).trans hx3
      obtain ⟨x4, hx4⟩ : ∃ x, (c == 32) = x := ⟨_, rfl⟩
      have q4 : (((c.toNat : Nat) : Int) == 32) = x4 := (u8_eq c 32 (by decide)).trans hx4
      rw [hx1, hx2, hx3, hx4] at hsp
      have HS := Lib.hid (And.intro hsp hdr)
      clear hcs hdr hsp hx1 hx2 hx3 hx4
      cases x1 with
      | true =>
        have hbl : isBlank c = true := HS.out.1.trans (by simp)
        have hrel : blankL (s.drop (j + 1)) = blankL (s.drop i) := by rw [← HC.out, HS.out.2, blankL, hbl]; rfl
        have HR := Lib.hid hrel
        clear hbl hrel
        go_wp2
        go_roundg (gk - 1)
        case rel => exact ⟨j + 1, by omega, rfl, by omega, HR, rfl⟩
        case measure => omega
      | false =>
        cases x2 with
        | true =>
          have hbl : isBlank c = true := HS.out.1.trans (by simp)
          have hrel : blankL (s.drop (j + 1)) = blankL (s.drop i) := by rw [← HC.out, HS.out.2, blankL, hbl]; rfl
          have HR := Lib.hid hrel
          clear hbl hrel
          go_wp2
          go_roundg (gk - 1)
          case rel => exact ⟨j + 1, by omega, rfl, by omega, HR, rfl⟩
          case measure => omega
        | false =>
          cases x3 with
          | true =>
            have hbl : isBlank c = true := HS.out.1.trans (by simp)
            have hrel : blankL (s.drop (j + 1)) = blankL (s.drop i) := by rw [← HC.out, HS.out.2, blankL, hbl]; rfl
            have HR := Lib.hid hrel
            clear hbl hrel
            go_wp2
            go_roundg (gk - 1)
            case rel => exact ⟨j + 1, by omega, rfl, by omega, HR, rfl⟩
            case measure => omega
          | false =>
            cases x4 with
            | true =>
              have hbl : isBlank c = true := HS.out.1.trans (by simp)
              have hrel : blankL (s.drop (j + 1)) = blankL (s.drop i) := by rw [← HC.out, HS.out.2, blankL, hbl]; rfl
              have HR := Lib.hid hrel
              clear hbl hrel
              go_wp2
              go_roundg (gk - 1)
              case rel => exact ⟨j + 1, by omega, rfl, by omega, HR, rfl⟩
              case measure => omega
            | false =>
              have hbl : isBlank c = false := HS.out.1.trans (by simp)
              have HR := Lib.hid (show s.drop j = blankL (s.drop i) by rw [← HC.out, HS.out.2, blankL, hbl]; rfl)
              clear hbl
              go_wp2
              go_ret
              exact ⟨j, rfl, hij, by omega, HR.out, rfl⟩
    · have hjz : ¬ (j : Int) < (K.size : Int) := by omega
      have hz1 : decide ((j : Int) < (K.size : Int)) = false := by simpa using hjz
      have hjz2 : ¬ (j : Int) < (s.length : Int) := by omega
      have HR := Lib.hid (show s.drop j = blankL (s.drop i) by rw [← HC.out, List.drop_eq_nil_of_le (by omega)]; rfl)
      go_wp2
      go_ret
      exact ⟨j, rfl, hij, by omega, HR.out, rfl⟩

set_option maxHeartbeats 4000000 in
set_option maxRecDepth 100000 in
/-- is: does a text stand at a place? -/
theorem lis_any (s t : BL) (K T : ByteArray) (hK : BA s = K) (hT : BA t = T) (i : Nat) (hi : i ≤ s.length) (hs : s.length ≤ 4096) (ht : t.length ≤ 10) (w : World) :
    Calls Tryz.prog 67 #[.string K, .int .i64 i, .string T] w fun e w' => e = .returned (.bool (isL t (s.drop i)).isSome) ∧ w' = w := by
  have hN : K.size = s.length := by rw [← hK, ba_size]
  have hM : T.size = t.length := by rw [← hT, ba_size]
  have HK := Lib.hid (And.intro hK hT)
  clear hK hT
  have h1 : (i : Int) ≤ (K.size : Int) := by omega
  have hz1 : decide ((i : Int) ≤ (K.size : Int)) = true := by simpa using h1
  obtain ⟨d, hd⟩ : ∃ d, s.length - i = d := ⟨_, rfl⟩
  have hw1 : IntKind.i64.wrap ((K.size : Int) - (i : Int)) = (d : Int) := by rw [IntWalk.i64_in _ (by omega)]; omega
  by_cases hl : t.length ≤ d
  · have h2 : (T.size : Int) ≤ (d : Int) := by omega
    have hz2 : decide ((T.size : Int) ≤ (d : Int)) = true := by simpa using h2
    obtain ⟨e2, he2⟩ : ∃ e, i + T.size = e := ⟨_, rfl⟩
    have hw2 : IntKind.i64.wrap ((i : Int) + (T.size : Int)) = (e2 : Int) := by rw [IntWalk.i64_in _ (by omega)]; omega
    have h3 : (e2 : Int) ≤ (K.size : Int) := by omega
    have h4 : (i : Int) ≤ (e2 : Int) := by omega
    go_enter Tryz.func67, Tryz.ntmps67
    go_wp2
    go_ret
    refine ⟨?_, rfl⟩
    have hr : ((K.extract i (i + t.length)).toList == T.toList) = (isL t (s.drop i)).isSome := by
      rw [← is_take, Lib.toList_data, Lib.toList_data, ← HK.out.1, ← HK.out.2, piece_ba (BA s) i t.length (by rw [ba_size]; omega)]
    rw [← hr]
    rfl
  · have h2 : ¬ (T.size : Int) ≤ (d : Int) := by omega
    have hz2 : decide ((T.size : Int) ≤ (d : Int)) = false := by simpa using h2
    have HR := Lib.hid (show (isL t (s.drop i)).isSome = false by
      cases h : isL t (s.drop i) with
      | none => rfl
      | some r =>
        have e := congrArg List.length (isL_len h)
        rw [List.length_append, List.length_drop] at e
        omega)
    go_enter Tryz.func67, Tryz.ntmps67
    go_wp2
    go_ret
    exact ⟨by rw [HR.out]; rfl, rfl⟩
end Go.Proofs.YtccnfnoonpfdfaaGreatDoor
