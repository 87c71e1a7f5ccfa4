/- One or two numbers of four digits; what stands behind a backslash; a character. -/
import Derived.Test.YthlioinmeimhoaaDoorTxG
namespace Go.Proofs.YthlioinmeimhoaaDoor
open Go.Shelf Go.RowKit Go.Lib

set_option maxRecDepth 100000 in
theorem sized_any (b : Bool) (n : Int) (w : World) :
    Calls Tryd.prog 80 #[.bool b, .int .i64 n] w fun e w' => e = .returned (.int .i64 (if b then n else 0)) ∧ w' = w := by
  cases b
  · go_enter Tryd.func80, Tryd.ntmps80
    go_wp2
    go_ret
    exact ⟨rfl, rfl⟩
  · go_enter Tryd.func80, Tryd.ntmps80
    go_wp2
    go_ret
    exact ⟨rfl, rfl⟩

theorem prefix_u (l : BL) : Lib.hasPrefix l [92, 117] = true ↔ l.getD 0 0 = 92 ∧ l.getD 1 0 = 117 := by
  match l with
  | [] => decide
  | [a] => simp [Lib.hasPrefix]
  | a :: b :: t =>
    simp [Lib.hasPrefix, List.isPrefixOf]
    constructor
    · rintro ⟨rfl, rfl⟩; exact ⟨rfl, rfl⟩
    · rintro ⟨rfl, rfl⟩; exact ⟨rfl, rfl⟩

def wn (l : BL) : Nat := if (wideL l).2 = 0 then 0 else (wideL l).2 + 1
theorem getD_drop0 (l : BL) (p k : Nat) : (l.drop p).getD k 0 = l.getD (p + k) 0 := by simp [List.getD, List.getElem?_drop]
theorem four_len (l : BL) (h : 0 ≤ fourL l) : 4 ≤ l.length := by
  rcases Nat.lt_or_ge 3 l.length with h1 | h1
  · omega
  · rw [four_short l 3 (by omega) h1] at h; omega
theorem getD_len (l : BL) (i : Nat) (c : UInt8) (hc : c ≠ 0) (h : l.getD i 0 = c) : i < l.length := by
  rcases Nat.lt_or_ge i l.length with h1 | h1
  · exact h1
  · simp [List.getD, List.getElem?_eq_none h1] at h
    exact absurd h.symm hc

set_option maxHeartbeats 2000000 in
set_option maxRecDepth 100000 in
theorem wide_any (s : ByteArray) (w : World) :
    Calls Tryd.prog 98 #[.string s] w fun e w' => (∃ r, e = .returned (.tuple #[.int .i32 r, .int .i64 (wn s.data.toList)]) ∧ (wn s.data.toList ≠ 0 → r = (wideL s.data.toList).1)) ∧ Below w.heap.size w w' := by
  have c1 := fun W => four_any s W
  obtain ⟨L, hL⟩ : ∃ L, s.data.toList = L := ⟨_, rfl⟩
  have hLs : L.length = s.size := by rw [← hL, ← size_eq]
  have hX4 : ∀ n, n ≤ s.size → (s.extract n s.size).data.toList = L.drop n := fun n h => by rw [drop_ba s n h, hL]
  rw [hL]
  simp only [hL] at c1
  clear hL
  have hr := fourL_range L
  obtain ⟨a, ha⟩ : ∃ a, fourL L = a := ⟨_, rfl⟩
  simp only [ha] at c1
  rw [ha] at hr
  have h04 : 0 ≤ a → 4 ≤ s.size := fun h => by rw [← hLs]; exact four_len L (by rw [ha]; exact h)
  by_cases hc1 : a < 0
  · have hw0 : wideL L = (0, 0) := by unfold wideL; rw [ha, if_pos hc1]
    have hwn : wn L = 0 := by unfold wn; rw [hw0]; rfl
    rw [hwn]
    have hdec : a < 55296 := by omega
    have hdec2 : decide (0 ≤ a) = false := decide_eq_false (by omega)
    have HX := Lib.hid hX4
    clear hX4 h04
    go_enter Tryd.func98, Tryd.ntmps98
    go_wp2_with fail
    refine (c1 _).mono ?_
    rintro e w1 ⟨rfl, hb1⟩
    have HB := Lib.hid hb1
    clear hb1
    go_wp2_with fail
    refine (sized_any false 5 _).mono ?_
    rintro e w2 ⟨rfl, rfl⟩
    go_wp2
    go_ret2
    exact ⟨⟨_, rfl, fun h => absurd rfl h⟩, HB.out⟩
  by_cases hc2 : a < 55296 ∨ 57343 < a
  · have hw0 : wideL L = (a, 4) := by unfold wideL; rw [ha, if_neg hc1, if_pos hc2]
    have hwn : wn L = 5 := by unfold wn; rw [hw0]; rfl
    rw [hwn, hw0]
    have hdec2 : decide (0 ≤ a) = true := decide_eq_true (by omega)
    have HX := Lib.hid hX4
    clear hX4 h04
    rcases hc2 with hc2 | hc2
    · go_enter Tryd.func98, Tryd.ntmps98
      go_wp2_with fail
      refine (c1 _).mono ?_
      rintro e w1 ⟨rfl, hb1⟩
      have HB := Lib.hid hb1
      clear hb1
      go_wp2_with fail
      refine (sized_any true 5 _).mono ?_
      rintro e w2 ⟨rfl, rfl⟩
      go_wp2
      go_ret2
      exact ⟨⟨_, rfl, fun _ => rfl⟩, HB.out⟩
    · have hdec : decide (a < 55296) = false := decide_eq_false (by omega)
      go_enter Tryd.func98, Tryd.ntmps98
      go_wp2_with fail
      refine (c1 _).mono ?_
      rintro e w1 ⟨rfl, hb1⟩
      have HB := Lib.hid hb1
      clear hb1
      go_wp2_with fail
      refine (sized_any true 5 _).mono ?_
      rintro e w2 ⟨rfl, rfl⟩
      go_wp2
      go_ret2
      exact ⟨⟨_, rfl, fun _ => rfl⟩, HB.out⟩
  · have hs4 := h04 (by omega)
    have hdec : decide (a < 55296) = false := decide_eq_false (by omega)
    have hdec0 : decide (57343 < a) = false := decide_eq_false (by omega)
    have hs4z : (4 : Int) ≤ (s.size : Int) := by omega
    obtain ⟨X, hX⟩ : ∃ X, s.extract 4 s.size = X := ⟨_, rfl⟩
    have hXL : X.data.toList = L.drop 4 := by rw [← hX]; exact hX4 4 hs4
    have cP : ∀ W, Calls Tryd.prog 90 #[.string X, .string ⟨#[92, 117]⟩] W fun e w' => e = .returned (.bool (Lib.hasPrefix (L.drop 4) [92, 117])) ∧ w' = W := fun W => by
      have h := Tryd.strings_HasPrefix X ⟨#[92, 117]⟩ W
      rw [hXL] at h
      exact h
    have hpx := prefix_u (L.drop 4)
    rw [getD_drop0, getD_drop0] at hpx
    have hc1a : 0 ≤ a := by omega
    by_cases hp : L.getD 4 0 = 92 ∧ L.getD 5 0 = 117
    · rw [show Lib.hasPrefix (L.drop 4) [92, 117] = true from hpx.2 hp] at cP
      have h6 : 6 ≤ s.size := by rw [← hLs]; exact getD_len L 5 117 (by decide) hp.2
      have h6z : (6 : Int) ≤ (s.size : Int) := by omega
      obtain ⟨Y, hY⟩ : ∃ Y, s.extract 6 s.size = Y := ⟨_, rfl⟩
      have hYL : Y.data.toList = L.drop 6 := by rw [← hY]; exact hX4 6 h6
      have c2 := fun W => four_any Y W
      simp only [hYL] at c2
      have hr2 := fourL_range (L.drop 6)
      obtain ⟨b, hb⟩ : ∃ b, fourL (L.drop 6) = b := ⟨_, rfl⟩
      simp only [hb] at c2
      rw [hb] at hr2
      by_cases hq : 56320 ≤ a ∨ b < 56320 ∨ 57343 < b
      · have hw0 : wideL L = (0, 0) := by
          unfold wideL
          rw [ha, if_neg hc1, if_neg hc2, hb, if_pos]
          rcases hq with h | h | h
          · exact .inl h
          · exact .inr (.inr (.inr (.inl h)))
          · exact .inr (.inr (.inr (.inr h)))
        have hwn : wn L = 0 := by unfold wn; rw [hw0]; rfl
        rw [hwn]
        clear hpx hX4 h04 hXL hYL hp hc2 hw0
        by_cases hq1 : 56320 ≤ a
        · have hq1d : decide (56320 ≤ a) = true := decide_eq_true hq1
          clear hq
          go_enter Tryd.func98, Tryd.ntmps98
          go_wp2_with fail
          refine (c1 _).mono ?_
          rintro e w1 ⟨rfl, hb1⟩
          have HB := Lib.hid hb1
          clear hb1
          go_wp2_with fail
          refine (cP _).mono ?_
          rintro e w2 ⟨rfl, rfl⟩
          go_wp2_with fail
          refine (c2 _).mono ?_
          rintro e w3 ⟨rfl, hb3⟩
          have HB3 := Lib.hid (HB.out.trans (hb3.mono HB.out.size))
          clear hb3
          go_wp2
          go_ret2
          exact ⟨⟨_, rfl, fun h => absurd rfl h⟩, HB3.out⟩
        have hq1d : decide (56320 ≤ a) = false := decide_eq_false hq1
        by_cases hq2 : b < 56320
        · have hq2d : decide (b < 56320) = true := decide_eq_true hq2
          clear hq
          go_enter Tryd.func98, Tryd.ntmps98
          go_wp2_with fail
          refine (c1 _).mono ?_
          rintro e w1 ⟨rfl, hb1⟩
          have HB := Lib.hid hb1
          clear hb1
          go_wp2_with fail
          refine (cP _).mono ?_
          rintro e w2 ⟨rfl, rfl⟩
          go_wp2_with fail
          refine (c2 _).mono ?_
          rintro e w3 ⟨rfl, hb3⟩
          have HB3 := Lib.hid (HB.out.trans (hb3.mono HB.out.size))
          clear hb3
          go_wp2
          go_ret2
          exact ⟨⟨_, rfl, fun h => absurd rfl h⟩, HB3.out⟩
        · have hq2d : decide (b < 56320) = false := decide_eq_false hq2
          have hq3d : decide (57343 < b) = true := decide_eq_true (by omega)
          clear hq
          go_enter Tryd.func98, Tryd.ntmps98
          go_wp2_with fail
          refine (c1 _).mono ?_
          rintro e w1 ⟨rfl, hb1⟩
          have HB := Lib.hid hb1
          clear hb1
          go_wp2_with fail
          refine (cP _).mono ?_
          rintro e w2 ⟨rfl, rfl⟩
          go_wp2_with fail
          refine (c2 _).mono ?_
          rintro e w3 ⟨rfl, hb3⟩
          have HB3 := Lib.hid (HB.out.trans (hb3.mono HB.out.size))
          clear hb3
          go_wp2
          go_ret2
          exact ⟨⟨_, rfl, fun h => absurd rfl h⟩, HB3.out⟩
      · have hw0 : wideL L = (65536 + (a - 55296) * 1024 + (b - 56320), 10) := by
          unfold wideL
          rw [ha, if_neg hc1, if_neg hc2, hb, if_neg]
          rintro (h | h | h | h | h)
          · exact hq (.inl h)
          · exact h hp.1
          · exact h hp.2
          · exact hq (.inr (.inl h))
          · exact hq (.inr (.inr h))
        have hwn : wn L = 11 := by unfold wn; rw [hw0]; rfl
        rw [hwn, hw0]
        have hq1d : decide (56320 ≤ a) = false := decide_eq_false (by omega)
        have hq2d : decide (b < 56320) = false := decide_eq_false (by omega)
        have hq3d : decide (57343 < b) = false := decide_eq_false (by omega)
        have HQ := Lib.hid (show 55296 ≤ a ∧ a < 56320 ∧ 56320 ≤ b ∧ b ≤ 57343 by omega)
        clear hpx hX4 h04 hXL hYL hp hc2 hw0 hq
        go_enter Tryd.func98, Tryd.ntmps98
        go_wp2_with fail
        refine (c1 _).mono ?_
        rintro e w1 ⟨rfl, hb1⟩
        have HB := Lib.hid hb1
        clear hb1
        go_wp2_with fail
        refine (cP _).mono ?_
        rintro e w2 ⟨rfl, rfl⟩
        go_wp2_with fail
        refine (c2 _).mono ?_
        rintro e w3 ⟨rfl, hb3⟩
        have HB3 := Lib.hid (HB.out.trans (hb3.mono HB.out.size))
        clear hb3
        go_wp2
        go_ret2
        refine ⟨⟨_, rfl, fun _ => ?_⟩, HB3.out⟩
        show 65536 + (a - 55296) * 1024 + b - 56320 = 65536 + (a - 55296) * 1024 + (b - 56320)
        omega
    · have hf : Lib.hasPrefix (L.drop 4) [92, 117] = false := by
        rcases h : Lib.hasPrefix (L.drop 4) [92, 117] with _ | _
        · rfl
        · exact absurd (hpx.1 h) hp
      rw [hf] at cP
      have hw0 : wideL L = (0, 0) := by
        unfold wideL
        rw [ha, if_neg hc1, if_neg hc2, if_pos]
        by_cases h4 : L.getD 4 0 = 92
        · exact .inr (.inr (.inl (fun h5 => hp ⟨h4, h5⟩)))
        · exact .inr (.inl h4)
      have hwn : wn L = 0 := by unfold wn; rw [hw0]; rfl
      rw [hwn]
      clear hpx hX4 h04 hXL hp hc2 hw0 hf
      go_enter Tryd.func98, Tryd.ntmps98
      go_wp2_with fail
      refine (c1 _).mono ?_
      rintro e w1 ⟨rfl, hb1⟩
      have HB := Lib.hid hb1
      clear hb1
      go_wp2_with fail
      refine (cP _).mono ?_
      rintro e w2 ⟨rfl, rfl⟩
      go_wp2
      go_ret2
      exact ⟨⟨_, rfl, fun h => absurd rfl h⟩, HB.out⟩

def eN (l : BL) : Nat := if escL (l.getD 0 0).toNat ≠ 0 then 1 else if l.getD 0 0 ≠ 117 then 0 else wn (l.drop 1)
def eR (l : BL) : Int := if escL (l.getD 0 0).toNat ≠ 0 then (escL (l.getD 0 0).toNat : Int) else (wideL (l.drop 1)).1
def meantU (k : Nat) : Nat := if k = 0 then 8 else if k = 1 then 12 else if k = 2 then 10 else if k = 3 then 13 else 9
theorem meant_at (K : Nat) (h : K < 5) : ∀ hh, ((ByteArray.mk #[8, 12, 10, 13, 9])[K]'hh).toNat = meantU K := by
  have key : ∀ k : Fin 5, ((ByteArray.mk #[8, 12, 10, 13, 9])[k.val]'(k.isLt)).toNat = meantU k.val := by decide +kernel
  intro hh
  exact key ⟨K, h⟩
theorem esc_cases (b : UInt8) :
    (0 ≤ Lib.indexByte [98, 102, 110, 114, 116] b ∧ Lib.indexByte [98, 102, 110, 114, 116] b < 5 ∧ meantU (Lib.indexByte [98, 102, 110, 114, 116] b).toNat = escL b.toNat ∧ escL b.toNat ≠ 0) ∨
    (Lib.indexByte [98, 102, 110, 114, 116] b = -1 ∧ ((b.toNat = 34 ∧ escL b.toNat = 34) ∨ (b.toNat = 92 ∧ escL b.toNat = 92) ∨ (b.toNat = 47 ∧ escL b.toNat = 47) ∨ (b.toNat ≠ 34 ∧ b.toNat ≠ 92 ∧ b.toNat ≠ 47 ∧ escL b.toNat = 0))) := by
  have key : ∀ k : Fin 256, (0 ≤ Lib.indexByte [98, 102, 110, 114, 116] (UInt8.ofNat k.val) ∧ Lib.indexByte [98, 102, 110, 114, 116] (UInt8.ofNat k.val) < 5 ∧ meantU (Lib.indexByte [98, 102, 110, 114, 116] (UInt8.ofNat k.val)).toNat = escL k.val ∧ escL k.val ≠ 0) ∨
    (Lib.indexByte [98, 102, 110, 114, 116] (UInt8.ofNat k.val) = -1 ∧ ((k.val = 34 ∧ escL k.val = 34) ∨ (k.val = 92 ∧ escL k.val = 92) ∨ (k.val = 47 ∧ escL k.val = 47) ∨ (k.val ≠ 34 ∧ k.val ≠ 92 ∧ k.val ≠ 47 ∧ escL k.val = 0))) := by decide +kernel
  have := key ⟨b.toNat, b.toNat_lt⟩
  simpa using this
theorem escL_zero : escL 0 = 0 := by decide

set_option maxHeartbeats 2000000 in
set_option maxRecDepth 100000 in
theorem escaped_any (s : ByteArray) (w : World) :
    Calls Tryd.prog 79 #[.string s] w fun e w' => (∃ r, e = .returned (.tuple #[.int .i32 r, .int .i64 (eN s.data.toList)]) ∧ (eN s.data.toList ≠ 0 → r = eR s.data.toList)) ∧ Below w.heap.size w w' := by
  obtain ⟨L, hL⟩ : ∃ L, s.data.toList = L := ⟨_, rfl⟩
  have hLs : L.length = s.size := by rw [← hL, ← size_eq]
  rw [hL]
  by_cases h0 : s.size = 0
  · have hLn : L = [] := List.eq_nil_of_length_eq_zero (by omega)
    have hs0 : s = ⟨#[]⟩ := by
      rw [← ba_list s, hL, hLn]
    subst hLn
    rw [show eN [] = 0 by decide]
    clear hL hLs h0
    subst hs0
    go_enter Tryd.func79, Tryd.ntmps79
    go_wp2
    go_ret2
    exact ⟨⟨_, rfl, fun h => absurd rfl h⟩, Below.refl _ _⟩
  have h1 : 0 < s.size := by omega
  have h1z : (0 : Int) < (s.size : Int) := by omega
  have h1z1 : (1 : Int) ≤ (s.size : Int) := by omega
  obtain ⟨b, hb⟩ : ∃ b, s[0]'h1 = b := ⟨_, rfl⟩
  have hbL : L.getD 0 0 = b := by rw [← hL, getD_get!', Utf8W.get!_of_lt s 0 h1, hb]
  have hne : s.toList.isEmpty = false := by
    rw [Lib.toList_data, hL]
    cases L with
    | nil => simp at hLs; omega
    | cons _ _ => rfl
  have cI : ∀ W, Calls Tryd.prog 74 #[.string ⟨#[98, 102, 110, 114, 116]⟩, .int .u8 (b.toNat : Int)] W fun e w' => e = .returned (.int .i64 (Lib.indexByte [98, 102, 110, 114, 116] b)) ∧ w' = W := fun W => by
    have h := Tryd.strings_IndexByte ⟨#[98, 102, 110, 114, 116]⟩ (b.toNat : Int) W
    rw [show ((b.toNat : Int).toNat.toUInt8) = b by simp] at h
    exact h
  have hc := esc_cases b
  obtain ⟨Z, hZ⟩ : ∃ Z, Lib.indexByte [98, 102, 110, 114, 116] b = Z := ⟨_, rfl⟩
  rw [hZ] at hc
  simp only [hZ] at cI
  obtain ⟨Y, hY⟩ : ∃ Y, s.extract 1 s.size = Y := ⟨_, rfl⟩
  have hYL : Y.data.toList = L.drop 1 := by rw [← hY, drop_ba s 1 (by omega), hL]
  have cW := fun W => wide_any Y W
  simp only [hYL] at cW
  clear hZ hYL hL h0
  rcases hc with ⟨hz0, hz5, hm, hne0⟩ | ⟨rfl, hc⟩
  · obtain ⟨k, rfl⟩ : ∃ k : Nat, Z = k := ⟨Z.toNat, by omega⟩
    have hN : eN L = 1 := by unfold eN; rw [hbL, if_pos hne0]
    have hR : eR L = escL b.toNat := by unfold eR; rw [hbL, if_pos hne0]
    rw [Int.toNat_natCast] at hm
    have hix : ∀ hh, ((ByteArray.mk #[8, 12, 10, 13, 9])[k]'hh).toNat = escL b.toNat := fun hh => by rw [meant_at k (by omega) hh, hm]
    have hle : escL b.toNat ≤ 92 := by
      unfold escL
      repeat' split
      all_goals omega
    rw [hN, hR]
    obtain ⟨E, hE⟩ : ∃ E, escL b.toNat = E := ⟨_, rfl⟩
    rw [hE] at hix hle
    rw [hE]
    clear hm hne0 hE cW hN hR
    go_enter Tryd.func79, Tryd.ntmps79
    go_wp2_with fail
    refine (cI _).mono ?_
    rintro e w1 ⟨rfl, rfl⟩
    have hkz : (k : Int) < 5 := by omega
    have hw8 : IntKind.i32.wrap (E : Int) = (E : Int) := IntWalk.i32_in _ (by omega)
    go_wp2
    go_ret2
    exact ⟨⟨_, rfl, fun _ => rfl⟩, Below.refl _ _⟩
  · rcases hc with ⟨hb34, hE⟩ | ⟨hb34, hE⟩ | ⟨hb34, hE⟩ | ⟨hn1, hn2, hn3, hE⟩
    · have hN : eN L = 1 := by unfold eN; rw [hbL, hE]; rfl
      have hR : eR L = 34 := by unfold eR; rw [hbL, hE]; rfl
      have hz : (b.toNat : Int) = 34 := by omega
      rw [hN, hR]
      simp only [hz] at cI
      clear hE cW hN hR hbL
      go_enter Tryd.func79, Tryd.ntmps79
      go_wp2_with fail
      refine (cI _).mono ?_
      rintro e w1 ⟨rfl, rfl⟩
      go_wp2
      go_ret2
      exact ⟨⟨_, rfl, fun _ => rfl⟩, Below.refl _ _⟩
    · have hN : eN L = 1 := by unfold eN; rw [hbL, hE]; rfl
      have hR : eR L = 92 := by unfold eR; rw [hbL, hE]; rfl
      have hz : (b.toNat : Int) = 92 := by omega
      rw [hN, hR]
      simp only [hz] at cI
      clear hE cW hN hR hbL
      go_enter Tryd.func79, Tryd.ntmps79
      go_wp2_with fail
      refine (cI _).mono ?_
      rintro e w1 ⟨rfl, rfl⟩
      go_wp2
      go_ret2
      exact ⟨⟨_, rfl, fun _ => rfl⟩, Below.refl _ _⟩
    · have hN : eN L = 1 := by unfold eN; rw [hbL, hE]; rfl
      have hR : eR L = 47 := by unfold eR; rw [hbL, hE]; rfl
      have hz : (b.toNat : Int) = 47 := by omega
      rw [hN, hR]
      simp only [hz] at cI
      clear hE cW hN hR hbL
      go_enter Tryd.func79, Tryd.ntmps79
      go_wp2_with fail
      refine (cI _).mono ?_
      rintro e w1 ⟨rfl, rfl⟩
      go_wp2
      go_ret2
      exact ⟨⟨_, rfl, fun _ => rfl⟩, Below.refl _ _⟩
    · have hz1 : ((b.toNat : Int) == 34) = false := beq_eq_false_iff_ne.2 (by omega)
      have hz2 : ((b.toNat : Int) == 92) = false := beq_eq_false_iff_ne.2 (by omega)
      have hz3 : ((b.toNat : Int) == 47) = false := beq_eq_false_iff_ne.2 (by omega)
      have hz1' : ¬ (b.toNat : Int) = 34 := by omega
      have hz2' : ¬ (b.toNat : Int) = 92 := by omega
      have hz3' : ¬ (b.toNat : Int) = 47 := by omega
      by_cases hu : b = 117
      · have hN : eN L = wn (L.drop 1) := by unfold eN; rw [hbL, hE, hu]; rfl
        have hR : eR L = (wideL (L.drop 1)).1 := by unfold eR; rw [hbL, hE]; rfl
        have hz4 : (b.toNat : Int) = 117 := by rw [hu]; rfl
        rw [hN, hR]
        obtain ⟨N, hNN⟩ : ∃ N, wn (L.drop 1) = N := ⟨_, rfl⟩
        obtain ⟨R, hRR⟩ : ∃ R, (wideL (L.drop 1)).1 = R := ⟨_, rfl⟩
        simp only [hNN, hRR] at cW
        rw [hNN, hRR]
        simp only [hz4] at cI
        clear hE hN hR hbL hu hn1 hn2 hn3 hNN hRR
        go_enter Tryd.func79, Tryd.ntmps79
        go_wp2_with fail
        refine (cI _).mono ?_
        rintro e w1 ⟨rfl, rfl⟩
        go_wp2_with fail
        refine (cW _).mono ?_
        rintro e w2 ⟨⟨r, rfl, hr⟩, hb2⟩
        have HR := Lib.hid (And.intro hr hb2)
        clear hr hb2
        go_wp2
        go_ret2
        exact ⟨⟨_, rfl, HR.out.1⟩, HR.out.2⟩
      · have hu2 : ¬ b.toNat = 117 := fun h => hu (UInt8.toNat_inj.1 h)
        have hN : eN L = 0 := by unfold eN; rw [hbL, hE, if_neg (by decide), if_pos hu]
        have hz4 : ((b.toNat : Int) == 117) = false := beq_eq_false_iff_ne.2 (by omega)
        have hz4' : ¬ (b.toNat : Int) = 117 := by omega
        rw [hN]
        clear hE hN hbL hu hu2 hn1 hn2 hn3 cW
        go_enter Tryd.func79, Tryd.ntmps79
        go_wp2_with fail
        refine (cI _).mono ?_
        rintro e w1 ⟨rfl, rfl⟩
        go_wp2
        go_ret2
        exact ⟨⟨_, rfl, fun h => absurd rfl h⟩, Below.refl _ _⟩
end Go.Proofs.YthlioinmeimhoaaDoor
