/- Four digits read. -/
import Derived.Test.YthlioinmeimhoaaDoorTxF
namespace Go.Proofs.YthlioinmeimhoaaDoor
open Go.Shelf Go.RowKit Go.Lib

def hv (l : BL) (i : Nat) : Int := hexV (l.getD i 0).toNat
def valN (l : BL) : Nat → Int
  | 0 => 0
  | i + 1 => valN l i * 16 + hv l i
theorem four_ok (l : BL) (h : ∀ j, j < 4 → 0 ≤ hv l j) : fourL l = valN l 4 := by
  have h0 := h 0 (by omega); have h1 := h 1 (by omega); have h2 := h 2 (by omega); have h3 := h 3 (by omega)
  unfold hv at h0 h1 h2 h3
  unfold fourL valN valN valN valN valN hv
  rw [if_neg (by omega)]
  omega
theorem four_bad (l : BL) (j : Nat) (hj : j < 4) (h : hv l j < 0) : fourL l = -1 := by
  unfold hv at h
  unfold fourL
  rw [if_pos]
  match j, hj with
  | 0, _ => exact .inl h
  | 1, _ => exact .inr (.inl h)
  | 2, _ => exact .inr (.inr (.inl h))
  | 3, _ => exact .inr (.inr (.inr h))
theorem four_short (l : BL) (j : Nat) (hj : j < 4) (h : l.length ≤ j) : fourL l = -1 := by
  refine four_bad l j hj ?_
  unfold hv
  simp [List.getD, List.getElem?_eq_none h]
  decide
theorem valN_range (l : BL) : ∀ i, (∀ j, j < i → 0 ≤ hv l j) → 0 ≤ valN l i ∧ valN l i < 16 ^ i
  | 0, _ => by simp [valN]
  | i + 1, h => by
    have ih := valN_range l i (fun j hj => h j (by omega))
    have h1 := h i (by omega)
    have h2 := hexV_le (l.getD i 0).toNat
    unfold hv at h1
    simp only [valN, hv]
    rw [Int.pow_succ]
    omega

theorem four_cases (b : UInt8) :
    (b.toNat < 48 ∧ hexV b.toNat = -1) ∨
    (48 ≤ b.toNat ∧ Lib.indexByte [48, 49, 50, 51, 52, 53, 54, 55, 56, 57, 97, 98, 99, 100, 101, 102] (b ||| 32) = -1 ∧ hexV b.toNat = -1) ∨
    (48 ≤ b.toNat ∧ Lib.indexByte [48, 49, 50, 51, 52, 53, 54, 55, 56, 57, 97, 98, 99, 100, 101, 102] (b ||| 32) = hexV b.toNat ∧ 0 ≤ hexV b.toNat ∧ hexV b.toNat < 10 ∧ hexD (hexV b.toNat).toNat = b) ∨
    (48 ≤ b.toNat ∧ Lib.indexByte [48, 49, 50, 51, 52, 53, 54, 55, 56, 57, 97, 98, 99, 100, 101, 102] (b ||| 32) = hexV b.toNat ∧ 10 ≤ hexV b.toNat) := by
  have key : ∀ k : Fin 256, (k.val < 48 ∧ hexV k.val = -1) ∨
    (48 ≤ k.val ∧ Lib.indexByte [48, 49, 50, 51, 52, 53, 54, 55, 56, 57, 97, 98, 99, 100, 101, 102] (UInt8.ofNat k.val ||| 32) = -1 ∧ hexV k.val = -1) ∨
    (48 ≤ k.val ∧ Lib.indexByte [48, 49, 50, 51, 52, 53, 54, 55, 56, 57, 97, 98, 99, 100, 101, 102] (UInt8.ofNat k.val ||| 32) = hexV k.val ∧ 0 ≤ hexV k.val ∧ hexV k.val < 10 ∧ hexD (hexV k.val).toNat = UInt8.ofNat k.val) ∨
    (48 ≤ k.val ∧ Lib.indexByte [48, 49, 50, 51, 52, 53, 54, 55, 56, 57, 97, 98, 99, 100, 101, 102] (UInt8.ofNat k.val ||| 32) = hexV k.val ∧ 10 ≤ hexV k.val) := by decide +kernel
  have := key ⟨b.toNat, b.toNat_lt⟩
  simpa using this
theorem or32 (b : UInt8) : bits .or .u8 (b.toNat : Int) 32 = ((b ||| 32).toNat : Int) := by
  have := u8_or_nat b.toNat 32 b.toNat_lt (by omega)
  rw [UInt8.toNat_or]
  exact this

theorem or16 (V K : Int) (h0 : 0 ≤ V) (h1 : V < 4096) (h2 : 0 ≤ K) (h3 : K < 16) : bits .or .i32 (wrap32 (V * 16)) K = V * 16 + K := by
  rw [show wrap32 (V * 16) = V * 16 by unfold wrap32; omega]
  exact bits_join .i32 31 (by decide) wraps_i32 4 _ _ (by omega) (by omega) (by omega) h2 (by omega) (by omega)

set_option maxHeartbeats 2000000 in
set_option maxRecDepth 100000 in
theorem four_any (s : ByteArray) (w : World) :
    Calls Tryd.prog 109 #[.string s] w fun e w' => e = .returned (.int .i32 (fourL s.data.toList)) ∧ Below w.heap.size w w' := by
  obtain ⟨L, hL⟩ : ∃ L, s.data.toList = L := ⟨_, rfl⟩
  have hLs : L.length = s.size := by rw [← hL, ← size_eq]
  have hget : ∀ i, s.get! i = L.getD i 0 := fun i => by rw [← getD_get!', hL]
  rw [hL]
  clear hL
  by_cases h4 : s.size < 4
  · rw [four_short L 3 (by omega) (by omega)]
    have h4z : (s.size : Int) < 4 := by omega
    clear hget
    go_enter Tryd.func109, Tryd.ntmps109
    go_wp2
    go_ret
    exact ⟨rfl, Below.refl _ _⟩
  · have h4z : ¬ (s.size : Int) < 4 := by omega
    have HG := Lib.hid hget
    clear hget
    go_enter Tryd.func109, Tryd.ntmps109
    go_wp2
    go_loopg [3, 9] 4 (fun gk nv iv wr => ∃ i : Nat, gk + i = 4 ∧ iv = .int .i64 i ∧ nv = .int .i32 (valN L i) ∧ (∀ j, j < i → 0 ≤ hv L j) ∧ Below w.heap.size w wr)
    case atStart => exact ⟨0, rfl, rfl, rfl, fun j hj => by omega, Below.refl _ _⟩
    case round =>
      obtain ⟨i, hg, rfl, rfl, hok, hbw⟩ := hrel
      have HB := Lib.hid (And.intro hok hbw)
      clear hok hbw
      by_cases hi : i < 4
      · have hiz : (i : Int) < 4 := by omega
        have his : i < s.size := by omega
        have hisz : (i : Int) < (s.size : Int) := by omega
        obtain ⟨b, hb⟩ : ∃ b, s[i]'his = b := ⟨_, rfl⟩
        have hbL : L.getD i 0 = b := by rw [← HG.out i, Utf8W.get!_of_lt s i his, hb]
        have ho := or32 b
        have hc := four_cases b
        have hvb : hv L i = hexV b.toNat := by unfold hv; rw [hbL]
        have hr := valN_range L i HB.out.1
        have cI : ∀ W, Calls Tryd.prog 74 #[.string ⟨#[48, 49, 50, 51, 52, 53, 54, 55, 56, 57, 97, 98, 99, 100, 101, 102]⟩, .int .u8 ((b ||| 32).toNat : Int)] W fun e w' => e = .returned (.int .i64 (Lib.indexByte [48, 49, 50, 51, 52, 53, 54, 55, 56, 57, 97, 98, 99, 100, 101, 102] (b ||| 32))) ∧ w' = W := fun W => by
          have h := Tryd.strings_IndexByte ⟨#[48, 49, 50, 51, 52, 53, 54, 55, 56, 57, 97, 98, 99, 100, 101, 102]⟩ ((b ||| 32).toNat : Int) W
          rw [show (((b ||| 32).toNat : Int).toNat.toUInt8) = b ||| 32 by simp] at h
          exact h
        obtain ⟨Z, hZ⟩ : ∃ Z, Lib.indexByte [48, 49, 50, 51, 52, 53, 54, 55, 56, 57, 97, 98, 99, 100, 101, 102] (b ||| 32) = Z := ⟨_, rfl⟩
        obtain ⟨V, hV⟩ : ∃ V, valN L i = V := ⟨_, rfl⟩
        rw [hZ] at hc
        simp only [hZ] at cI
        rw [hV] at hr
        simp only [hV]
        have hV4 : V < 4096 := by
          have : (16 : Int) ^ i ≤ 4096 := by
            match i, hi with
            | 0, _ => decide
            | 1, _ => decide
            | 2, _ => decide
            | 3, _ => decide
          omega
        have HH := Lib.hid (And.intro hV (And.intro hvb (And.intro hr.1 hV4)))
        clear hV4
        clear hZ hbL hV hvb
        rcases hc with ⟨h48, hx⟩ | ⟨h48, rfl, hx⟩ | ⟨h48, rfl, hx0, hx1, hd⟩ | ⟨h48, rfl, hx0⟩
        · have hdec : decide ((b.toNat : Int) < 48) = true := decide_eq_true (by omega)
          have HX := Lib.hid hx
          clear hx h48
          go_wp2_with fail
          refine (cI _).mono ?_
          rintro e w2 ⟨rfl, rfl⟩
          go_wp2
          go_quiet (fail)
          go_wp2
          go_ret
          rw [four_bad L i hi (by rw [HH.out.2.1, HX.out]; omega)]
          exact ⟨rfl, below_drewNv HB.out.2 _⟩
        · have hdec : decide ((b.toNat : Int) < 48) = false := decide_eq_false (by omega)
          have HX := Lib.hid hx
          clear hx h48
          go_wp2_with fail
          refine (cI _).mono ?_
          rintro e w2 ⟨rfl, rfl⟩
          go_wp2
          go_quiet (fail)
          go_wp2
          go_ret
          rw [four_bad L i hi (by rw [HH.out.2.1, HX.out]; omega)]
          exact ⟨rfl, below_drewNv HB.out.2 _⟩
        · obtain ⟨K, hK⟩ : ∃ K : Nat, hexV b.toNat = K := ⟨(hexV b.toNat).toNat, by omega⟩
          rw [hK] at cI hx0 hx1 hd
          have hKv := HH.out.2.1.trans hK
          have hix : ∀ hh, (ByteArray.mk #[48, 49, 50, 51, 52, 53, 54, 55, 56, 57, 97, 98, 99, 100, 101, 102])[K]'hh = b := fun hh => by rw [digit_at K (by omega) hh, ← hd]; simp
          have hdec : decide ((b.toNat : Int) < 48) = false := decide_eq_false (by omega)
          have hdec1 : decide ((K : Int) < 0) = false := decide_eq_false (by omega)
          have hdec2 : decide ((K : Int) < 10) = true := decide_eq_true (by omega)
          have hdec3 : ((b.toNat : Int) != (b.toNat : Int)) = false := by simp
          have hK16 : (K : Int) < 16 := by omega
          have hsz16 : (ByteArray.mk #[48, 49, 50, 51, 52, 53, 54, 55, 56, 57, 97, 98, 99, 100, 101, 102]).size = 16 := rfl
          have HX := Lib.hid hKv
          clear hKv h48 hd hK
          go_wp2_with fail
          refine (cI _).mono ?_
          rintro e w2 ⟨rfl, rfl⟩
          go_wp2
          go_quiet (fail)
          go_wp2
          go_roundg (gk - 1)
          case rel =>
            refine ⟨i + 1, by omega, rfl, ?_, ?_, below_drewNv HB.out.2 _⟩
            · show Value.int .i32 _ = .int .i32 (valN L i * 16 + hv L i)
              rw [or16 _ _ HH.out.2.2.1 HH.out.2.2.2 (by omega) (by omega), HX.out, HH.out.1]
            · intro j hj
              by_cases hji : j = i
              · rw [hji, HX.out]; omega
              · exact HB.out.1 j (by omega)
          case measure => omega
        · obtain ⟨K, hK⟩ : ∃ K : Nat, hexV b.toNat = K := ⟨(hexV b.toNat).toNat, by omega⟩
          have hKle := hexV_le b.toNat
          rw [hK] at cI hx0 hKle
          have hKv := HH.out.2.1.trans hK
          have hdec : decide ((b.toNat : Int) < 48) = false := decide_eq_false (by omega)
          have hdec1 : decide ((K : Int) < 0) = false := decide_eq_false (by omega)
          have hdec2 : decide ((K : Int) < 10) = false := decide_eq_false (by omega)
          have HX := Lib.hid hKv
          clear hKv h48 hK
          go_wp2_with fail
          refine (cI _).mono ?_
          rintro e w2 ⟨rfl, rfl⟩
          go_wp2
          go_quiet (fail)
          go_wp2
          go_roundg (gk - 1)
          case rel =>
            refine ⟨i + 1, by omega, rfl, ?_, ?_, below_drewNv HB.out.2 _⟩
            · show Value.int .i32 _ = .int .i32 (valN L i * 16 + hv L i)
              rw [or16 _ _ HH.out.2.2.1 HH.out.2.2.2 (by omega) (by omega), HX.out, HH.out.1]
            · intro j hj
              by_cases hji : j = i
              · rw [hji, HX.out]; omega
              · exact HB.out.1 j (by omega)
          case measure => omega
      · obtain rfl : i = 4 := by omega
        go_wp2
        go_ret
        rw [four_ok L HB.out.1]
        exact ⟨rfl, HB.out.2⟩
end Go.Proofs.YthlioinmeimhoaaDoor
