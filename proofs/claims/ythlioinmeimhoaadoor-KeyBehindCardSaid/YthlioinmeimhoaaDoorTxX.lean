/- TextUnits: four digits written by the law's closure. -/
import Derived.Test.YthlioinmeimhoaaDoorTxM
import Derived.Laws.BytesString
import Derived.Laws.IdiomStrings
import Derived.StillTailTactics
import Derived.Laws.BitsAllLaws
import Derived.Lib.QuoteBits
namespace Go.Proofs.YthlioinmeimhoaaDoor
open Go.Shelf Go.RowKit Go.Lib

theorem ba_eq {a : ByteArray} {l : BL} (h : a.data.toList = l) : a = BA l := by rw [← h, ba_list]
theorem and15_u16 (x : Nat) (h : x < 65536) : bits .and .u16 (x : Int) 15 = ((x % 16 : Nat) : Int) := by
  have := u16_and_nat x 15 h (by omega)
  rw [show ((15 : Nat) : Int) = 15 from rfl] at this
  rw [this, nat_mask4]

set_option maxHeartbeats 2000000 in
set_option maxRecDepth 100000 in
theorem four_cl (n b : Nat) (D : ByteArray) (g : Nat → UInt8) (w : World) (hn : n < 65536) (hD : D.size = 16) (hg : ∀ k (h : k < D.size), D[k]'h = g k) (hc : w.cell? ⟨b, 0, none⟩ = some (.string D)) :
    Calls Tryd.prog 34 #[.int .u16 n, .pointer (some ⟨b, 0, none⟩)] w fun e w' => e = .returned (.string (BA [92, 117, g (n / 4096), g (n / 256 % 16), g (n / 16 % 16), g (n % 16)])) ∧ Below w.heap.size w w' := by
  obtain ⟨K0, hK0⟩ : ∃ K, n / 4096 = K := ⟨_, rfl⟩
  obtain ⟨K1, hK1⟩ : ∃ K, n / 256 % 16 = K := ⟨_, rfl⟩
  obtain ⟨K2, hK2⟩ : ∃ K, n / 16 % 16 = K := ⟨_, rfl⟩
  obtain ⟨K3, hK3⟩ : ∃ K, n % 16 = K := ⟨_, rfl⟩
  have e0 : (n : Int) / 4096 = (K0 : Int) := by omega
  have e1 : bits .and .u16 ((n : Int) / 256) 15 = (K1 : Int) := by
    rw [show (n : Int) / 256 = ((n / 256 : Nat) : Int) by omega, and15_u16 _ (by omega), hK1]
  have e2 : bits .and .u16 ((n : Int) / 16) 15 = (K2 : Int) := by
    rw [show (n : Int) / 16 = ((n / 16 : Nat) : Int) by omega, and15_u16 _ (by omega), hK2]
  have e3 : bits .and .u16 (n : Int) 15 = (K3 : Int) := by rw [and15_u16 _ hn, hK3]
  have z0 : (K0 : Int) < 16 := by omega
  have z1 : (K1 : Int) < 16 := by omega
  have z2 : (K2 : Int) < 16 := by omega
  have z3 : (K3 : Int) < 16 := by omega
  have l0 : K0 < D.size := by omega
  have g0 := hg K0 l0
  have l1 : K1 < D.size := by omega
  have g1 := hg K1 l1
  have l2 : K2 < D.size := by omega
  have g2 := hg K2 l2
  have l3 : K3 < D.size := by omega
  have g3 := hg K3 l3
  rw [hK0, hK1, hK2, hK3]
  obtain ⟨G0, hG0⟩ : ∃ G, g K0 = G := ⟨_, rfl⟩
  obtain ⟨G1, hG1⟩ : ∃ G, g K1 = G := ⟨_, rfl⟩
  obtain ⟨G2, hG2⟩ : ∃ G, g K2 = G := ⟨_, rfl⟩
  obtain ⟨G3, hG3⟩ : ∃ G, g K3 = G := ⟨_, rfl⟩
  rw [hG0] at g0 ⊢
  rw [hG1] at g1 ⊢
  rw [hG2] at g2 ⊢
  rw [hG3] at g3 ⊢
  have hcv : ∀ (W : World) (b : Nat) (cap : Nat), W.cell? ⟨b, 0, none⟩ = some (.int .u8 G0.toNat) → W.cell? ⟨b, 1, none⟩ = some (.int .u8 G1.toNat) → W.cell? ⟨b, 2, none⟩ = some (.int .u8 G2.toNat) → W.cell? ⟨b, 3, none⟩ = some (.int .u8 G3.toNat) →
      (convert 22 9 (.slice (some ⟨b, 0, none⟩) 4 cap)).run Tryd.prog W = .ok (.string (BA [G0, G1, G2, G3])) W := fun W b cap h0 h1 h2 h3 =>
    run_convert_bytes_back W 22 9 5 ⟨b, 0, none⟩ cap [G0, G1, G2, G3] Tryd.underlying22 Tryd.underlying5 Tryd.underlying9 (fun j hj => by
      match j, hj with
      | 0, _ => simpa [Addr.add] using h0
      | 1, _ => simpa [Addr.add] using h1
      | 2, _ => simpa [Addr.add] using h2
      | 3, _ => simpa [Addr.add] using h3)
  clear hg hK0 hK1 hK2 hK3 hG0 hG1 hG2 hG3
  go_enter Tryd.func34, Tryd.ntmps34
  go_wp2
  go_still_tail 18, (by kernel_rfl)
  change wpList _ _ _ _ _ w.drew
  have hb2 := Lib.hid ((Below.refl w.heap.size w).drew)
  generalize w.drew = w2 at hb2 ⊢
  go_wp2
  go_ret
  exact ⟨by rw [show (⟨#[92, 117]⟩ : ByteArray) ++ BA [G0, G1, G2, G3] = BA [92, 117, G0, G1, G2, G3] from ba_eq (by rw [app_list]; rfl)]; rfl, hb2.out.alloc hb2.out.size _⟩

/-! ### what four digits are read as -/
def unit4 (g : Nat → UInt8) (n : Nat) : BL := [92, 117, g (n / 4096), g (n / 256 % 16), g (n / 16 % 16), g (n % 16)]
def Dig (g : Nat → UInt8) : Prop := ∀ k, k < 16 → hexV (g k).toNat = (k : Int)
theorem four_unit {g : Nat → UInt8} (hg : Dig g) (n : Nat) (hn : n < 65536) (t : BL) : fourL (g (n / 4096) :: g (n / 256 % 16) :: g (n / 16 % 16) :: g (n % 16) :: t) = n := by
  unfold fourL
  simp only [List.getD_cons_zero, List.getD_cons_succ]
  rw [hg _ (by omega), hg _ (by omega), hg _ (by omega), hg _ (by omega), if_neg (by omega)]
  omega
theorem char_wide (g : Nat → UInt8) (n : Nat) (rest : BL) : charL (unit4 g n ++ rest) = if (wideL (g (n / 4096) :: g (n / 256 % 16) :: g (n / 16 % 16) :: g (n % 16) :: rest)).2 = 0 then (0, 0) else ((wideL (g (n / 4096) :: g (n / 256 % 16) :: g (n / 16 % 16) :: g (n % 16) :: rest)).1, (wideL (g (n / 4096) :: g (n / 256 % 16) :: g (n / 16 % 16) :: g (n % 16) :: rest)).2 + 2) := by
  unfold unit4
  simp only [List.cons_append, List.nil_append]
  unfold charL
  rw [charL_esc]
  simp only [List.getD_cons_zero, List.getD_cons_succ]
  rw [if_neg (by omega), if_neg (by omega), if_neg (by decide), if_neg (by decide)]
  rfl
theorem char_u1 {g : Nat → UInt8} (hg : Dig g) (n : Nat) (hn : n < 65536) (h : n < 55296 ∨ 57343 < n) (rest : BL) : charL (unit4 g n ++ rest) = ((n : Int), 6) := by
  have hw : wideL (g (n / 4096) :: g (n / 256 % 16) :: g (n / 16 % 16) :: g (n % 16) :: rest) = ((n : Int), 4) := by
    unfold wideL
    rw [four_unit hg n hn, if_neg (by omega), if_pos (by omega)]
  rw [char_wide, hw]
  rfl
theorem char_u0 {g : Nat → UInt8} (hg : Dig g) (n : Nat) (hn : n < 65536) (h : 56320 ≤ n ∧ n ≤ 57343) (rest : BL) : (charL (unit4 g n ++ rest)).2 = 0 := by
  have hw : wideL (g (n / 4096) :: g (n / 256 % 16) :: g (n / 16 % 16) :: g (n % 16) :: rest) = (0, 0) := by
    unfold wideL
    rw [four_unit hg n hn, if_neg (by omega), if_neg (by omega), if_pos (.inl (by omega))]
  rw [char_wide, hw]
  rfl
theorem char_u9 {g : Nat → UInt8} (hg : Dig g) (n : Nat) (hn : 55296 ≤ n ∧ n ≤ 57343) : (charL (unit4 g n ++ [34])).2 = 0 := by
  have hw : wideL (g (n / 4096) :: g (n / 256 % 16) :: g (n / 16 % 16) :: g (n % 16) :: [34]) = (0, 0) := by
    unfold wideL
    rw [four_unit hg n (by omega), if_neg (by omega), if_neg (by omega), if_pos (.inr (.inl (by simp only [List.getD_cons_zero, List.getD_cons_succ]; decide)))]
  rw [char_wide, hw]
  rfl
theorem char_u2 {g : Nat → UInt8} (hg : Dig g) (n m : Nat) (hn : 55296 ≤ n ∧ n < 56320) (hm : 56320 ≤ m ∧ m ≤ 57343) (rest : BL) : charL (unit4 g n ++ (unit4 g m ++ rest)) = (((65536 + (n - 55296) * 1024 + (m - 56320) : Nat) : Int), 12) := by
  have h2 : fourL (g (m / 4096) :: g (m / 256 % 16) :: g (m / 16 % 16) :: g (m % 16) :: rest) = m := four_unit hg m (by omega) rest
  have hw : wideL (g (n / 4096) :: g (n / 256 % 16) :: g (n / 16 % 16) :: g (n % 16) :: (unit4 g m ++ rest)) = (((65536 + (n - 55296) * 1024 + (m - 56320) : Nat) : Int), 10) := by
    unfold wideL
    rw [four_unit hg n (by omega), if_neg (by omega), if_neg (by omega)]
    unfold unit4
    simp only [List.cons_append, List.nil_append, List.getD_cons_zero, List.getD_cons_succ, List.drop_succ_cons, List.drop_zero]
    rw [h2, if_neg]
    · refine Prod.ext ?_ rfl
      dsimp only
      omega
    · rintro (h | h | h | h | h)
      · omega
      · exact h rfl
      · exact h rfl
      · omega
      · omega
  rw [char_wide, hw]
  rfl
theorem unit_head (g : Nat → UInt8) (n : Nat) (rest : BL) : (unit4 g n ++ rest).getD 0 0 ≠ 34 ∧ unit4 g n ++ rest ≠ [] := ⟨by simp [unit4], by simp [unit4]⟩
theorem end_read : readB [34] = some ([], 1) := by decide +kernel
theorem units_one {g : Nat → UInt8} (hg : Dig g) (n : Nat) (hn : n < 65536) (h : n < 55296 ∨ 57343 < n) : readL (34 :: (unit4 g n ++ [34])) = some (encodeRune (n : Int), 8) := by
  unfold readL
  rw [if_neg (by simp), List.drop_succ_cons, List.drop_zero, readB_step _ (unit_head g n _).2 (unit_head g n _).1 (by rw [char_u1 hg n hn h]; dsimp only; omega), char_u1 hg n hn h]
  dsimp only
  rw [show List.drop 6 (unit4 g n ++ [34]) = [34] from rfl, end_read]
  simp
theorem units_half {g : Nat → UInt8} (hg : Dig g) (n : Nat) (h : 55296 ≤ n ∧ n ≤ 57343) : readL (34 :: (unit4 g n ++ [34])) = none := by
  unfold readL
  rw [if_neg (by simp), List.drop_succ_cons, List.drop_zero, readB_bad _ (unit_head g n _).1 (char_u9 hg n h)]
theorem units_two {g : Nat → UInt8} (hg : Dig g) (n m : Nat) (hn : 55296 ≤ n ∧ n < 56320) (hm : 56320 ≤ m ∧ m ≤ 57343) : readL (34 :: (unit4 g n ++ (unit4 g m ++ [34]))) = some (encodeRune ((65536 + (n - 55296) * 1024 + (m - 56320) : Nat) : Int), 14) := by
  unfold readL
  rw [if_neg (by simp), List.drop_succ_cons, List.drop_zero, readB_step _ (unit_head g n _).2 (unit_head g n _).1 (by rw [char_u2 hg n m hn hm]; dsimp only; omega), char_u2 hg n m hn hm]
  dsimp only
  rw [show List.drop 12 (unit4 g n ++ (unit4 g m ++ [34])) = [34] from rfl, end_read]
  simp
theorem units_wrong {g : Nat → UInt8} (hg : Dig g) (n m : Nat) (hm : 56320 ≤ m ∧ m ≤ 57343) : readL (34 :: (unit4 g m ++ (unit4 g n ++ [34]))) = none := by
  unfold readL
  rw [if_neg (by simp), List.drop_succ_cons, List.drop_zero, readB_bad _ (unit_head g m _).1 (char_u0 hg m (by omega) hm _)]
def hexU (k : Nat) : UInt8 := if k < 10 then UInt8.ofNat (48 + k) else UInt8.ofNat (55 + k)
theorem dig_low : Dig hexD := fun k h => hexD_V ⟨k, h⟩
theorem dig_up : Dig hexU := by
  have key : ∀ k : Fin 16, hexV (hexU k.val).toNat = (k.val : Int) := by decide
  exact fun k h => key ⟨k, h⟩
theorem up_at (K : Nat) (h : K < 16) : ∀ hh, (ByteArray.mk #[48, 49, 50, 51, 52, 53, 54, 55, 56, 57, 65, 66, 67, 68, 69, 70])[K]'hh = hexU K := by
  have key : ∀ k : Fin 16, (ByteArray.mk #[48, 49, 50, 51, 52, 53, 54, 55, 56, 57, 65, 66, 67, 68, 69, 70])[k.val]'(k.isLt) = hexU k.val := by decide +kernel
  intro hh
  exact key ⟨K, h⟩
end Go.Proofs.YthlioinmeimhoaaDoor
