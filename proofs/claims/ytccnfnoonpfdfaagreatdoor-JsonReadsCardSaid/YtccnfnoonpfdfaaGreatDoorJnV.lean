/- Values are themselves; how long a made value's key is. -/
import Derived.Test.YtccnfnoonpfdfaaGreatDoorJnU
import Derived.Test.YtccnfnoonpfdfaaGreatDoorJnD
namespace Go.Proofs.YtccnfnoonpfdfaaGreatDoor
open Go.Shelf Go.RowKit Go.Lib

theorem BA_append (a b : BL) : BA (a ++ b) = BA a ++ BA b := by
  apply ByteArray.ext
  simp [BA]
theorem ba_get {s : BL} {K : ByteArray} (h : BA s = K) (i : Nat) (hi : i < K.size) : s[i]? = some K[i] := by
  subst h
  have h2 : i < s.length := by rw [← ba_size]; exact hi
  rw [List.getElem?_eq_getElem h2]
  congr 1
theorem u8_eq (c : UInt8) (k : Nat) (hk : k < 256) : (((c.toNat : Nat) : Int) == (k : Int)) = (c == UInt8.ofNat k) := by
  rw [Bool.eq_iff_iff]
  simp only [beq_iff_eq]
  constructor
  · intro h
    have : c.toNat = k := by omega
    rw [← this]; simp
  · rintro rfl
    rw [UInt8.toNat_ofNat']
    omega
theorem icmp_refl (n : Int) : icmp n n = .eq := by
  unfold icmp
  rw [if_neg (by omega), if_neg (by omega)]
mutual
theorem cmpO_refl : ∀ v : V, cmpO v v = .eq
  | .null => by rw [cmpO]
  | .bool n => by rw [cmpO, icmp_refl]
  | .int n => by rw [cmpO, icmp_refl]
  | .text s => by rw [cmpO, lcmp_refl]
  | .list l => by rw [cmpO, cmpsO_refl l]
  | .obj l => by rw [cmpO, cmpfsO_refl l]
theorem cmpsO_refl : ∀ l : List V, cmpsO l l = .eq
  | [] => by rw [cmpsO]
  | v :: l => by rw [cmpsO, cmpO_refl v, cmpsO_refl l]; rfl
theorem cmpfO_refl : ∀ f : BL × V, cmpfO f f = .eq
  | (n, v) => by rw [cmpfO, lcmp_refl, cmpO_refl v]; rfl
theorem cmpfsO_refl : ∀ l : List (BL × V), cmpfsO l l = .eq
  | [] => by rw [cmpfsO]
  | v :: l => by rw [cmpfsO, cmpfO_refl v, cmpfsO_refl l]; rfl
end
theorem same_refl (v : V) : (cmpO v v == .eq) = true := by rw [cmpO_refl]; rfl
theorem keysL_append (l m : List V) : keysL (l ++ m) = keysL l ++ keysL m := by
  induction l with
  | nil => simp [keysL]
  | cons a l ih => simp [keysL, ih]
theorem fieldsL_append (l m : List (BL × V)) : fieldsL (l ++ m) = fieldsL l ++ fieldsL m := by
  induction l with
  | nil => simp [fieldsL]
  | cons a l ih => simp [fieldsL, ih]
theorem wordL_le (k : Nat) : (wordL k).length ≤ 16 := by
  rcases (show k = 0 ∨ k = 1 ∨ k = 2 ∨ k = 3 ∨ k = 4 ∨ k = 5 ∨ k = 6 ∨ k = 7 ∨ 8 ≤ k by omega) with rfl | rfl | rfl | rfl | rfl | rfl | rfl | rfl | h
  iterate 8 (· decide)
  · unfold wordL
    rw [List.getD_eq_getElem?_getD, List.getElem?_eq_none (by simpa using h)]
    exact Nat.zero_le _
theorem nameL_le (k : Nat) : (nameL k).length ≤ 1 := by
  rcases (show k = 0 ∨ k = 1 ∨ k = 2 ∨ k = 3 ∨ 4 ≤ k by omega) with rfl | rfl | rfl | rfl | h
  iterate 4 (· decide)
  · unfold nameL
    rw [List.getD_eq_getElem?_getD, List.getElem?_eq_none (by simpa using h)]
    exact Nat.zero_le _
theorem keyL_leaf (c : Nat) : (keyL (leafL c)).length ≤ 40 := by
  unfold leafL
  split
  · simp [keyL]
  · split
    · simp [keyL, numK]
    · split
      · have h1 := wordL_le (c / 6 % 8)
        have h2 := (escK_le (wordL (c / 6 % 8))).2
        simp [keyL, writtenK]
        omega
      · simp [keyL]
theorem keysL_times {rec : BL → V × BL} {B : Nat} (hB : ∀ b, (keyL (rec b).1).length ≤ B) (b : BL) : ∀ k, (keysL (timesL rec k b).1).length ≤ k * B
  | 0 => by simp [timesL, keysL]
  | k + 1 => by
    have h1 := keysL_times hB b k
    have h2 := hB (timesL rec k b).2
    rw [timesL_succ, keysL_append]
    simp [keysL, Nat.succ_mul]
    omega
theorem fieldsL_made {rec : BL → V × BL} {B : Nat} (hB : ∀ b, (keyL (rec b).1).length ≤ B) (n : Nat) (b : BL) : ∀ k, (fieldsL (fieldsN rec n k b).1).length ≤ k * (B + 5)
  | 0 => by simp [fieldsN, fieldsL]
  | k + 1 => by
    have h1 := fieldsL_made hB n b k
    have h2 := hB (fieldsN rec n k b).2
    have h3 := (escK_le (nameL k)).2
    have h4 := nameL_le k
    rw [fieldsN]
    split
    · rw [fieldsL_append]
      simp [fieldsL, fieldL_eq, writtenK, Nat.succ_mul]
      omega
    · rw [Nat.succ_mul]; omega
theorem keyL_made : ∀ (d : Nat) (b : BL), (keyL (madeL d b).1).length ≤ 40 * 5 ^ d
  | d, [] => by
    rw [madeL_nil]
    have : 0 < 5 ^ d := Nat.pow_pos (by omega)
    simp [keyL]
    omega
  | 0, c :: b => by
    have := keyL_leaf c.toNat
    simpa [madeL] using this
  | d + 1, c :: b => by
    have hp : 0 < 5 ^ d := Nat.pow_pos (by omega)
    have ih : ∀ b, (keyL (madeL d b).1).length ≤ 40 * 5 ^ d := keyL_made d
    have e : 40 * 5 ^ (d + 1) = 200 * 5 ^ d := by rw [Nat.pow_succ]; omega
    rw [e]
    unfold madeL
    split
    · have h1 := keysL_times ih b (c.toNat / 6 % 4)
      have h2 : c.toNat / 6 % 4 * (40 * 5 ^ d) ≤ 3 * (40 * 5 ^ d) := Nat.mul_le_mul_right _ (by omega)
      simp [keyL]
      omega
    · split
      · have h1 := fieldsL_made ih (c.toNat / 6) b 4
        simp [keyL]
        omega
      · have := keyL_leaf c.toNat
        simp only []
        omega
theorem keyL_of (l : BL) : (keyL (ofL l)).length ≤ 5000 := keyL_made 3 _
def JW (w : World) : Prop := EG w ∧ Words w
theorem JW.later {w w2 : World} (h : JW w) (hb : Below w.heap.size w w2) : JW w2 := ⟨h.1.below hb, h.2.later hb⟩
end Go.Proofs.YtccnfnoonpfdfaaGreatDoor
