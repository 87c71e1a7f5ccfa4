/- Cut out of XKpA, XKcA (wip/cutout.py): what is needed here. -/
import Derived.Test.YtecnjifincahaaaGreatDoorIxR

namespace Go.Proofs.YtecnjifincahaaaGreatDoor
open Go.Shelf Go.RowKit Go.Lib
def lcmp : BL → BL → Ordering
  | [], [] => .eq
  | [], _ :: _ => .lt
  | _ :: _, [] => .gt
  | a :: l, b :: m => if a < b then .lt else if b < a then .gt else lcmp l m
theorem lcmp_cons (a b : UInt8) (l m : BL) : lcmp (a :: l) (b :: m) = if a < b then .lt else if b < a then .gt else lcmp l m := by rw [lcmp]
def icmp (a b : Int) : Ordering := if a < b then .lt else if b < a then .gt else .eq
def sgnO : Ordering → Int
  | .lt => -1
  | .eq => 0
  | .gt => 1
theorem lcmp_same (p s t : BL) : lcmp (p ++ s) (p ++ t) = lcmp s t := by
  induction p with
  | nil => rfl
  | cons a p ih => simp [lcmp, ih]
theorem lcmp_refl (p : BL) : lcmp p p = .eq := by
  have := lcmp_same p [] []
  simpa [lcmp] using this
theorem lcmp_eq : ∀ {l m : BL}, lcmp l m = .eq → l = m
  | [], [], _ => rfl
  | [], _ :: _, h => by simp [lcmp] at h
  | _ :: _, [], h => by simp [lcmp] at h
  | a :: l, b :: m, h => by
    unfold lcmp at h
    by_cases h1 : a < b
    · rw [if_pos h1] at h; cases h
    · rw [if_neg h1] at h
      by_cases h2 : b < a
      · rw [if_pos h2] at h; cases h
      · rw [if_neg h2] at h
        have e : a = b := by
          apply UInt8.toNat_inj.mp
          have h1' : ¬ a.toNat < b.toNat := fun h => h1 (UInt8.lt_iff_toNat_lt.mpr h)
          have h2' : ¬ b.toNat < a.toNat := fun h => h2 (UInt8.lt_iff_toNat_lt.mpr h)
          omega
        rw [e, lcmp_eq h]
theorem lcmp_less : ∀ (l m : BL), Op.bytesLess l m = (lcmp l m == .lt)
  | [], [] => rfl
  | [], _ :: _ => rfl
  | _ :: _, [] => rfl
  | a :: l, b :: m => by
    show (decide (a < b) || (a == b && Op.bytesLess l m)) = _
    rw [lcmp_less l m, lcmp_cons]
    by_cases h1 : a < b
    · simp [h1]
    · by_cases h2 : b < a
      · have e : (a == b) = false := by
          simp
          rintro rfl
          exact h1 h2
        simp [h1, h2, e]
      · have e : a = b := by
          apply UInt8.toNat_inj.mp
          have h1' : ¬ a.toNat < b.toNat := fun h => h1 (UInt8.lt_iff_toNat_lt.mpr h)
          have h2' : ¬ b.toNat < a.toNat := fun h => h2 (UInt8.lt_iff_toNat_lt.mpr h)
          omega
        subst e
        simp [h1]
theorem lcmp_swap : ∀ (l m : BL), lcmp m l = (lcmp l m).swap
  | [], [] => rfl
  | [], _ :: _ => rfl
  | _ :: _, [] => rfl
  | a :: l, b :: m => by
    rw [lcmp_cons, lcmp_cons]
    by_cases h1 : a < b
    · have h2 : ¬ b < a := fun h => by
        have h1' := UInt8.lt_iff_toNat_lt.mp h1
        have h2' := UInt8.lt_iff_toNat_lt.mp h
        omega
      rw [if_pos h1, if_neg h2, if_pos h1]; rfl
    · by_cases h2 : b < a
      · rw [if_pos h2, if_neg h1, if_pos h2]; rfl
      · rw [if_neg h2, if_neg h1, if_neg h1, if_neg h2]
        exact lcmp_swap l m
end Go.Proofs.YtecnjifincahaaaGreatDoor
namespace Go.Proofs.YtecnjifincahaaaGreatDoor
open Go.Shelf Go.RowKit Go.Lib
set_option maxRecDepth 100000 in
theorem texts_any (X Y : ByteArray) (w : World) : Calls Tryz.prog 77 #[.string X, .string Y] w fun e w' => e = .returned (.int .i64 (sgnO (lcmp X.toList Y.toList))) ∧ w = w' := by
  have h1 := lcmp_less X.toList Y.toList
  cases hc : lcmp X.toList Y.toList
  · have h2 : Op.bytesLess X.toList Y.toList = true := by rw [h1, hc]; rfl
    clear hc h1
    go_enter Tryz.func77, Tryz.ntmps77
    go_wp2
    go_ret
    exact ⟨rfl, rfl⟩
  · have h2 : Op.bytesLess X.toList Y.toList = false := by rw [h1, hc]; rfl
    have h3 : (X.toList == Y.toList) = true := by rw [lcmp_eq hc]; simp
    have h4 : X.toList = Y.toList := lcmp_eq hc
    clear hc h1
    go_enter Tryz.func77, Tryz.ntmps77
    rw [h4] at h2 h3
    go_wp2
    go_ret
    exact ⟨rfl, rfl⟩
  · have h2 : Op.bytesLess X.toList Y.toList = false := by rw [h1, hc]; rfl
    have h4 : ¬ X.toList = Y.toList := fun e => by rw [e, lcmp_refl] at hc; cases hc
    have h3 : (X.toList == Y.toList) = false := by simpa using h4
    clear hc h1
    go_enter Tryz.func77, Tryz.ntmps77
    go_wp2
    go_ret
    exact ⟨rfl, rfl⟩
end Go.Proofs.YtecnjifincahaaaGreatDoor
