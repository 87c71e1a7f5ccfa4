/- Keys, cut off or one behind another: plain laws of what the reader makes of them. -/
import Derived.Test.YthlioinmeimhoaaDoorKgO
namespace Go.Proofs.YthlioinmeimhoaaDoor
open Go.Shelf Go.RowKit Go.Lib

theorem getL_key {s : BL} {v : V} (h : getL s = some v) : s = keyL v ∧ okV v ∧ validV v = true := by
  unfold getL at h
  cases hr : rvalueL 15 s with
  | none => rw [hr] at h; cases h
  | some p =>
    obtain ⟨u, r⟩ := p
    rw [hr] at h
    cases r with
    | cons c r => cases h
    | nil =>
      cases hv : validV u with
      | false => simp [hv] at h
      | true =>
        simp [hv] at h
        subst h
        have hk := rvalueL_key 15 s u [] hr
        rw [List.append_nil] at hk
        exact ⟨hk.1, hk.2, hv⟩
theorem getL_cut (v : V) (hv : okV v) (n : Nat) (hn : n < (keyL v).length) : getL ((keyL v).take n) = none := by
  cases h : getL ((keyL v).take n) with
  | none => rfl
  | some u =>
    obtain ⟨e, ho, _⟩ := getL_key h
    have h1 : keyL v ++ [] = keyL u ++ (keyL v).drop n := by rw [← e, List.take_append_drop, List.append_nil]
    have h2 := (keyL_apart v u ((keyL v).drop n) [] hv ho h1).2
    have h3 := congrArg List.length h2
    rw [List.length_drop, List.length_nil] at h3
    omega
theorem getL_two (v m : V) (hv : okV v) : getL (keyL v ++ keyL m) = none := by
  cases h : getL (keyL v ++ keyL m) with
  | none => rfl
  | some u =>
    obtain ⟨e, ho, _⟩ := getL_key h
    have h2 := (keyL_apart v u [] (keyL m) hv ho (by rw [e, List.append_nil])).2
    have h3 := keyL_one m
    rw [h2] at h3
    exact absurd h3 (by simp)
theorem key_begins (v m : V) (hv : okV v) (hm : okV m) (h : (keyL m).take (keyL v).length = keyL v) : keyL v = keyL m := by
  have h1 : keyL m ++ [] = keyL v ++ (keyL m).drop (keyL v).length := by
    rw [List.append_nil]
    conv => lhs; rw [← List.take_append_drop (keyL v).length (keyL m), h]
  have h2 := (keyL_apart m v _ [] hm hv h1).2
  rw [← h2] at h1
  simpa using h1.symm
end Go.Proofs.YthlioinmeimhoaaDoor
