/- KeyBehind: the law's walk. -/
import Derived.Test.YthlioinmeimhoaaDoorKyF
namespace Go.Proofs.YthlioinmeimhoaaDoor
open Go.Shelf Go.RowKit Go.Lib

/-- a text's first 100 bytes. -/
def cut1 (s : ByteArray) : ByteArray := s.extract 0 (min (s.size : Int) 100).toNat
theorem cut1_size (s : ByteArray) : (cut1 s).size ≤ 100 := by unfold cut1; rw [ByteArray.size_extract]; omega

/-- nothing stands ahead of itself; and nothing ahead of its own beginning. -/
theorem less_app : ∀ (l t : List UInt8), Op.bytesLess (l ++ t) l = false
  | [], t => by cases t <;> rfl
  | a :: l, t => by
    show (decide (a < a) || (a == a && Op.bytesLess (l ++ t) l)) = false
    rw [less_app l t]
    simp
/-- between a text and the one with a 0 behind it there is nothing. -/
theorem less_behind : ∀ (l t : List UInt8), Op.bytesLess t l = false → t ≠ l → Op.bytesLess t (l ++ [0]) = false
  | [], [], _, h => absurd rfl h
  | [], b :: t, _, _ => by
    show (decide (b < 0) || (b == 0 && Op.bytesLess t [])) = false
    have h1 : Op.bytesLess t [] = false := by cases t <;> rfl
    rw [h1]
    simp
  | a :: l, [], h, _ => by simp [Op.bytesLess] at h
  | a :: l, b :: t, h, hn => by
    have h' : (decide (b < a) || (b == a && Op.bytesLess t l)) = false := h
    show (decide (b < a) || (b == a && Op.bytesLess t (l ++ [0]))) = false
    rw [Bool.or_eq_false_iff] at h'
    obtain ⟨h1, h2⟩ := h'
    rw [h1]
    by_cases e : b = a
    · subst e
      have h3 : Op.bytesLess t l = false := by simpa using h2
      rw [less_behind l t h3 (fun e2 => hn (by rw [e2]))]
      simp
    · have e3 : (b == a) = false := by simpa using e
      rw [e3]
      simp
theorem behind_list (k : ByteArray) : (k ++ (⟨#[0]⟩ : ByteArray)).toList = k.toList ++ [0] := by
  rw [Lib.toList_data, Lib.toList_data, app_list]
theorem behind_ne (l : List UInt8) : ¬ l ++ [0] = l := fun h => by
  have := congrArg List.length h
  simp at this

set_option maxHeartbeats 2000000 in
set_option maxRecDepth 100000 in
theorem kbehind_law (s t : ByteArray) (w : World) (hT : Tabs w) :
    Calls Tryd.prog 8 #[.string s, .string t] w fun e w' => e = .returned (.bool true) ∧ Below w.heap.size w w' := by
  have HT := Lib.hid hT
  clear hT
  obtain ⟨X, hX⟩ : ∃ X, s.extract 0 (min (s.size : Int) 100).toNat = X := ⟨_, rfl⟩
  have hXs : X.size ≤ 100 := by rw [← hX]; exact cut1_size s
  obtain ⟨Y, hY⟩ : ∃ Y, t.extract 0 (min (t.size : Int) 100).toNat = Y := ⟨_, rfl⟩
  have HS := Lib.hid hXs
  clear hXs
  go_enter Tryd.func8, Tryd.ntmps8
  go_wp2_with fail
  refine (kawake_any _ HT.out).mono ?_
  rintro e w1 ⟨rfl, hb1⟩
  have H1 := Lib.hid hb1
  clear hb1
  go_wp2_with fail
  go_quiet (fail)
  obtain ⟨wd, hwd⟩ : ∃ v, w1.drewN nq = v := ⟨_, rfl⟩
  have Hd := Lib.hid (hwd ▸ below_drewNv H1.out nq : Below w.heap.size w wd)
  rw [hwd]
  clear hwd
  go_wp2_with fail
  refine (behind_any X wd (by have := HS.out; omega)).mono ?_
  rintro e w2 ⟨rfl, rfl⟩
  obtain ⟨B, hB⟩ : ∃ B, X ++ (⟨#[0]⟩ : ByteArray) = B := ⟨_, rfl⟩
  have hBl : B.toList = X.toList ++ [0] := by rw [← hB]; exact behind_list X
  have f1 : Op.bytesLess B.toList X.toList = false := by rw [hBl]; exact less_app _ _
  have f2 : ¬ B.toList = X.toList := by rw [hBl]; exact behind_ne _
  have f2b : (B.toList == X.toList) = false := by simpa using f2
  rw [hB]
  by_cases c1 : Op.bytesLess Y.toList X.toList = true
  · clear hBl hB hX hY
    go_wp2
    go_ret
    exact ⟨rfl, Hd.out⟩
  · have c1' : Op.bytesLess Y.toList X.toList = false := by simpa using c1
    by_cases c2 : Y.toList = X.toList
    · have c2' : (Y.toList == X.toList) = true := by simpa using c2
      clear hBl hB hX hY c1
      go_wp2
      go_ret
      exact ⟨rfl, Hd.out⟩
    · have c2' : (Y.toList == X.toList) = false := by simpa using c2
      have c3 : Op.bytesLess Y.toList B.toList = false := by rw [hBl]; exact less_behind _ _ c1' c2
      clear hBl hB hX hY c1
      go_wp2
      go_ret
      exact ⟨rfl, Hd.out⟩
end Go.Proofs.YthlioinmeimhoaaDoor
