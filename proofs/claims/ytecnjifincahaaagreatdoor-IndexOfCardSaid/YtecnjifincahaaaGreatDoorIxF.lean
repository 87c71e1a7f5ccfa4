/- path.Parse at a text that is a path. -/
import Derived.Test.YtecnjifincahaaaGreatDoorIxE
namespace Go.Proofs.YtecnjifincahaaaGreatDoor
open Go.Shelf Go.RowKit Go.Lib

set_option maxRecDepth 100000 in
theorem part_ok (P : ByteArray) (n : Nat) (hn : P.size = n) (h1 : 1 ≤ n) (h2 : n ≤ 32) (w : World) : Calls Tryz.prog 32 #[.string P] w fun e w' => e = .returned (.bool false) ∧ w' = w := by
  have hne : P.toList.isEmpty = false := by
    rw [Lib.toList_data]
    have h3 : P.size = P.data.toList.length := by rw [Array.length_toList]; rfl
    cases h : P.data.toList with
    | nil => rw [h, hn, List.length_nil] at h3; omega
    | cons _ _ => rfl
  have hgt : ¬ (32 : Int) < (n : Int) := by omega
  go_enter Tryz.func32, Tryz.ntmps32
  go_wp2
  go_ret
  exact ⟨by first | rfl | simp, rfl⟩

set_option maxHeartbeats 2000000 in
set_option maxRecDepth 100000 in
theorem pidx_any (ps : List BL) (sl : Value) (w : World) (hP : PRead w sl ps) (hok : ∀ p ∈ ps, 1 ≤ p.length ∧ p.length ≤ 32) :
    Calls Tryz.prog 54 #[sl, .func (.func 32) #[] #[]] w fun e w' => e = .returned (.int .i64 (-1)) ∧ w' = w := by
  obtain ⟨hn, g, cap, rfl, hg⟩ := hP
  obtain ⟨n, hnn⟩ : ∃ n, ps.length = n := ⟨_, rfl⟩
  rw [hnn] at hn
  rw [hnn]
  have H0 := Lib.hid (And.intro hg (And.intro hok hnn))
  clear hg hok hnn
  go_enter Tryz.func54, Tryz.ntmps54
  go_wp2_with fail
  go_loopg [8] n (fun gk iv wr => ∃ (i : Nat), gk + i = n ∧ iv = .int .i64 i ∧ wr = w)
  case atStart => exact ⟨0, by omega, rfl, rfl⟩
  case round =>
    obtain ⟨i, hgi, rfl, rfl⟩ := hrel
    by_cases hi : i < n
    · have hiz : (i : Int) < (n : Int) := by omega
      have hwK : IntKind.i64.wrap ((i : Int) + 1) = ((i + 1 : Nat) : Int) := by rw [IntWalk.i64_in _ (by omega)]; omega
      have hil : i < ps.length := by rw [H0.out.2.2]; exact hi
      have hpc := H0.out.1 i hil
      have hcall := part_ok (BA ps[i]) ps[i].length (ba_size _) (H0.out.2.1 _ (List.getElem_mem hil)).1 (H0.out.2.1 _ (List.getElem_mem hil)).2 wr
      obtain ⟨nm, hnm⟩ : ∃ nm, BA ps[i] = nm := ⟨_, rfl⟩
      rw [hnm] at hpc hcall
      clear hnm
      go_wp2_with fail
      refine (show Calls _ _ _ _ _ from hcall).mono ?_
      rintro e w2 ⟨rfl, rfl⟩
      clear hcall hpc
      go_wp2
      go_roundg (gk - 1)
      case rel => exact ⟨i + 1, by omega, rfl, rfl⟩
      case measure => omega
    · have hiz : ¬ (i : Int) < (n : Int) := by omega
      go_wp2
      go_ret
      exact ⟨rfl, rfl⟩
set_option maxRecDepth 100000 in
theorem pcont_any (ps : List BL) (sl : Value) (w : World) (hP : PRead w sl ps) (hok : ∀ p ∈ ps, 1 ≤ p.length ∧ p.length ≤ 32) :
    Calls Tryz.prog 31 #[sl, .func (.func 32) #[] #[]] w fun e w' => e = .returned (.bool false) ∧ w' = w := by
  have hcall := pidx_any ps sl w hP hok
  clear hP hok
  go_enter Tryz.func31, Tryz.ntmps31
  go_wp2_with fail
  refine (show Calls _ _ _ _ _ from hcall).mono ?_
  rintro e w2 ⟨rfl, rfl⟩
  go_wp2
  go_ret
  exact ⟨rfl, rfl⟩
def dotS : ByteArray := BA [46]
/-- the parts of a path. -/
structure IsPath (s : BL) (ps : List BL) : Prop where
  split : Lib.splitB dotS 0 (Lib.countB (BA s) dotS) (BA s) = ps.map BA
  count : Lib.countB (BA s) dotS + 1 = ps.length
  ok : ∀ p ∈ ps, 1 ≤ p.length ∧ p.length ≤ 32
  few : ps.length ≤ 8
  valid : Lib.validD s = true
  small : s.length ≤ 1000

set_option maxHeartbeats 2000000 in
set_option maxRecDepth 100000 in
theorem parse_any (s : BL) (ps : List BL) (h : IsPath s ps) (w : World) (hT : Tabs w) (hM : ML w) :
    Calls Tryz.prog 10 #[.string (BA s)] w fun e w' => ∃ sl, e = .returned (.tuple #[sl, .nilIface]) ∧ PRead w' sl ps ∧ Below w.heap.size w w' := by
  obtain ⟨m, hm⟩ := hM
  have hsplit := Tryz.strings_Split (BA s) dotS m w (by rw [ba_size]; have := h.small; omega) hm (by decide)
  rw [h.split, h.count] at hsplit
  obtain ⟨W1, hW1⟩ : ∃ W, w.alloc (.cells ((ps.map BA).map Value.string).toArray 9) = W := ⟨_, rfl⟩
  have hb1 : Below w.heap.size w W1 := by rw [← hW1]; exact (Below.refl _ w).alloc (Nat.le_refl _) _
  have hP : PRead W1 (.slice (some ⟨w.heap.size, 0, none⟩) ps.length ps.length) ps := by
    refine ⟨by have := h.few; omega, w.heap.size, _, rfl, fun i hi => ?_⟩
    have h2 := heap_alloc_new w (.cells ((ps.map BA).map Value.string).toArray 9)
    rw [hW1] at h2
    rw [(show Blk W1 w.heap.size 9 ((ps.map BA).map Value.string) from h2).cell i]
    simp [hi]
  rw [hW1] at hsplit
  have hcont := pcont_any ps _ W1 hP h.ok
  have hval := valid_any (BA s) W1 (by rw [ba_size]; have := h.small; omega) (hT.below hb1)
  rw [show (BA s).data.toList = s by simp, h.valid] at hval
  have H0 := Lib.hid (And.intro hcont (And.intro hval (And.intro hP hb1)))
  obtain ⟨n, hn⟩ : ∃ n, ps.length = n := ⟨_, rfl⟩
  have hn8 := h.few
  rw [hn] at hsplit H0 hn8
  have hgt : ¬ (8 : Int) < (n : Int) := by omega
  obtain ⟨X, hX⟩ : ∃ X, BA s = X := ⟨_, rfl⟩
  rw [hX] at hsplit H0 ⊢
  unfold dotS at hsplit
  clear hcont hval hP hb1 hn hX hm hW1 hT h
  go_enter Tryz.func10, Tryz.ntmps10
  go_wp2_with fail
  refine (show Calls _ _ _ _ _ from hsplit).mono ?_
  rintro e w2 ⟨rfl, rfl⟩
  clear hsplit
  go_wp2_with fail
  refine (show Calls _ _ _ _ _ from H0.out.1).mono ?_
  rintro e w3 ⟨rfl, rfl⟩
  go_wp2_with fail
  refine (show Calls _ _ _ _ _ from H0.out.2.1).mono ?_
  rintro e w4 ⟨rfl, hb4⟩
  have H4 := Lib.hid hb4
  clear hb4
  go_wp2
  go_ret2
  refine ⟨_, rfl, ?_, H0.out.2.2.2.trans (H4.out.mono H0.out.2.2.2.size)⟩
  obtain ⟨h1, g, cap, h2, h3⟩ := H0.out.2.2.1
  exact ⟨h1, g, cap, h2, fun i hi => bcell H4.out (h3 i hi)⟩
end Go.Proofs.YtecnjifincahaaaGreatDoor
