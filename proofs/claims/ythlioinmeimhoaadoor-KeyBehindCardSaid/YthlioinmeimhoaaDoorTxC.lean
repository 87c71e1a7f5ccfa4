/- Characters: the decoder's contract, the law's First, where a character stands among the five short ones, four digits written. -/
import Derived.Test.YthlioinmeimhoaaDoorTxB
import Derived.Test.YthlioinmeimhoaaDoorTxP
import Derived.Lib.LaidU8
import Derived.WalkKit
import Derived.BigCall
import Derived.BigGuard
import Derived.Lib.Walk
import Derived.RegionTactic
namespace Go.Proofs.YthlioinmeimhoaaDoor
open Go.Shelf Go.RowKit Go.Lib

def Tabs (w : World) : Prop := Lib.Utf8Tabs 3 4 w
theorem Tabs.below {w w2 : World} (h : Tabs w) (hb : Below w.heap.size w w2) : Tabs w2 := Utf8Tabs_below h hb

abbrev BA (l : BL) : ByteArray := ⟨l.toArray⟩
theorem ba_list (s : ByteArray) : BA s.data.toList = s := by cases s; simp
theorem ba_size (l : BL) : (BA l).size = l.length := by simp [ByteArray.size]

theorem dec_any (s : ByteArray) (w : World) (hT : Tabs w) (hne : s.data.toList ≠ []) :
    Calls Tryd.prog 48 #[.string s] w fun e w' => e = .returned (.tuple #[.int .i32 (decodeL s.data.toList).1, .int .i64 (decodeL s.data.toList).2]) ∧ Below w.heap.size w w' := by
  refine (Tryd.utf8_DecodeRuneInString s w hT).mono ?_
  rintro e w' ⟨rfl, hb⟩
  have h0 : s.size ≠ 0 := fun h => hne (List.eq_nil_of_length_eq_zero (by rw [← size_eq]; exact h))
  refine ⟨?_, hb⟩
  rw [show Lib.decodeGo s = decodeL s.data.toList by rw [Lib.decodeGo, if_neg h0]; unfold decodeL; rw [show (⟨s.data.toList.toArray⟩ : ByteArray) = s from ba_list s]]

/-- The first character. -/
def firstL (l : BL) : Nat × Nat := if l = [] then (0, 0) else decodeL l
theorem decode_ba (s : ByteArray) : Utf8.decode s 0 = decodeL s.data.toList := by unfold decodeL; rw [show (⟨s.data.toList.toArray⟩ : ByteArray) = s from ba_list s]

set_option maxHeartbeats 2000000 in
set_option maxRecDepth 100000 in
theorem first_any (s : ByteArray) (w : World) :
    Calls Tryd.prog 35 #[.string s] w fun e w' => e = .returned (.tuple #[.int .i32 (firstL s.data.toList).1, .int .i64 (firstL s.data.toList).2]) ∧ Below w.heap.size w w' := by
  have hdl := fun hne => decodeL_le s.data.toList hne
  have hdw := decodeL_width s.data.toList
  rw [← size_eq] at hdl
  have hnil : s.size = 0 → s.data.toList = [] := fun h => List.eq_nil_of_length_eq_zero (by rw [← size_eq]; exact h)
  have hnn : s.data.toList = [] → s.size = 0 := fun h => by rw [size_eq, h]; rfl
  obtain ⟨R, hR⟩ : ∃ R, (decodeL s.data.toList).1 = R := ⟨_, rfl⟩
  obtain ⟨K, hK⟩ : ∃ K, (decodeL s.data.toList).2 = K := ⟨_, rfl⟩
  have hD : Utf8.decode s 0 = (R, K) := by rw [decode_ba, ← hR, ← hK]
  rw [hK] at hdl hdw
  go_enter Tryd.func35, Tryd.ntmps35
  go_wp2
  go_loopg [4, 5] 2 (fun gk nn c wr => nn = .int .i64 s.size ∧ ∃ pos : Nat, wr.heap[w.heap.size]? = some (.stringIter s pos) ∧ Below w.heap.size w wr ∧ ((pos = 0 ∧ c = .int .i32 0 ∧ gk = 2) ∨ (s.size ≠ 0 ∧ pos = K ∧ c = .int .i32 R ∧ gk = 1)))
  case atStart =>
    refine ⟨rfl, 0, ?_, (Below.refl _ w).alloc (Nat.le_refl _) _, .inl ⟨rfl, rfl, rfl⟩⟩
    have := World.iter_heap w s 0
    simpa using this
  case round =>
    obtain ⟨rfl, pos, hit, hbw, hc⟩ := hrel
    have hsz : w.heap.size < wr.heap.size := (Array.getElem?_eq_some_iff.1 hit).1
    by_cases hp : pos < s.size
    · have hnx : ∀ ty, (Instr.next (.pointer (some ⟨w.heap.size, 0, none⟩)) true ty).run Tryd.prog wr = _ := fun ty => Lib.run_next_any_at wr w.heap.size s pos ty hit hp
      have hit2 := Lib.iterAt_heap wr w.heap.size s pos (pos + (Utf8.decode s pos).2) hit
      have hbw2 := Lib.below_iterAt hbw (k := w.heap.size) (Nat.le_refl _) s (pos + (Utf8.decode s pos).2)
      rcases hc with ⟨rfl, rfl, rfl⟩ | ⟨h0, rfl, rfl, rfl⟩
      · rw [hD, Nat.zero_add] at hit2 hbw2
        rw [hD, Nat.zero_add] at hnx
        have HB := Lib.hid (And.intro hit2 hbw2)
        clear hit2 hbw2 hbw hit
        go_wp2
        go_roundg 1
        case rel => exact ⟨rfl, K, HB.out.1, HB.out.2, .inr ⟨by omega, rfl, rfl, rfl⟩⟩
        case measure => omega
      · have hf : firstL s.data.toList = (R, pos) := by unfold firstL; rw [if_neg (fun h => h0 (hnn h)), ← hR, ← hK]
        have HB := Lib.hid (And.intro hit2 hbw2)
        have hp0 : (0 : Int) < (pos : Int) := by omega
        clear hit2 hbw2 hbw hit
        go_wp2
        go_ret2
        rw [hf]
        exact ⟨rfl, HB.out.2⟩
    · have hnx : ∀ ty, (Instr.next (.pointer (some ⟨w.heap.size, 0, none⟩)) true ty).run Tryd.prog wr = _ := fun ty => Lib.run_next_end_at wr w.heap.size s pos ty hit hp
      have HB := Lib.hid hbw
      clear hbw hit
      rcases hc with ⟨rfl, rfl, rfl⟩ | ⟨h0, rfl, rfl, rfl⟩
      · have h0 : s.size = 0 := by omega
        have hf : firstL s.data.toList = (0, s.size) := by unfold firstL; rw [if_pos (hnil h0), h0]
        go_wp2
        go_ret2
        rw [hf]
        exact ⟨rfl, HB.out⟩
      · have hle := hdl (fun h => h0 (hnn h))
        have hf : firstL s.data.toList = (R, s.size) := by unfold firstL; rw [if_neg (fun h => h0 (hnn h)), show decodeL s.data.toList = (R, pos) by rw [← hR, ← hK], show pos = s.size by omega]
        go_wp2
        go_ret2
        rw [hf]
        exact ⟨rfl, HB.out⟩
end Go.Proofs.YthlioinmeimhoaaDoor
