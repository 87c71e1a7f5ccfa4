/- The law's parts: it returns a text (printed by wip/gen_jpb.py). -/
import Derived.Test.YtccnfnoonpfdfaaGreatDoorJpA
namespace Go.Proofs.YtccnfnoonpfdfaaGreatDoor
open Go.Shelf Go.RowKit Go.Lib

def partC : List Value := #[.string ⟨#[123]⟩, .string ⟨#[125]⟩, .string ⟨#[91]⟩, .string ⟨#[93]⟩, .string ⟨#[44]⟩, .string ⟨#[58]⟩, .string ⟨#[34, 97, 34]⟩, .string ⟨#[34, 98, 34]⟩, .string ⟨#[49]⟩, .string ⟨#[45, 50]⟩, .string ⟨#[32]⟩, .string ⟨#[10]⟩, .string ⟨#[110, 117, 108, 108]⟩, .string ⟨#[116, 114, 117, 101]⟩, .string ⟨#[102, 97, 108, 115, 101]⟩, .string ⟨#[48]⟩, .string ⟨#[45]⟩, .string ⟨#[48, 49]⟩, .string ⟨#[49, 46, 53]⟩, .string ⟨#[50, 101, 51]⟩, .string ⟨#[57, 50, 50, 51, 51, 55, 50, 48, 51, 54, 56, 53, 52, 55, 55, 53, 56, 48, 55]⟩, .string ⟨#[45, 57, 50, 50, 51, 51, 55, 50, 48, 51, 54, 56, 53, 52, 55, 55, 53, 56, 48, 56]⟩, .string ⟨#[57, 50, 50, 51, 51, 55, 50, 48, 51, 54, 56, 53, 52, 55, 55, 53, 56, 48, 56]⟩, .string ⟨#[34, 92, 117, 48, 48, 54, 49, 34]⟩, .string ⟨#[34]⟩, .string ⟨#[110, 117, 108]⟩, .string ⟨#[91, 49, 44, 50, 93]⟩, .string ⟨#[123, 34, 97, 34, 58, 49, 125]⟩, .string ⟨#[0]⟩, .string ⟨#[44, 44]⟩].toList
theorem part_at (k : Nat) (hk : k < 30) : ∃ S : ByteArray, partC[k]? = some (.string S) ∧ S.size ≤ 20 := by
  match k, hk with
  | 0, _ => exact ⟨_, rfl, by decide⟩
  | 1, _ => exact ⟨_, rfl, by decide⟩
  | 2, _ => exact ⟨_, rfl, by decide⟩
  | 3, _ => exact ⟨_, rfl, by decide⟩
  | 4, _ => exact ⟨_, rfl, by decide⟩
  | 5, _ => exact ⟨_, rfl, by decide⟩
  | 6, _ => exact ⟨_, rfl, by decide⟩
  | 7, _ => exact ⟨_, rfl, by decide⟩
  | 8, _ => exact ⟨_, rfl, by decide⟩
  | 9, _ => exact ⟨_, rfl, by decide⟩
  | 10, _ => exact ⟨_, rfl, by decide⟩
  | 11, _ => exact ⟨_, rfl, by decide⟩
  | 12, _ => exact ⟨_, rfl, by decide⟩
  | 13, _ => exact ⟨_, rfl, by decide⟩
  | 14, _ => exact ⟨_, rfl, by decide⟩
  | 15, _ => exact ⟨_, rfl, by decide⟩
  | 16, _ => exact ⟨_, rfl, by decide⟩
  | 17, _ => exact ⟨_, rfl, by decide⟩
  | 18, _ => exact ⟨_, rfl, by decide⟩
  | 19, _ => exact ⟨_, rfl, by decide⟩
  | 20, _ => exact ⟨_, rfl, by decide⟩
  | 21, _ => exact ⟨_, rfl, by decide⟩
  | 22, _ => exact ⟨_, rfl, by decide⟩
  | 23, _ => exact ⟨_, rfl, by decide⟩
  | 24, _ => exact ⟨_, rfl, by decide⟩
  | 25, _ => exact ⟨_, rfl, by decide⟩
  | 26, _ => exact ⟨_, rfl, by decide⟩
  | 27, _ => exact ⟨_, rfl, by decide⟩
  | 28, _ => exact ⟨_, rfl, by decide⟩
  | 29, _ => exact ⟨_, rfl, by decide⟩
  | k + 30, h => exact absurd h (by omega)
set_option maxHeartbeats 4000000 in
set_option maxRecDepth 100000 in
theorem parts_any (w : World) (sv : Value) (l : BL) (h : BRead w.heap.size w sv l) :
    Calls Tryz.prog 17 #[sv] w fun e w' => ∃ S, e = .returned (.string S) ∧ Below w.heap.size w w' := by
  obtain ⟨hm, a, cap, rfl, hcap, hx⟩ := h
  have H := Lib.hid (And.intro hx hm)
  obtain ⟨L, hL⟩ : ∃ L, l.length = L := ⟨_, rfl⟩
  obtain ⟨m, hmm⟩ : ∃ m, min L 60 = m := ⟨_, rfl⟩
  have HL := Lib.hid hL
  rw [hL] at hcap hm ⊢
  clear hx hL
  have hm60 : m ≤ 60 := by omega
  have hmL : m ≤ L := by omega
  have hmin : min (L : Int) 60 = (m : Int) := by omega
  have hmc : m ≤ cap := by omega
  obtain ⟨P, hP⟩ : ∃ P, w.heap.size = P := ⟨_, rfl⟩
  obtain ⟨W0, hW0⟩ : ∃ W, w.alloc (.cells #[.string ⟨#[123]⟩, .string ⟨#[125]⟩, .string ⟨#[91]⟩, .string ⟨#[93]⟩, .string ⟨#[44]⟩, .string ⟨#[58]⟩, .string ⟨#[34, 97, 34]⟩, .string ⟨#[34, 98, 34]⟩, .string ⟨#[49]⟩, .string ⟨#[45, 50]⟩, .string ⟨#[32]⟩, .string ⟨#[10]⟩, .string ⟨#[110, 117, 108, 108]⟩, .string ⟨#[116, 114, 117, 101]⟩, .string ⟨#[102, 97, 108, 115, 101]⟩, .string ⟨#[48]⟩, .string ⟨#[45]⟩, .string ⟨#[48, 49]⟩, .string ⟨#[49, 46, 53]⟩, .string ⟨#[50, 101, 51]⟩, .string ⟨#[57, 50, 50, 51, 51, 55, 50, 48, 51, 54, 56, 53, 52, 55, 55, 53, 56, 48, 55]⟩, .string ⟨#[45, 57, 50, 50, 51, 51, 55, 50, 48, 51, 54, 56, 53, 52, 55, 55, 53, 56, 48, 56]⟩, .string ⟨#[57, 50, 50, 51, 51, 55, 50, 48, 51, 54, 56, 53, 52, 55, 55, 53, 56, 48, 56]⟩, .string ⟨#[34, 92, 117, 48, 48, 54, 49, 34]⟩, .string ⟨#[34]⟩, .string ⟨#[110, 117, 108]⟩, .string ⟨#[91, 49, 44, 50, 93]⟩, .string ⟨#[123, 34, 97, 34, 58, 49, 125]⟩, .string ⟨#[0]⟩, .string ⟨#[44, 44]⟩] 9) = W := ⟨_, rfl⟩
  have hk0 : Blk W0 P 9 partC := by rw [← hW0, ← hP]; exact heap_alloc_new w _
  have hb0 : Below w.heap.size w W0 := by rw [← hW0]; exact (Below.refl _ w).alloc (Nat.le_refl _) _
  have H0 := Lib.hid (And.intro hW0 (And.intro hP (And.intro hk0 hb0)))
  clear hW0 hP hk0 hb0
  go_enter Tryz.func17, Tryz.ntmps17
  go_wp2_with fail
  rw [H0.out.1]
  (try rw [H0.out.2.1])
  go_loopg [4, 14] m (fun gk xv iv wr => ∃ (i : Nat) (X : ByteArray), gk + i = m ∧ xv = .string X ∧ iv = .int .i64 i ∧ X.size ≤ 20 * i ∧ Hid (Below W0.heap.size W0 wr))
  case atStart => exact ⟨0, _, by omega, rfl, rfl, by decide, Lib.hid (Below.refl _ _)⟩
  case round =>
    obtain ⟨i, X, hg, rfl, rfl, hxs, HB⟩ := hrel
    by_cases hi : i < m
    · have hiz : (i : Int) < (m : Int) := by omega
      have hwK : IntKind.i64.wrap ((i : Int) + 1) = ((i + 1 : Nat) : Int) := by rw [IntWalk.i64_in _ (by omega)]; omega
      obtain ⟨b, off, rfl, hbn, hc⟩ := H.out.1 (by rw [HL.out]; omega)
      obtain ⟨x, hx⟩ : ∃ x, l[i]? = some x := ⟨_, List.getElem?_eq_getElem (by rw [HL.out]; omega)⟩
      have hcl := bcell HB.out (bcell H0.out.2.2.2 (hc i x hx))
      obtain ⟨j, hj⟩ : ∃ j, x.toNat % 30 = j := ⟨_, rfl⟩
      have hj30 : j < 30 := by omega
      have hjz : (j : Int) < 30 := by omega
      have zf : ((x.toNat : Nat) : Int).tmod 30 = (j : Int) := by rw [← hj]; exact (Int.ofNat_tmod x.toNat 30).symm
      have hxw : IntKind.i64.wrap ((x.toNat : Nat) : Int) = ((x.toNat : Nat) : Int) := by rw [IntKind.wrap_i64]; have := x.toNat_lt; omega
      have hjw : IntKind.i64.wrap (j : Int) = (j : Int) := by rw [IntKind.wrap_i64]; omega
      obtain ⟨S, hS, hSs⟩ := part_at j hj30
      have hcS := bcell HB.out ((H0.out.2.2.1.cell j).trans hS)
      clear hc hx hj hS
      go_wp2
      go_roundg (gk - 1)
      case rel => exact ⟨i + 1, _, by omega, rfl, rfl, by rw [ByteArray.size_append]; omega, HB⟩
      case measure => omega
    · have hiz : ¬ (i : Int) < (m : Int) := by omega
      go_wp2
      go_ret
      have hf := H0.out.2.2.2.trans (HB.out.mono H0.out.2.2.2.size)
      first | exact ⟨_, rfl, hf⟩ | exact ⟨⟨_, rfl⟩, hf⟩ | exact hf
end Go.Proofs.YtccnfnoonpfdfaaGreatDoor
