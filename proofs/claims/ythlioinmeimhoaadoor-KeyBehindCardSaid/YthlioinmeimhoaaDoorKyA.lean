/- Keys: what the law's example comes to. A number's bytes; the key of 1. -/
import Derived.Test.YthlioinmeimhoaaDoorTxX
import Derived.Test.YthlioinmeimhoaaDoorFas
namespace Go.Proofs.YthlioinmeimhoaaDoor
open Go.Shelf Go.RowKit Go.Lib

def vInt (n : Int) : Value := .agg #[.int .i64 2, .int .i64 n, .string ⟨#[]⟩, .slice none 0 0, .slice none 0 0]
def vNull : Value := .agg #[.int .i64 0, .int .i64 0, .string ⟨#[]⟩, .slice none 0 0, .slice none 0 0]

theorem mk8 (w : World) : (Instr.makeSlice 22 (.int .i64 8) (.int .i64 8)).run Tryd.prog w = .ok (.slice (some ⟨w.heap.size, 0, none⟩) 8 8) (w.alloc (.cells #[.int .u8 0, .int .u8 0, .int .u8 0, .int .u8 0, .int .u8 0, .int .u8 0, .int .u8 0, .int .u8 0] 5)) := by kernel_rfl

set_option maxHeartbeats 4000000 in
set_option maxRecDepth 100000 in
theorem number_one (w : World) : Calls Tryd.prog 39 #[.int .i64 1] w fun e w' => e = .returned (.string (BA [128, 0, 0, 0, 0, 0, 0, 1])) ∧ Below w.heap.size w w' := by
  have hcv : ∀ (W : World) (b : Nat) (cap : Nat), W.cell? ⟨b, 0, none⟩ = some (.int .u8 128) → W.cell? ⟨b, 1, none⟩ = some (.int .u8 0) → W.cell? ⟨b, 2, none⟩ = some (.int .u8 0) → W.cell? ⟨b, 3, none⟩ = some (.int .u8 0) → W.cell? ⟨b, 4, none⟩ = some (.int .u8 0) → W.cell? ⟨b, 5, none⟩ = some (.int .u8 0) → W.cell? ⟨b, 6, none⟩ = some (.int .u8 0) → W.cell? ⟨b, 7, none⟩ = some (.int .u8 1) →
      (convert 22 9 (.slice (some ⟨b, 0, none⟩) 8 cap)).run Tryd.prog W = .ok (.string (BA [128, 0, 0, 0, 0, 0, 0, 1])) W := fun W b cap h0 h1 h2 h3 h4 h5 h6 h7 =>
    run_convert_bytes_back W 22 9 5 ⟨b, 0, none⟩ cap [128, 0, 0, 0, 0, 0, 0, 1] Tryd.underlying22 Tryd.underlying5 Tryd.underlying9 (fun j hj => by
      match j, hj with
      | 0, _ => simpa [Addr.add] using h0
      | 1, _ => simpa [Addr.add] using h1
      | 2, _ => simpa [Addr.add] using h2
      | 3, _ => simpa [Addr.add] using h3
      | 4, _ => simpa [Addr.add] using h4
      | 5, _ => simpa [Addr.add] using h5
      | 6, _ => simpa [Addr.add] using h6
      | 7, _ => simpa [Addr.add] using h7)
  go_enter Tryd.func39, Tryd.ntmps39
  have hmk := mk8 w
  have hx : bits .xor .u64 1 9223372036854775808 = 9223372036854775809 := by decide +kernel
  go_wp2
  refine wp_loop_rounds 9 ?_
  rw [rounds_succ]
  go_wp2
  rw [rounds_succ]
  go_wp2
  rw [rounds_succ]
  go_wp2
  rw [rounds_succ]
  go_wp2
  rw [rounds_succ]
  go_wp2
  rw [rounds_succ]
  go_wp2
  rw [rounds_succ]
  go_wp2
  rw [rounds_succ]
  go_wp2
  rw [rounds_succ]
  go_wp2
  go_ret
  exact ⟨rfl, (Below.refl _ w).alloc (Nat.le_refl _) _⟩

set_option maxHeartbeats 4000000 in
set_option maxRecDepth 100000 in
theorem kput_one (w : World) : Calls Tryd.prog 17 #[vInt 1] w fun e w' => e = .returned (.string (BA [3, 128, 0, 0, 0, 0, 0, 0, 1])) ∧ Below w.heap.size w w' := by
  obtain ⟨WA, hWA⟩ : ∃ WA, w.alloc (.cells #[.int .i64 2, .int .i64 1, .string ⟨#[]⟩, .slice none 0 0, .slice none 0 0] 28) = WA := ⟨_, rfl⟩
  have hsA : WA.heap.size = w.heap.size + 1 := by rw [← hWA]; simp
  have hblk : Blk WA w.heap.size 28 [.int .i64 2, .int .i64 1, .string ⟨#[]⟩, .slice none 0 0, .slice none 0 0] := by rw [← hWA]; exact heap_alloc_new w _
  have hB0 : BH (w.heap.size + 1) (w.heap.size + 1) [] (WA.alloc (.cells #[.pointer none, .slice none 0 0] 66)) := by rw [← hsA]; exact Lib.IsBuilderF.of (Lib.fresh_isBuilder _ _ WA)
  have hbA : Below w.heap.size w (WA.alloc (.cells #[.pointer none, .slice none 0 0] 66)) := by
    rw [← hWA]; exact ((Below.refl _ w).alloc (Nat.le_refl _) _).alloc (by simp) _
  have hblk2 := hblk.alloc (.cells #[.pointer none, .slice none 0 0] 66)
  have hsz2 : (WA.alloc (.cells #[.pointer none, .slice none 0 0] 66)).heap.size = w.heap.size + 2 := by simp [hsA]
  have H0 := Lib.hid (And.intro hWA (And.intro hB0 (And.intro hbA (And.intro hblk2 hsz2))))
  clear hWA hB0 hbA hblk hblk2 hsz2 hsA
  unfold vInt
  go_enter Tryd.func17, Tryd.ntmps17
  go_wp2_with fail
  rw [H0.out.1]
  refine (bh_byte (w.heap.size + 1) (w.heap.size + 1) [] 3 _ H0.out.2.1 (by simp) (by rw [H0.out.2.2.2.2]; omega)).mono ?_
  rintro e w1 ⟨rfl, h1, hb1⟩
  have hv1 : Blk w1 w.heap.size 28 _ := (hb1.block w.heap.size (by omega)).trans H0.out.2.2.2.1
  have c0 := hv1.cell 0
  have c1 := hv1.cell 1
  have H1 := Lib.hid (And.intro h1 (And.intro (H0.out.2.2.1.trans (hb1.mono (by omega))) (And.intro hv1 (by have := hb1.size; have := H0.out.2.2.2.2; omega : w.heap.size + 1 ≤ w1.heap.size))))
  clear h1 hb1 hv1
  go_wp2_with fail
  refine (number_one _).mono ?_
  rintro e w2 ⟨rfl, hb2⟩
  have H2 := Lib.hid (And.intro (H1.out.1.below hb2) (And.intro (H1.out.2.1.trans (hb2.mono H1.out.2.1.size)) (by have := hb2.size; have := H1.out.2.2.2; omega : w.heap.size + 1 ≤ w2.heap.size)))
  clear hb2 c0 c1
  go_wp2_with fail
  refine (bh_str _ _ ([] ++ [3]) (BA [128, 0, 0, 0, 0, 0, 0, 1]) _ H2.out.1 (by rw [ba_size]; simp) H2.out.2.2).mono ?_
  rintro e w3 ⟨rfl, h3, hb3⟩
  have H3 := Lib.hid (And.intro h3 (And.intro (H2.out.2.1.trans (hb3.mono (by omega))) (by have := hb3.size; have := H2.out.2.2; omega : w.heap.size + 1 ≤ w3.heap.size)))
  clear h3 hb3
  go_wp2_with fail
  refine (bh_get _ _ _ _ H3.out.1 H3.out.2.2).mono ?_
  rintro e w4 ⟨rfl, hb4⟩
  have H4 := Lib.hid (H3.out.2.1.trans (hb4.mono (by omega)))
  clear hb4
  go_wp2
  go_ret
  exact ⟨rfl, H4.out⟩
end Go.Proofs.YthlioinmeimhoaaDoor
