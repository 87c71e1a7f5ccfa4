/- Merged: KyA, KyB, KyC, KyD, KyE, KyF, KyG. -/
import Derived.Test.YthlioinmeimhoaaDoorGB
import Derived.Test.YthlioinmeimhoaaDoorGA
import Derived.Laws.IdiomStrings
import Derived.Lib.SmallJoins
/- Keys: what the law's example comes to. A number's bytes; the key of 1. -/
namespace Go.Proofs.YthlioinmeimhoaaDoor
open Go.Shelf Go.RowKit Go.Lib

def vInt (n : Int) : Value := .agg #[.int .i64 2, .int .i64 n, .string ⟨#[]⟩, .slice none 0 0, .slice none 0 0]
def vNull : Value := .agg #[.int .i64 0, .int .i64 0, .string ⟨#[]⟩, .slice none 0 0, .slice none 0 0]

theorem mk8 (w : World) : (Instr.makeSlice 22 (.int .i64 8) (.int .i64 8)).run Tryd.prog w = .ok (.slice (some ⟨w.heap.size, 0, none⟩) 8 8) (w.alloc (.cells #[.int .u8 0, .int .u8 0, .int .u8 0, .int .u8 0, .int .u8 0, .int .u8 0, .int .u8 0, .int .u8 0] 5)) := by kernel_rfl

set_option maxHeartbeats 4000000 in
set_option maxRecDepth 100000 in
theorem number_one (w : World) : Calls Tryd.prog 39 #[.int .i64 1] w fun e w' => e = .returned (.string (BA [128, 0, 0, 0, 0, 0, 0, 1])) ∧ Below w.heap.size w w' := by
  have hcv : ∀ (W : World) (b : Nat) (cap : Nat), W.cell? ⟨b, 0, none⟩ = some (.int .u8 128) → W.cell? ⟨b, 1, none⟩ = some (.int .u8 0) → W.cell? ⟨b, 2, none⟩ = some (.int .u8 0) → W.cell? ⟨b, 3, none⟩ = some (.int .u8 0) → W.cell? ⟨b, 4, none⟩ = some (.int .u8 0) → W.cell? ⟨b, 5, none⟩ = some (.int .u8 0) → W.cell? ⟨b, 6, none⟩ = some (.int .u8 0) → W.cell? ⟨b, 7, none⟩ = some (.int .u8 1) →
      (convert 22 9 (.slice (some ⟨b, 0, none⟩) 8 cap)).run Tryd.prog W = .ok (.string (BA [128, 0, 0, 0, 0, 0, 0, 1])) W := fun W b cap h0 h1 h2 h3 h4 h5 h6 h7 =>
    run_convert_bytes_back W 22 9 5 ⟨b, 0, none⟩ cap [128, 0, 0, 0, 0, 0, 0, 1] Tryd.underlying22 Tryd.underlying5 Tryd.underlying9 (fun j hj => by
      match j, hj with
      | 0, _ => simpa [Addr.add] using h0
      | 1, _ => simpa [Addr.add] using h1
      | 2, _ => simpa [Addr.add] using h2
      | 3, _ => simpa [Addr.add] using h3
      | 4, _ => simpa [Addr.add] using h4
      | 5, _ => simpa [Addr.add] using h5
      | 6, _ => simpa [Addr.add] using h6
      | 7, _ => simpa [Addr.add] using h7)
  go_enter Tryd.func39, Tryd.ntmps39
  have hmk := mk8 w
  have hx : bits .xor .u64 1 9223372036854775808 = 9223372036854775809 := by decide +kernel
  go_wp2
  refine wp_loop_rounds 9 ?_
  rw [rounds_succ]
  go_wp2
  rw [rounds_succ]
  go_wp2
  rw [rounds_succ]
  go_wp2
  rw [rounds_succ]
  go_wp2
  rw [rounds_succ]
  go_wp2
  rw [rounds_succ]
  go_wp2
  rw [rounds_succ]
  go_wp2
  rw [rounds_succ]
  go_wp2
  rw [rounds_succ]
  go_wp2
  go_ret
  exact ⟨rfl, (Below.refl _ w).alloc (Nat.le_refl _) _⟩

set_option maxHeartbeats 4000000 in
set_option maxRecDepth 100000 in
theorem kput_one (w : World) : Calls Tryd.prog 17 #[vInt 1] w fun e w' => e = .returned (.string (BA [3, 128, 0, 0, 0, 0, 0, 0, 1])) ∧ Below w.heap.size w w' := by
  obtain ⟨WA, hWA⟩ : ∃ WA, w.alloc (.cells #[.int .i64 2, .int .i64 1, .string ⟨#[]⟩, .slice none 0 0, .slice none 0 0] 28) = WA := ⟨_, rfl⟩
  have hsA : WA.heap.size = w.heap.size + 1 := by rw [← hWA]; simp
  have hblk : Blk WA w.heap.size 28 [.int .i64 2, .int .i64 1, .string ⟨#[]⟩, .slice none 0 0, .slice none 0 0] := by rw [← hWA]; exact heap_alloc_new w _
  have hB0 : BH (w.heap.size + 1) (w.heap.size + 1) [] (WA.alloc (.cells #[.pointer none, .slice none 0 0] 66)) := by rw [← hsA]; exact Lib.IsBuilderF.of (Lib.fresh_isBuilder _ _ WA)
  have hbA : Below w.heap.size w (WA.alloc (.cells #[.pointer none, .slice none 0 0] 66)) := by
    rw [← hWA]; exact ((Below.refl _ w).alloc (Nat.le_refl _) _).alloc (by simp) _
  have hblk2 := hblk.alloc (.cells #[.pointer none, .slice none 0 0] 66)
  have hsz2 : (WA.alloc (.cells #[.pointer none, .slice none 0 0] 66)).heap.size = w.heap.size + 2 := by simp [hsA]
  have H0 := Lib.hid (And.intro hWA (And.intro hB0 (And.intro hbA (And.intro hblk2 hsz2))))
  clear hWA hB0 hbA hblk hblk2 hsz2 hsA
  unfold vInt
  go_enter Tryd.func17, Tryd.ntmps17
  go_wp2_with fail
  rw [H0.out.1]
  refine (bh_byte (w.heap.size + 1) (w.heap.size + 1) [] 3 _ H0.out.2.1 (by simp) (by rw [H0.out.2.2.2.2]; omega)).mono ?_
  rintro e w1 ⟨rfl, h1, hb1⟩
  have hv1 : Blk w1 w.heap.size 28 _ := (hb1.block w.heap.size (by omega)).trans H0.out.2.2.2.1
  have c0 := hv1.cell 0
  have c1 := hv1.cell 1
  have H1 := Lib.hid (And.intro h1 (And.intro (H0.out.2.2.1.trans (hb1.mono (by omega))) (And.intro hv1 (by have := hb1.size; have := H0.out.2.2.2.2; omega : w.heap.size + 1 ≤ w1.heap.size))))
  clear h1 hb1 hv1
  go_wp2_with fail
  refine (number_one _).mono ?_
  rintro e w2 ⟨rfl, hb2⟩
  have H2 := Lib.hid (And.intro (H1.out.1.below hb2) (And.intro (H1.out.2.1.trans (hb2.mono H1.out.2.1.size)) (by have := hb2.size; have := H1.out.2.2.2; omega : w.heap.size + 1 ≤ w2.heap.size)))
  clear hb2 c0 c1
  go_wp2_with fail
  refine (bh_str _ _ ([] ++ [3]) (BA [128, 0, 0, 0, 0, 0, 0, 1]) _ H2.out.1 (by rw [ba_size]; simp) H2.out.2.2).mono ?_
  rintro e w3 ⟨rfl, h3, hb3⟩
  have H3 := Lib.hid (And.intro h3 (And.intro (H2.out.2.1.trans (hb3.mono (by omega))) (by have := hb3.size; have := H2.out.2.2; omega : w.heap.size + 1 ≤ w3.heap.size)))
  clear h3 hb3
  go_wp2_with fail
  refine (bh_get _ _ _ _ H3.out.1 H3.out.2.2).mono ?_
  rintro e w4 ⟨rfl, hb4⟩
  have H4 := Lib.hid (H3.out.2.1.trans (hb4.mono (by omega)))
  clear hb4
  go_wp2
  go_ret
  exact ⟨rfl, H4.out⟩
end Go.Proofs.YthlioinmeimhoaaDoor

/- Keys: the reader. -/
namespace Go.Proofs.YthlioinmeimhoaaDoor
open Go.Shelf Go.RowKit Go.Lib

set_option maxHeartbeats 2000000 in
set_option maxRecDepth 100000 in
theorem take_ok (rb n : Nat) (s : ByteArray) (w : World) (hB : Blk w rb 78 [.string s, .bool false]) (hn : n ≤ s.size) :
    Calls Tryd.prog 60 #[.pointer (some ⟨rb, 0, none⟩), .int .i64 n] w fun e w' => e = .returned (.string (s.extract 0 n)) ∧ Blk w' rb 78 [.string (s.extract n s.size), .bool false] ∧ Only (· = rb) w w' := by
  have c0 := hB.cell 0
  have c1 := hB.cell 1
  have f0 := hB.frozen 0
  have d1 : decide ((s.size : Int) < (n : Int)) = false := decide_eq_false (by omega)
  have e1 : (n : Int) ≤ (s.size : Int) := by omega
  have H := Lib.hid hB
  clear hB hn
  go_enter Tryd.func60, Tryd.ntmps60
  go_wp2
  go_ret
  exact ⟨rfl, H.out.set 0 _, Only.set1 _ _ _ _⟩
set_option maxHeartbeats 2000000 in
set_option maxRecDepth 100000 in
theorem take_no (rb n : Nat) (s : ByteArray) (w : World) (hB : Blk w rb 78 [.string s, .bool false]) (hn : s.size < n) :
    Calls Tryd.prog 60 #[.pointer (some ⟨rb, 0, none⟩), .int .i64 n] w fun e w' => e = .returned (.string ⟨#[]⟩) ∧ Blk w' rb 78 [.string s, .bool true] ∧ Only (· = rb) w w' := by
  have c0 := hB.cell 0
  have c1 := hB.cell 1
  have f1 := hB.frozen 1
  have d1 : decide ((s.size : Int) < (n : Int)) = true := decide_eq_true (by omega)
  have d2 : decide (s.size < n) = true := decide_eq_true hn
  have H := Lib.hid hB
  clear hB hn
  go_enter Tryd.func60, Tryd.ntmps60
  go_wp2
  go_ret
  exact ⟨rfl, H.out.set 1 _, Only.set1 _ _ _ _⟩

theorem bytes8 (w : World) : ∃ cap W, (convert 9 22 (.string (BA [128, 0, 0, 0, 0, 0, 0, 1]))).run Tryd.prog w = .ok (.slice (some ⟨w.heap.size, 0, none⟩) 8 cap) W ∧ Below w.heap.size w W ∧
    W.cell? ⟨w.heap.size, 0, none⟩ = some (.int .u8 128) ∧ W.cell? ⟨w.heap.size, 1, none⟩ = some (.int .u8 0) ∧ W.cell? ⟨w.heap.size, 2, none⟩ = some (.int .u8 0) ∧ W.cell? ⟨w.heap.size, 3, none⟩ = some (.int .u8 0) ∧ W.cell? ⟨w.heap.size, 4, none⟩ = some (.int .u8 0) ∧ W.cell? ⟨w.heap.size, 5, none⟩ = some (.int .u8 0) ∧ W.cell? ⟨w.heap.size, 6, none⟩ = some (.int .u8 0) ∧ W.cell? ⟨w.heap.size, 7, none⟩ = some (.int .u8 1) := by
  have h := run_bytes_of_string w 9 22 5 (BA [128, 0, 0, 0, 0, 0, 0, 1]) Tryd.underlying9 Tryd.underlying22 Tryd.underlying5
  obtain ⟨cap, hcap⟩ : ∃ cap, grownCap w (BA [128, 0, 0, 0, 0, 0, 0, 1]).size 0 5 = cap := ⟨_, rfl⟩
  rw [hcap] at h
  have hblk : ∀ (fz : Nat × Nat), (w.drew.alloc (.cells (bytesRow (BA [128, 0, 0, 0, 0, 0, 0, 1]) cap) 5 fz)).heap[w.heap.size]? = some (.cells (bytesRow (BA [128, 0, 0, 0, 0, 0, 0, 1]) cap) 5 fz) := fun fz => heap_alloc_new w.drew _
  refine ⟨cap, _, h, ((Below.refl _ w).drew).alloc (Nat.le_refl _) _, ?_, ?_, ?_, ?_, ?_, ?_, ?_, ?_⟩
  all_goals (rw [Go.Joins.cell_of_block (hblk _)]; rw [bytesRow_at _ _ _ (by decide)]; rfl)

set_option maxHeartbeats 4000000 in
set_option maxRecDepth 100000 in
theorem rnumber_one (rb : Nat) (s r : ByteArray) (w : World) (hB : Blk w rb 78 [.string s, .bool false]) (hs : 8 ≤ s.size) (hs0 : s.extract 0 8 = BA [128, 0, 0, 0, 0, 0, 0, 1]) (hs1 : s.extract 8 s.size = r) :
    Calls Tryd.prog 61 #[.pointer (some ⟨rb, 0, none⟩)] w fun e w' => e = .returned (.int .i64 1) ∧ Blk w' rb 78 [.string r, .bool false] ∧ Only (· = rb) w w' := by
  have H := Lib.hid (And.intro hB (And.intro hs (And.intro hs0 hs1)))
  clear hB hs hs0 hs1
  go_enter Tryd.func61, Tryd.ntmps61
  go_wp2_with fail
  refine (take_ok rb 8 s _ H.out.1 H.out.2.1).mono ?_
  rintro e w2 ⟨rfl, hB2, hO⟩
  rw [H.out.2.2.1]
  rw [H.out.2.2.2] at hB2
  obtain ⟨cap, W, hcv, hbW, k0, k1, k2, k3, k4, k5, k6, k7⟩ := bytes8 w2
  have H2 := Lib.hid (And.intro (hB2.below hbW) (hO.trans' (Only.ofBelow hbW (fun _ => False)) (fun _ _ h => h.elim)))
  have o0 : bits .or .u64 0 128 = 128 := by decide +kernel
  have o1 : bits .or .u64 32768 0 = 32768 := by decide +kernel
  have w1 : IntKind.u64.wrap 32768 = 32768 := by decide +kernel
  have o2 : bits .or .u64 8388608 0 = 8388608 := by decide +kernel
  have w2 : IntKind.u64.wrap 8388608 = 8388608 := by decide +kernel
  have o3 : bits .or .u64 2147483648 0 = 2147483648 := by decide +kernel
  have w3 : IntKind.u64.wrap 2147483648 = 2147483648 := by decide +kernel
  have o4 : bits .or .u64 549755813888 0 = 549755813888 := by decide +kernel
  have w4 : IntKind.u64.wrap 549755813888 = 549755813888 := by decide +kernel
  have o5 : bits .or .u64 140737488355328 0 = 140737488355328 := by decide +kernel
  have w5 : IntKind.u64.wrap 140737488355328 = 140737488355328 := by decide +kernel
  have o6 : bits .or .u64 36028797018963968 0 = 36028797018963968 := by decide +kernel
  have w6 : IntKind.u64.wrap 36028797018963968 = 36028797018963968 := by decide +kernel
  have o7 : bits .or .u64 9223372036854775808 1 = 9223372036854775809 := by decide +kernel
  have w7 : IntKind.u64.wrap 9223372036854775808 = 9223372036854775808 := by decide +kernel
  have hxor : bits .xor .u64 9223372036854775809 9223372036854775808 = 1 := by decide +kernel
  clear hB2 hO hbW
  go_wp2
  refine wp_loop_rounds 9 ?_
  rw [rounds_succ]
  go_wp2
  rw [rounds_succ]
  go_wp2
  rw [rounds_succ]
  go_wp2
  rw [rounds_succ]
  go_wp2
  rw [rounds_succ]
  go_wp2
  rw [rounds_succ]
  go_wp2
  rw [rounds_succ]
  go_wp2
  rw [rounds_succ]
  go_wp2
  rw [rounds_succ]
  go_wp2
  go_ret
  exact ⟨rfl, H2.out.1, H2.out.2⟩
end Go.Proofs.YthlioinmeimhoaaDoor

/- Keys: a number read. -/
namespace Go.Proofs.YthlioinmeimhoaaDoor
open Go.Shelf Go.RowKit Go.Lib

def k1S : ByteArray := BA [3, 128, 0, 0, 0, 0, 0, 0, 1]
theorem k1_a : k1S.extract 0 1 = BA [3] := by decide +kernel
theorem k1_b : k1S.extract 1 k1S.size = BA [128, 0, 0, 0, 0, 0, 0, 1] := by decide +kernel
theorem k1_c : (BA [128, 0, 0, 0, 0, 0, 0, 1]).extract 0 8 = BA [128, 0, 0, 0, 0, 0, 0, 1] := by decide +kernel
theorem k1_d : (BA [128, 0, 0, 0, 0, 0, 0, 1]).extract 8 (BA [128, 0, 0, 0, 0, 0, 0, 1]).size = ⟨#[]⟩ := by decide +kernel

/-- what the reader's value finds when it begins: its own pointer, its result's place. -/
structure RIn (w W : World) (rb : Nat) (s : ByteArray) : Prop where
  rd : Blk W rb 78 [.string s, .bool false]
  ptr : Blk W w.heap.size 76 [.pointer (some ⟨rb, 0, none⟩)]
  res : Blk W (w.heap.size + 1 + 1) 28 [.int .i64 0, .int .i64 0, .string ⟨#[]⟩, .slice none 0 0, .slice none 0 0]
  only : Only (fun k => k = rb) w W
  lt : rb < w.heap.size
theorem rin_start (w : World) (rb : Nat) (s : ByteArray) (d : Int) (hB : Blk w rb 78 [.string s, .bool false]) :
    RIn w (((w.alloc (.cells #[.pointer (some ⟨rb, 0, none⟩)] 76)).alloc (.cells #[.int .i64 d] 3)).alloc (.cells #[.int .i64 0, .int .i64 0, .string ⟨#[]⟩, .slice none 0 0, .slice none 0 0] 28)) rb s := by
  have h1 : Blk (w.alloc (.cells #[.pointer (some ⟨rb, 0, none⟩)] 76)) w.heap.size 76 [.pointer (some ⟨rb, 0, none⟩)] := heap_alloc_new w _
  refine ⟨((hB.alloc _).alloc _).alloc _, (h1.alloc _).alloc _, ?_, ((Only.alloc _ _ _).trans (Only.alloc _ _ _)).trans (Only.alloc _ _ _), hB.lt⟩
  have h := heap_alloc_new ((w.alloc (.cells #[.pointer (some ⟨rb, 0, none⟩)] 76)).alloc (.cells #[.int .i64 d] 3)) (.cells #[.int .i64 0, .int .i64 0, .string ⟨#[]⟩, .slice none 0 0, .slice none 0 0] 28)
  have e : ((w.alloc (.cells #[.pointer (some ⟨rb, 0, none⟩)] 76)).alloc (.cells #[.int .i64 d] 3)).heap.size = w.heap.size + 1 + 1 := by simp
  rw [e] at h
  exact h
theorem RIn.next {w W W2 : World} {rb : Nat} {s s2 : ByteArray} (h : RIn w W rb s) (hB : Blk W2 rb 78 [.string s2, .bool false]) (ho : Only (· = rb) W W2) : RIn w W2 rb s2 :=
  ⟨hB, h.ptr.only ho (fun e => by have := h.lt; omega), h.res.only ho (fun e => by have := h.lt; omega), h.only.trans ho, h.lt⟩
theorem RIn.alloc {w W : World} {rb : Nat} {s : ByteArray} (h : RIn w W rb s) (o : Obj) : RIn w (W.alloc o) rb s :=
  ⟨h.rd.alloc o, h.ptr.alloc o, h.res.alloc o, h.only.trans (Only.alloc _ _ _), h.lt⟩

set_option maxHeartbeats 4000000 in
set_option maxRecDepth 100000 in
theorem rvalue_one (rb : Nat) (w : World) (hB : Blk w rb 78 [.string k1S, .bool false]) :
    Calls Tryd.prog 44 #[.pointer (some ⟨rb, 0, none⟩), .int .i64 1] w fun e w' => e = .returned (vInt 1) ∧ Blk w' rb 78 [.string ⟨#[]⟩, .bool false] ∧ Only (· = rb) w w' := by
  have H0 := Lib.hid (rin_start w rb k1S 1 hB)
  clear hB
  go_enter Tryd.func44, Tryd.ntmps44
  go_wp2_with fail
  refine (take_ok rb 1 k1S _ H0.out.rd (by decide)).mono ?_
  rintro e w2 ⟨rfl, hB2, hO2⟩
  rw [k1_a]
  rw [k1_b] at hB2
  have H2 := Lib.hid (H0.out.next hB2 hO2)
  have hp := H2.out.ptr.cell 0
  clear hB2 hO2
  have q0 : ∀ hh, (BA [3])[0]'hh = 3 := fun _ => rfl
  have q1 : (BA [3]).size = 1 := rfl
  have q2 : (BA [3]).toList.isEmpty = false := by decide +kernel
  have H3 := Lib.hid (And.intro (H2.out.alloc (.cells #[.int .i64 2, .int .i64 0, .string ⟨#[]⟩, .slice none 0 0, .slice none 0 0] 28)) (show Blk _ w2.heap.size 28 [.int .i64 2, .int .i64 0, .string ⟨#[]⟩, .slice none 0 0, .slice none 0 0] from heap_alloc_new w2 _))
  have hp3 := H3.out.1.ptr.cell 0
  have hr2 : rb ≠ w2.heap.size := by have := H2.out.lt; have := H2.out.only.size; omega
  go_wp2_with fail
  generalize hW3 : w2.alloc (.cells #[.int .i64 2, .int .i64 0, .string ⟨#[]⟩, .slice none 0 0, .slice none 0 0] 28) = w3 at H3 hp3 ⊢
  obtain ⟨N, hN⟩ : ∃ N, w2.heap.size = N := ⟨_, rfl⟩
  have HN := Lib.hid (And.intro hN (And.intro hr2 (show w.heap.size < N by have := H2.out.only.size; have := H2.out.res.lt; omega)))
  simp only [hN] at H3 ⊢
  clear hW3 hN hr2 hp q0 q1 q2
  refine (rnumber_one rb (BA [128, 0, 0, 0, 0, 0, 0, 1]) ⟨#[]⟩ _ H3.out.1.rd (by decide) k1_c k1_d).mono ?_
  rintro e w4 ⟨rfl, hB4, hO4⟩
  have H4 := Lib.hid (And.intro (H3.out.1.next hB4 hO4) (H3.out.2.only hO4 (fun e => HN.out.2.1 (by rw [HN.out.1]; exact e.symm))))
  clear hB4 hO4 hp3
  obtain ⟨R, hR⟩ : ∃ R, w.heap.size + 1 + 1 = R := ⟨_, rfl⟩
  have hres := H4.out.1.res
  rw [hR] at hres
  have hRN : ¬ R = N := fun e => by
    rw [e] at hres
    have := (hres.inj H4.out.2).2
    simp at this
  have hNR : ¬ N = R := fun e => hRN e.symm
  have r0 := hres.cell 0
  have r1 := hres.cell 1
  have r2 := hres.cell 2
  have r3 := hres.cell 3
  have r4 := hres.cell 4
  have s0 := hres.frozen 0
  have s1 := hres.frozen 1
  have s2 := hres.frozen 2
  have s3 := hres.frozen 3
  have s4 := hres.frozen 4
  have HRR := Lib.hid (And.intro hR hres)
  simp only [hR]
  clear hres hR
  have f1 := H4.out.2.frozen 1
  have g0 := H4.out.2.cell 0
  have g1 := H4.out.2.cell 1
  have g2 := H4.out.2.cell 2
  have g3 := H4.out.2.cell 3
  have g4 := H4.out.2.cell 4
  have hlt := H4.out.1.lt
  have hRw : w.heap.size ≤ R := by have := HRR.out.1; omega
  have hNw : w.heap.size ≤ N := by have := HN.out.2.2; omega
  obtain ⟨W5, hW5⟩ : ∃ W5, ((((((w4.setCell ⟨N, 1, none⟩ (.int .i64 1)).setCell ⟨R, 0, none⟩ (.int .i64 2)).setCell ⟨R, 1, none⟩ (.int .i64 1)).setCell ⟨R, 2, none⟩ (.string ⟨#[]⟩)).setCell ⟨R, 3, none⟩ (.slice none 0 0)).setCell ⟨R, 4, none⟩ (.slice none 0 0)) = W5 := ⟨_, rfl⟩
  have ho5 : Only (fun x => x = N ∨ x = R) w4 W5 := by
    rw [← hW5]
    exact (((((Only.setCell (S := fun x => x = N ∨ x = R) (p := ⟨N, 1, none⟩) w4 (.inl rfl) _).trans (Only.setCell (p := ⟨R, 0, none⟩) _ (.inr rfl) _)).trans (Only.setCell (p := ⟨R, 1, none⟩) _ (.inr rfl) _)).trans (Only.setCell (p := ⟨R, 2, none⟩) _ (.inr rfl) _)).trans (Only.setCell (p := ⟨R, 3, none⟩) _ (.inr rfl) _)).trans (Only.setCell (p := ⟨R, 4, none⟩) _ (.inr rfl) _)
  have hR5 : Blk W5 R 28 [.int .i64 2, .int .i64 1, .string ⟨#[]⟩, .slice none 0 0, .slice none 0 0] := by
    rw [← hW5]
    exact (((((HRR.out.2.only (Only.set1 w4 N 1 _) hRN).set 0 (.int .i64 2)).set 1 (.int .i64 1)).set 2 (.string ⟨#[]⟩)).set 3 (.slice none 0 0)).set 4 (.slice none 0 0)
  have hrd5 := H4.out.1.rd.only ho5 (fun e => by rcases e with e | e <;> omega)
  have hon5 : Only (fun k => k = rb) w W5 := H4.out.1.only.trans' ho5 (fun i hi e => by rcases e with e | e <;> omega)
  have HF := Lib.hid (And.intro hW5 (And.intro hR5 (And.intro hrd5 hon5)))
  clear hW5 ho5 hR5 hrd5 hon5 hlt hRw hNw
  go_wp2
  rw [HF.out.1]
  (try simp only [Exit.inBlock, Exit.then])
  refine bodyPost_ret (v := vInt 1) ?_ rfl ⟨rfl, HF.out.2.2⟩
  exact results_cell_row rfl _ W5 R 28 _ (0, 0) _ rfl HF.out.2.1 Tryd.underlying28 rfl (by kernel_rfl)
end Go.Proofs.YthlioinmeimhoaaDoor

/- Keys: nothing read; a number is a value; two numbers held against one another. -/
namespace Go.Proofs.YthlioinmeimhoaaDoor
open Go.Shelf Go.RowKit Go.Lib

set_option maxHeartbeats 4000000 in
set_option maxRecDepth 100000 in
theorem rvalue_none (rb : Nat) (w : World) (hB : Blk w rb 78 [.string ⟨#[]⟩, .bool false]) :
    Calls Tryd.prog 44 #[.pointer (some ⟨rb, 0, none⟩), .int .i64 1] w fun e w' => e = .returned vNull ∧ Blk w' rb 78 [.string ⟨#[]⟩, .bool true] ∧ Only (· = rb) w w' := by
  have H0 := Lib.hid (rin_start w rb ⟨#[]⟩ 1 hB)
  clear hB
  go_enter Tryd.func44, Tryd.ntmps44
  go_wp2_with fail
  refine (take_no rb 1 ⟨#[]⟩ _ H0.out.rd (by decide)).mono ?_
  rintro e w2 ⟨rfl, hB2, hO2⟩
  have hlt := H0.out.lt
  have hres := H0.out.res.only hO2 (fun e => by omega)
  have hon := H0.out.only.trans hO2
  obtain ⟨R, hR⟩ : ∃ R, w.heap.size + 1 + 1 = R := ⟨_, rfl⟩
  rw [hR] at hres
  have r0 := hres.cell 0
  have r1 := hres.cell 1
  have r2 := hres.cell 2
  have r3 := hres.cell 3
  have r4 := hres.cell 4
  have s0 := hres.frozen 0
  have s1 := hres.frozen 1
  have s2 := hres.frozen 2
  have s3 := hres.frozen 3
  have s4 := hres.frozen 4
  obtain ⟨W5, hW5⟩ : ∃ W5, (((((w2.setCell ⟨R, 0, none⟩ (.int .i64 0)).setCell ⟨R, 1, none⟩ (.int .i64 0)).setCell ⟨R, 2, none⟩ (.string ⟨#[]⟩)).setCell ⟨R, 3, none⟩ (.slice none 0 0)).setCell ⟨R, 4, none⟩ (.slice none 0 0)) = W5 := ⟨_, rfl⟩
  have ho5 : Only (fun x => x = R) w2 W5 := by
    rw [← hW5]
    exact ((((Only.set1 w2 R 0 _).trans (Only.set1 _ R 1 _)).trans (Only.set1 _ R 2 _)).trans (Only.set1 _ R 3 _)).trans (Only.set1 _ R 4 _)
  have hR5 : Blk W5 R 28 [.int .i64 0, .int .i64 0, .string ⟨#[]⟩, .slice none 0 0, .slice none 0 0] := by
    rw [← hW5]
    exact ((((hres.set 0 (.int .i64 0)).set 1 (.int .i64 0)).set 2 (.string ⟨#[]⟩)).set 3 (.slice none 0 0)).set 4 (.slice none 0 0)
  have hrd5 := hB2.only ho5 (fun e => by omega)
  have hon5 : Only (fun k => k = rb) w W5 := hon.trans' ho5 (fun i hi e => by omega)
  have HF := Lib.hid (And.intro hW5 (And.intro hR5 (And.intro hrd5 hon5)))
  simp only [hR]
  clear hW5 ho5 hR5 hrd5 hon5 hlt hB2 hO2 hon hres hR
  go_wp2
  rw [HF.out.1]
  (try simp only [Exit.inBlock, Exit.then])
  refine bodyPost_ret (v := vNull) ?_ rfl ⟨rfl, HF.out.2.2⟩
  exact results_cell_row rfl _ W5 R 28 _ (0, 0) _ rfl HF.out.2.1 Tryd.underlying28 rfl (by kernel_rfl)

set_option maxHeartbeats 4000000 in
set_option maxRecDepth 100000 in
theorem bare_one (w : World) : Calls Tryd.prog 46 #[vInt 1] w fun e w' => e = .returned (.bool true) ∧ Below w.heap.size w w' := by
  unfold vInt
  go_enter Tryd.func46, Tryd.ntmps46
  go_wp2
  go_ret
  exact ⟨rfl, (Below.refl _ w).alloc (Nat.le_refl _) _⟩

set_option maxHeartbeats 4000000 in
set_option maxRecDepth 100000 in
theorem rises_none (w : World) : Calls Tryd.prog 47 #[.slice none 0 0] w fun e w' => e = .returned (.bool true) ∧ Below w.heap.size w w' := by
  go_enter Tryd.func47, Tryd.ntmps47
  go_wp2
  refine wp_loop_rounds 1 ?_
  rw [rounds_succ]
  go_wp2
  go_ret
  exact ⟨rfl, Below.refl _ _⟩

theorem valid_nil : Lib.validD [] = true := rfl
set_option maxHeartbeats 4000000 in
set_option maxRecDepth 100000 in
theorem valid_one (w : World) (hT : Tabs w) : Calls Tryd.prog 23 #[vInt 1] w fun e w' => e = .returned (.bool true) ∧ Below w.heap.size w w' := by
  have HT := Lib.hid hT
  clear hT
  unfold vInt
  obtain ⟨W, hW⟩ : ∃ W, w.alloc (.cells #[.int .i64 2, .int .i64 1, .string ⟨#[]⟩, .slice none 0 0, .slice none 0 0] 28) = W := ⟨_, rfl⟩
  have hblk : Blk W w.heap.size 28 [.int .i64 2, .int .i64 1, .string ⟨#[]⟩, .slice none 0 0, .slice none 0 0] := by rw [← hW]; exact heap_alloc_new w _
  have hbW : Below w.heap.size w W := by rw [← hW]; exact (Below.refl _ w).alloc (Nat.le_refl _) _
  have H0 := Lib.hid (And.intro hW (And.intro hblk hbW))
  clear hblk hbW hW
  go_enter Tryd.func23, Tryd.ntmps23
  go_wp2_with fail
  refine (bare_one _).mono ?_
  rintro e w2 ⟨rfl, hb2⟩
  rw [H0.out.1] at hb2
  have hk2 := H0.out.2.1.below hb2
  have H2 := Lib.hid (And.intro hk2 (H0.out.2.2.trans (hb2.mono H0.out.2.2.size)))
  have c0 := hk2.cell 0
  have c1 := hk2.cell 1
  have c2 := hk2.cell 2
  have c3 := hk2.cell 3
  have c4 := hk2.cell 4
  clear hk2 hb2
  go_wp2
  refine wp_loop_rounds 1 ?_
  rw [rounds_succ]
  go_wp2_with fail
  refine (valid_any ⟨#[]⟩ _ (by decide) (HT.out.below H2.out.2)).mono ?_
  rintro e w3 ⟨rfl, hb3⟩
  rw [show (⟨#[]⟩ : ByteArray).data.toList = [] from rfl, valid_nil]
  have hk3 := H2.out.1.below hb3
  have H3 := Lib.hid (And.intro hk3 (H2.out.2.trans (hb3.mono H2.out.2.size)))
  clear c0 c1 c2 c3 c4
  have c0 := hk3.cell 0
  have c1 := hk3.cell 1
  have c4 := hk3.cell 4
  clear hk3 hb3
  go_wp2_with fail
  refine (rises_none _).mono ?_
  rintro e w4 ⟨rfl, hb4⟩
  have hk4 := H3.out.1.below hb4
  have H4 := Lib.hid (H3.out.2.trans (hb4.mono H3.out.2.size))
  clear c0 c1 c4
  have c0 := hk4.cell 0
  have c1 := hk4.cell 1
  clear hk4 hb4
  go_wp2
  go_ret
  exact ⟨rfl, H4.out⟩

set_option maxRecDepth 100000 in
theorem nan_no (n : Int) (w : World) : Calls Tryd.prog 92 #[.int .i64 n] w fun e w' => e = .returned (.bool false) ∧ w' = w := by
  go_enter Tryd.func92, Tryd.ntmps92
  go_wp2
  go_ret
  exact ⟨by simp, rfl⟩

set_option maxHeartbeats 4000000 in
set_option maxRecDepth 100000 in
theorem cmp_one (w : World) : Calls Tryd.prog 68 #[.int .i64 1, .int .i64 1] w fun e w' => e = .returned (.int .i64 0) ∧ w' = w := by
  go_enter Tryd.func68, Tryd.ntmps68
  go_wp2_with fail
  refine (nan_no _ _).mono ?_
  rintro e w2 ⟨rfl, rfl⟩
  go_wp2_with fail
  refine (nan_no _ _).mono ?_
  rintro e w3 ⟨rfl, rfl⟩
  go_wp2
  go_ret
  exact ⟨rfl, rfl⟩

set_option maxHeartbeats 4000000 in
set_option maxRecDepth 100000 in
theorem vcmp_one (w : World) : Calls Tryd.prog 45 #[vInt 1, vInt 1] w fun e w' => e = .returned (.int .i64 0) ∧ Below w.heap.size w w' := by
  unfold vInt
  go_enter Tryd.func45, Tryd.ntmps45
  go_wp2_with fail
  refine (cmp_one _).mono ?_
  rintro e w2 ⟨rfl, rfl⟩
  go_wp2
  go_ret
  exact ⟨rfl, ((Below.refl _ w).alloc (Nat.le_refl _) _).alloc (by simp) _⟩

set_option maxHeartbeats 4000000 in
set_option maxRecDepth 100000 in
theorem same_one (w : World) : Calls Tryd.prog 22 #[vInt 1, vInt 1] w fun e w' => e = .returned (.bool true) ∧ Below w.heap.size w w' := by
  unfold vInt
  go_enter Tryd.func22, Tryd.ntmps22
  go_wp2_with fail
  refine (vcmp_one _).mono ?_
  rintro e w2 ⟨rfl, hb2⟩
  have H2 := Lib.hid ((((Below.refl _ w).alloc (Nat.le_refl _) _).alloc (by simp) _).trans (hb2.mono (by simp; omega)))
  clear hb2
  go_wp2
  go_ret
  exact ⟨rfl, H2.out⟩
end Go.Proofs.YthlioinmeimhoaaDoor

/- Keys: what Get answers at the key of 1 and at nothing; the law's examples. -/
namespace Go.Proofs.YthlioinmeimhoaaDoor
open Go.Shelf Go.RowKit Go.Lib

/-- what Get finds when it begins: its result's place, its reader. -/
theorem get_start (w : World) (s : ByteArray) : ∃ W, (w.alloc (.cells #[.int .i64 0, .int .i64 0, .string ⟨#[]⟩, .slice none 0 0, .slice none 0 0] 28)).alloc (.cells #[.string s, .bool false] 78) = W ∧
    Blk W w.heap.size 28 [.int .i64 0, .int .i64 0, .string ⟨#[]⟩, .slice none 0 0, .slice none 0 0] ∧ Blk W (w.heap.size + 1) 78 [.string s, .bool false] ∧ Below w.heap.size w W := by
  refine ⟨_, rfl, ?_, ?_, ((Below.refl _ w).alloc (Nat.le_refl _) _).alloc (by simp) _⟩
  · have h : Blk (w.alloc (.cells #[.int .i64 0, .int .i64 0, .string ⟨#[]⟩, .slice none 0 0, .slice none 0 0] 28)) w.heap.size 28 [.int .i64 0, .int .i64 0, .string ⟨#[]⟩, .slice none 0 0, .slice none 0 0] := heap_alloc_new w _
    exact h.alloc _
  · have h := heap_alloc_new (w.alloc (.cells #[.int .i64 0, .int .i64 0, .string ⟨#[]⟩, .slice none 0 0, .slice none 0 0] 28)) (.cells #[.string s, .bool false] 78)
    have e : (w.alloc (.cells #[.int .i64 0, .int .i64 0, .string ⟨#[]⟩, .slice none 0 0, .slice none 0 0] 28)).heap.size = w.heap.size + 1 := by simp
    rw [e] at h
    exact h

set_option maxHeartbeats 4000000 in
set_option maxRecDepth 100000 in
theorem get_one (w : World) (hT : Tabs w) : Calls Tryd.prog 21 #[.string k1S] w fun e w' => e = .returned (.tuple #[vInt 1, .bool true]) ∧ Below w.heap.size w w' := by
  have HT := Lib.hid hT
  clear hT
  obtain ⟨W, hW, hr, hd, hb⟩ := get_start w k1S
  have H0 := Lib.hid (And.intro hW (And.intro hr (And.intro hd hb)))
  have hsz := hd.lt
  clear hW hr hd hb
  obtain ⟨S, hS⟩ : ∃ S, k1S = S := ⟨_, rfl⟩
  rw [hS] at H0 ⊢
  go_enter Tryd.func21, Tryd.ntmps21
  go_wp2_with fail
  rw [H0.out.1]
  have hd0 := H0.out.2.2.1
  rw [← hS] at hd0
  refine (rvalue_one (w.heap.size + 1) W hd0).mono ?_
  rintro e w2 ⟨rfl, hB2, hO2⟩
  have hr2 := H0.out.2.1.only hO2 (fun e => by omega)
  have hb2 : Below w.heap.size w w2 := H0.out.2.2.2.trans (hO2.below H0.out.2.2.2.size (fun k hk e => by omega))
  have H2 := Lib.hid (And.intro hB2 (And.intro hr2 hb2))
  have w2s := hr2.lt
  clear hB2 hO2 hr2 hb2 hd0 hS hsz
  obtain ⟨P, hP⟩ : ∃ P, w.heap.size = P := ⟨_, rfl⟩
  obtain ⟨M, hM⟩ : ∃ M, w2.heap.size = M := ⟨_, rfl⟩
  have hPM : P + 1 < M := by have := H2.out.1.lt; omega
  obtain ⟨W3, hW3⟩ : ∃ W3, w2.alloc (.cells #[.int .i64 2, .int .i64 1, .string ⟨#[]⟩, .slice none 0 0, .slice none 0 0] 28) = W3 := ⟨_, rfl⟩
  have hv3 : Blk W3 M 28 [.int .i64 2, .int .i64 1, .string ⟨#[]⟩, .slice none 0 0, .slice none 0 0] := by rw [← hW3, ← hM]; exact heap_alloc_new w2 _
  have hr3 : Blk W3 P 28 [.int .i64 0, .int .i64 0, .string ⟨#[]⟩, .slice none 0 0, .slice none 0 0] := by rw [← hW3, ← hP]; exact H2.out.2.1.alloc _
  have hd3 : Blk W3 (P + 1) 78 [.string ⟨#[]⟩, .bool false] := by rw [← hW3, ← hP]; exact H2.out.1.alloc _
  have hb3 : Below P w W3 := by rw [← hW3, ← hP]; exact H2.out.2.2.alloc H2.out.2.2.size _
  have hd4 := H2.out.1.alloc (.cells #[.int .i64 2, .int .i64 1, .string ⟨#[]⟩, .slice none 0 0, .slice none 0 0] 28)
  have d0 := hd4.cell 0
  have d1 := hd4.cell 1
  rw [hP] at d0 d1
  have H3 := Lib.hid (And.intro hW3 (And.intro hv3 (And.intro hr3 (And.intro hd3 (And.intro hb3 (And.intro hP (And.intro hM hPM)))))))
  unfold vInt
  rw [hP]
  clear hv3 hr3 hd3 hb3 hP hPM w2s hd4 hW3 hM
  go_wp2_with fail
  rw [H3.out.1]
  rw [H3.out.2.2.2.2.2.2.1]
  refine (valid_one _ (HT.out.below (by rw [H3.out.2.2.2.2.2.1]; exact H3.out.2.2.2.2.1))).mono ?_
  rintro e w4 ⟨rfl, hb4⟩
  have hv4 := H3.out.2.1.below hb4
  have hr4 := H3.out.2.2.1.below hb4
  have hbb4 : Below P w w4 := H3.out.2.2.2.2.1.trans (hb4.mono (by have := H3.out.2.2.1.lt; omega))
  have hPM := H3.out.2.2.2.2.2.2.2
  have hPw := H3.out.2.2.2.2.2.1
  clear d0 d1
  have v0 := hv4.cell 0
  have v1 := hv4.cell 1
  have v2 := hv4.cell 2
  have v3 := hv4.cell 3
  have v4 := hv4.cell 4
  have r0 := hr4.cell 0
  have r1 := hr4.cell 1
  have r2 := hr4.cell 2
  have r3 := hr4.cell 3
  have r4 := hr4.cell 4
  have s0 := hr4.frozen 0
  have s1 := hr4.frozen 1
  have s2 := hr4.frozen 2
  have s3 := hr4.frozen 3
  have s4 := hr4.frozen 4
  have hPM1 : ¬ P = M := by omega
  have hPM2 : ¬ M = P := by omega
  obtain ⟨W5, hW5⟩ : ∃ W5, (((((w4.setCell ⟨P, 0, none⟩ (.int .i64 2)).setCell ⟨P, 1, none⟩ (.int .i64 1)).setCell ⟨P, 2, none⟩ (.string ⟨#[]⟩)).setCell ⟨P, 3, none⟩ (.slice none 0 0)).setCell ⟨P, 4, none⟩ (.slice none 0 0)) = W5 := ⟨_, rfl⟩
  have ho5 : Only (fun x => x = P) w4 W5 := by
    rw [← hW5]
    exact ((((Only.set1 w4 P 0 _).trans (Only.set1 _ P 1 _)).trans (Only.set1 _ P 2 _)).trans (Only.set1 _ P 3 _)).trans (Only.set1 _ P 4 _)
  have hR5 : Blk W5 P 28 [.int .i64 2, .int .i64 1, .string ⟨#[]⟩, .slice none 0 0, .slice none 0 0] := by
    rw [← hW5]
    exact ((((hr4.set 0 (.int .i64 2)).set 1 (.int .i64 1)).set 2 (.string ⟨#[]⟩)).set 3 (.slice none 0 0)).set 4 (.slice none 0 0)
  have hbb5 : Below P w W5 := hbb4.trans (ho5.below (by have := hr4.lt; omega) (fun k hk e => by omega))
  have HF := Lib.hid (And.intro hW5 (And.intro hR5 hbb5))
  clear hW5 ho5 hR5 hbb5 hv4 hr4 hbb4 hPM hPw hb4
  go_wp2
  rw [HF.out.1]
  have z0 := HF.out.2.1.cell 0
  have z1 := HF.out.2.1.cell 1
  have z2 := HF.out.2.1.cell 2
  have z3 := HF.out.2.1.cell 3
  have z4 := HF.out.2.1.cell 4
  (try simp only [Exit.inBlock, Exit.then])
  refine bodyPost_ret (v := .tuple #[.agg #[.int .i64 2, .int .i64 1, .string ⟨#[]⟩, .slice none 0 0, .slice none 0 0], .bool true]) ?_ rfl ⟨rfl, by rw [H3.out.2.2.2.2.2.1]; exact HF.out.2.2⟩
  rw [results_cell_tmp rfl]
  go_simp

set_option maxHeartbeats 4000000 in
set_option maxRecDepth 100000 in
theorem get_none (w : World) : Calls Tryd.prog 21 #[.string ⟨#[]⟩] w fun e w' => e = .returned (.tuple #[vNull, .bool false]) ∧ Below w.heap.size w w' := by
  obtain ⟨W, hW, hr, hd, hb⟩ := get_start w ⟨#[]⟩
  have hsz := hd.lt
  have H0 := Lib.hid (And.intro hW (And.intro hr (And.intro hd hb)))
  clear hW hr hd hb
  go_enter Tryd.func21, Tryd.ntmps21
  go_wp2_with fail
  rw [H0.out.1]
  refine (rvalue_none (w.heap.size + 1) W H0.out.2.2.1).mono ?_
  rintro e w2 ⟨rfl, hB2, hO2⟩
  have hr2 := H0.out.2.1.only hO2 (fun e => by omega)
  have hb2 : Below w.heap.size w w2 := H0.out.2.2.2.trans (hO2.below H0.out.2.2.2.size (fun k hk e => by omega))
  have H2 := Lib.hid (And.intro hB2 (And.intro hr2 hb2))
  clear hB2 hO2 hr2 hb2 hsz
  obtain ⟨P, hP⟩ : ∃ P, w.heap.size = P := ⟨_, rfl⟩
  obtain ⟨M, hM⟩ : ∃ M, w2.heap.size = M := ⟨_, rfl⟩
  have hPM : P + 1 < M := by have := H2.out.1.lt; omega
  obtain ⟨W3, hW3⟩ : ∃ W3, w2.alloc (.cells #[.int .i64 0, .int .i64 0, .string ⟨#[]⟩, .slice none 0 0, .slice none 0 0] 28) = W3 := ⟨_, rfl⟩
  have hr3 : Blk W3 P 28 [.int .i64 0, .int .i64 0, .string ⟨#[]⟩, .slice none 0 0, .slice none 0 0] := by rw [← hW3, ← hP]; exact H2.out.2.1.alloc _
  have hb3 : Below P w W3 := by rw [← hW3, ← hP]; exact H2.out.2.2.alloc H2.out.2.2.size _
  have hd4 := H2.out.1.alloc (.cells #[.int .i64 0, .int .i64 0, .string ⟨#[]⟩, .slice none 0 0, .slice none 0 0] 28)
  have hr4 := H2.out.2.1.alloc (.cells #[.int .i64 0, .int .i64 0, .string ⟨#[]⟩, .slice none 0 0, .slice none 0 0] 28)
  rw [hP] at hd4 hr4
  have d1 := hd4.cell 1
  have r0 := hr4.cell 0
  have r1 := hr4.cell 1
  have r2 := hr4.cell 2
  have r3 := hr4.cell 3
  have r4 := hr4.cell 4
  have s0 := hr4.frozen 0
  have s1 := hr4.frozen 1
  have s2 := hr4.frozen 2
  have s3 := hr4.frozen 3
  have s4 := hr4.frozen 4
  have hPM1 : ¬ P = w2.heap.size := by omega
  obtain ⟨W5, hW5⟩ : ∃ W5, ((((((w2.alloc (.cells #[.int .i64 0, .int .i64 0, .string ⟨#[]⟩, .slice none 0 0, .slice none 0 0] 28)).setCell ⟨P, 0, none⟩ (.int .i64 0)).setCell ⟨P, 1, none⟩ (.int .i64 0)).setCell ⟨P, 2, none⟩ (.string ⟨#[]⟩)).setCell ⟨P, 3, none⟩ (.slice none 0 0)).setCell ⟨P, 4, none⟩ (.slice none 0 0)) = W5 := ⟨_, rfl⟩
  have hW5b := hW5
  rw [hW3] at hW5b
  have ho5 : Only (fun x => x = P) W3 W5 := by
    rw [← hW5b]
    exact ((((Only.set1 W3 P 0 _).trans (Only.set1 _ P 1 _)).trans (Only.set1 _ P 2 _)).trans (Only.set1 _ P 3 _)).trans (Only.set1 _ P 4 _)
  have hR5 : Blk W5 P 28 [.int .i64 0, .int .i64 0, .string ⟨#[]⟩, .slice none 0 0, .slice none 0 0] := by
    rw [← hW5b]
    exact ((((hr3.set 0 (.int .i64 0)).set 1 (.int .i64 0)).set 2 (.string ⟨#[]⟩)).set 3 (.slice none 0 0)).set 4 (.slice none 0 0)
  have hbb5 : Below P w W5 := hb3.trans (ho5.below (by have := hr3.lt; omega) (fun k hk e => by omega))
  have HF := Lib.hid (And.intro hW5 (And.intro hR5 (And.intro hbb5 hP)))
  unfold vNull
  rw [hP]
  clear hW5 hW5b ho5 hR5 hbb5 hr4 hr3 hb3 hPM hP hd4 hW3 hM
  go_wp2
  rw [HF.out.1]
  have z0 := HF.out.2.1.cell 0
  have z1 := HF.out.2.1.cell 1
  have z2 := HF.out.2.1.cell 2
  have z3 := HF.out.2.1.cell 3
  have z4 := HF.out.2.1.cell 4
  (try simp only [Exit.inBlock, Exit.then])
  refine bodyPost_ret (v := .tuple #[.agg #[.int .i64 0, .int .i64 0, .string ⟨#[]⟩, .slice none 0 0, .slice none 0 0], .bool false]) ?_ rfl ⟨rfl, by rw [HF.out.2.2.2]; exact HF.out.2.2.1⟩
  rw [results_cell_tmp rfl]
  go_simp
end Go.Proofs.YthlioinmeimhoaaDoor

/- key.Behind; the law's examples. -/
namespace Go.Proofs.YthlioinmeimhoaaDoor
open Go.Shelf Go.RowKit Go.Lib

theorem behind_any (k : ByteArray) (w : World) (hk : k.size ≤ 1000) :
    Calls Tryd.prog 25 #[.string k] w fun e w' => e = .returned (.string (k ++ (⟨#[0]⟩ : ByteArray))) ∧ w' = w := by
  have g : ¬ 9223372036854775807 < k.size + 1 := by omega
  go_enter Tryd.func25, Tryd.ntmps25
  go_wp2
  go_ret
  exact ⟨rfl, rfl⟩

theorem k1S_BA : BA [3, 128, 0, 0, 0, 0, 0, 0, 1] = k1S := by rfl

set_option maxHeartbeats 4000000 in
set_option maxRecDepth 100000 in
theorem kawake_any (w : World) (hT : Tabs w) :
    Calls Tryd.prog 15 #[] w fun e w' => e = .returned (.bool true) ∧ Below w.heap.size w w' := by
  have HT := Lib.hid hT
  clear hT
  obtain ⟨P, hP⟩ : ∃ P, w.heap.size = P := ⟨_, rfl⟩
  obtain ⟨W1, hW1⟩ : ∃ W1, w.alloc (.cells #[.int .i64 2, .int .i64 1, .string ⟨#[]⟩, .slice none 0 0, .slice none 0 0] 28) = W1 := ⟨_, rfl⟩
  have hv1 : Blk W1 P 28 [.int .i64 2, .int .i64 1, .string ⟨#[]⟩, .slice none 0 0, .slice none 0 0] := by rw [← hW1, ← hP]; exact heap_alloc_new w _
  have hb1 : Below w.heap.size w W1 := by rw [← hW1]; exact (Below.refl _ w).alloc (Nat.le_refl _) _
  have v0 := hv1.cell 0
  have v1 := hv1.cell 1
  have v2 := hv1.cell 2
  have v3 := hv1.cell 3
  have v4 := hv1.cell 4
  have H1 := Lib.hid (And.intro hW1 (And.intro hv1 (And.intro hb1 hP)))
  rw [← hW1] at v0 v1 v2 v3 v4
  rw [← hP] at v0 v1 v2 v3 v4
  clear hW1 hv1 hb1 hP
  go_enter Tryd.func15, Tryd.ntmps15
  go_wp2_with fail
  rw [H1.out.1]
  rw [H1.out.2.2.2]
  clear v0 v1 v2 v3 v4
  refine (kput_one W1).mono ?_
  rintro e w2 ⟨rfl, hb2⟩
  rw [k1S_BA]
  have H2 := Lib.hid (And.intro (H1.out.2.1.below hb2) (H1.out.2.2.1.trans (hb2.mono H1.out.2.2.1.size)))
  clear hb2
  go_wp2_with fail
  refine (get_one w2 (HT.out.below H2.out.2)).mono ?_
  rintro e w3 ⟨rfl, hb3⟩
  have hB3 := H2.out.1.below hb3
  have hb3' : Below w.heap.size w w3 := H2.out.2.trans (hb3.mono H2.out.2.size)
  clear hb3
  obtain ⟨M, hM⟩ : ∃ M, w3.heap.size = M := ⟨_, rfl⟩
  have hPM : P < M := by have := hB3.lt; omega
  obtain ⟨W3, hW3⟩ : ∃ W3, w3.alloc (.cells #[.int .i64 2, .int .i64 1, .string ⟨#[]⟩, .slice none 0 0, .slice none 0 0] 28) = W3 := ⟨_, rfl⟩
  have hv3 : Blk W3 M 28 [.int .i64 2, .int .i64 1, .string ⟨#[]⟩, .slice none 0 0, .slice none 0 0] := by rw [← hW3, ← hM]; exact heap_alloc_new w3 _
  have hB3' : Blk W3 P 28 [.int .i64 2, .int .i64 1, .string ⟨#[]⟩, .slice none 0 0, .slice none 0 0] := by rw [← hW3]; exact hB3.alloc _
  have hbW3 : Below w.heap.size w W3 := by rw [← hW3]; exact hb3'.alloc hb3'.size _
  have H3 := Lib.hid (And.intro hW3 (And.intro hv3 (And.intro hB3' (And.intro hbW3 (And.intro hM hPM)))))
  clear hv3 hB3 hB3' hb3' hbW3 hPM hM hW3
  unfold vInt
  go_wp2_with fail
  rw [H3.out.1]
  rw [H3.out.2.2.2.2.1]
  refine (get_none W3).mono ?_
  rintro e w4 ⟨rfl, hb4⟩
  have hv4 := H3.out.2.1.below hb4
  have hB4 := H3.out.2.2.1.below hb4
  have hb4' : Below w.heap.size w w4 := H3.out.2.2.2.1.trans (hb4.mono H3.out.2.2.2.1.size)
  clear hb4
  obtain ⟨W4, hW4⟩ : ∃ W4, w4.alloc (.cells #[.int .i64 0, .int .i64 0, .string ⟨#[]⟩, .slice none 0 0, .slice none 0 0] 28) = W4 := ⟨_, rfl⟩
  have hV4 := hv4.alloc (.cells #[.int .i64 0, .int .i64 0, .string ⟨#[]⟩, .slice none 0 0, .slice none 0 0] 28)
  have hU4 := hB4.alloc (.cells #[.int .i64 0, .int .i64 0, .string ⟨#[]⟩, .slice none 0 0, .slice none 0 0] 28)
  have v0 := hU4.cell 0
  have v1 := hU4.cell 1
  have v2 := hU4.cell 2
  have v3 := hU4.cell 3
  have v4 := hU4.cell 4
  have hbW4 : Below w.heap.size w W4 := by rw [← hW4]; exact hb4'.alloc hb4'.size _
  rw [hW4] at hV4 hU4
  have H4 := Lib.hid (And.intro hW4 (And.intro hV4 (And.intro hU4 hbW4)))
  clear hW4 hV4 hU4 hv4 hB4 hb4' hbW4
  unfold vNull
  go_wp2_with fail
  rw [H4.out.1]
  clear v0 v1 v2 v3 v4
  refine (kput_one W4).mono ?_
  rintro e w5 ⟨rfl, hb5⟩
  rw [k1S_BA]
  have hV5 := H4.out.2.1.below hb5
  have hU5 := H4.out.2.2.1.below hb5
  have H5 := Lib.hid (And.intro hV5 (And.intro hU5 (H4.out.2.2.2.trans (hb5.mono H4.out.2.2.2.size))))
  have v0 := hV5.cell 0
  have v1 := hV5.cell 1
  have v2 := hV5.cell 2
  have v3 := hV5.cell 3
  have v4 := hV5.cell 4
  have u0 := hU5.cell 0
  have u1 := hU5.cell 1
  have u2 := hU5.cell 2
  have u3 := hU5.cell 3
  have u4 := hU5.cell 4
  clear hb5 hV5 hU5
  have hk : (k1S.toList == [3, 128, 0, 0, 0, 0, 0, 0, 1]) = true := by decide +kernel
  go_wp2_with fail
  refine (same_one w5).mono ?_
  rintro e w6 ⟨rfl, hb6⟩
  have H6 := Lib.hid (H5.out.2.2.trans (hb6.mono H5.out.2.2.size))
  clear hb6 v0 v1 v2 v3 v4 u0 u1 u2 u3 u4
  go_wp2_with fail
  have he : (((⟨#[97]⟩ : ByteArray) ++ (⟨#[0]⟩ : ByteArray)).toList == [97, 0]) = true := by decide +kernel
  refine (behind_any ⟨#[97]⟩ w6 (by decide)).mono ?_
  rintro e w7 ⟨rfl, rfl⟩
  go_wp2
  go_ret
  exact ⟨rfl, H6.out⟩
end Go.Proofs.YthlioinmeimhoaaDoor

/- KeyBehind: the law's walk. -/
namespace Go.Proofs.YthlioinmeimhoaaDoor
open Go.Shelf Go.RowKit Go.Lib

/-- a text's first 100 bytes. -/
def cut1 (s : ByteArray) : ByteArray := s.extract 0 (min (s.size : Int) 100).toNat
theorem cut1_size (s : ByteArray) : (cut1 s).size ≤ 100 := by unfold cut1; rw [ByteArray.size_extract]; omega

/-- nothing stands ahead of itself; and nothing ahead of its own beginning. -/
theorem less_app : ∀ (l t : List UInt8), Op.bytesLess (l ++ t) l = false
  | [], t => by cases t <;> rfl
  | a :: l, t => by
    show (decide (a < a) || (a == a && Op.bytesLess (l ++ t) l)) = false
    rw [less_app l t]
    simp
/-- between a text and the one with a 0 behind it there is nothing. -/
theorem less_behind : ∀ (l t : List UInt8), Op.bytesLess t l = false → t ≠ l → Op.bytesLess t (l ++ [0]) = false
  | [], [], _, h => absurd rfl h
  | [], b :: t, _, _ => by
    show (decide (b < 0) || (b == 0 && Op.bytesLess t [])) = false
    have h1 : Op.bytesLess t [] = false := by cases t <;> rfl
    rw [h1]
    simp
  | a :: l, [], h, _ => by simp [Op.bytesLess] at h
  | a :: l, b :: t, h, hn => by
    have h' : (decide (b < a) || (b == a && Op.bytesLess t l)) = false := h
    show (decide (b < a) || (b == a && Op.bytesLess t (l ++ [0]))) = false
    rw [Bool.or_eq_false_iff] at h'
    obtain ⟨h1, h2⟩ := h'
    rw [h1]
    by_cases e : b = a
    · subst e
      have h3 : Op.bytesLess t l = false := by simpa using h2
      rw [less_behind l t h3 (fun e2 => hn (by rw [e2]))]
      simp
    · have e3 : (b == a) = false := by simpa using e
      rw [e3]
      simp
theorem behind_list (k : ByteArray) : (k ++ (⟨#[0]⟩ : ByteArray)).toList = k.toList ++ [0] := by
  rw [Lib.toList_data, Lib.toList_data, app_list]
theorem behind_ne (l : List UInt8) : ¬ l ++ [0] = l := fun h => by
  have := congrArg List.length h
  simp at this

set_option maxHeartbeats 2000000 in
set_option maxRecDepth 100000 in
theorem kbehind_law (s t : ByteArray) (w : World) (hT : Tabs w) :
    Calls Tryd.prog 8 #[.string s, .string t] w fun e w' => e = .returned (.bool true) ∧ Below w.heap.size w w' := by
  have HT := Lib.hid hT
  clear hT
  obtain ⟨X, hX⟩ : ∃ X, s.extract 0 (min (s.size : Int) 100).toNat = X := ⟨_, rfl⟩
  have hXs : X.size ≤ 100 := by rw [← hX]; exact cut1_size s
  obtain ⟨Y, hY⟩ : ∃ Y, t.extract 0 (min (t.size : Int) 100).toNat = Y := ⟨_, rfl⟩
  have HS := Lib.hid hXs
  clear hXs
  go_enter Tryd.func8, Tryd.ntmps8
  go_wp2_with fail
  refine (kawake_any _ HT.out).mono ?_
  rintro e w1 ⟨rfl, hb1⟩
  have H1 := Lib.hid hb1
  clear hb1
  go_wp2_with fail
  go_quiet (fail)
  obtain ⟨wd, hwd⟩ : ∃ v, w1.drewN nq = v := ⟨_, rfl⟩
  have Hd := Lib.hid (hwd ▸ below_drewNv H1.out nq : Below w.heap.size w wd)
  rw [hwd]
  clear hwd
  go_wp2_with fail
  refine (behind_any X wd (by have := HS.out; omega)).mono ?_
  rintro e w2 ⟨rfl, rfl⟩
  obtain ⟨B, hB⟩ : ∃ B, X ++ (⟨#[0]⟩ : ByteArray) = B := ⟨_, rfl⟩
  have hBl : B.toList = X.toList ++ [0] := by rw [← hB]; exact behind_list X
  have f1 : Op.bytesLess B.toList X.toList = false := by rw [hBl]; exact less_app _ _
  have f2 : ¬ B.toList = X.toList := by rw [hBl]; exact behind_ne _
  have f2b : (B.toList == X.toList) = false := by simpa using f2
  rw [hB]
  by_cases c1 : Op.bytesLess Y.toList X.toList = true
  · clear hBl hB hX hY
    go_wp2
    go_ret
    exact ⟨rfl, Hd.out⟩
  · have c1' : Op.bytesLess Y.toList X.toList = false := by simpa using c1
    by_cases c2 : Y.toList = X.toList
    · have c2' : (Y.toList == X.toList) = true := by simpa using c2
      clear hBl hB hX hY c1
      go_wp2
      go_ret
      exact ⟨rfl, Hd.out⟩
    · have c2' : (Y.toList == X.toList) = false := by simpa using c2
      have c3 : Op.bytesLess Y.toList B.toList = false := by rw [hBl]; exact less_behind _ _ c1' c2
      clear hBl hB hX hY c1
      go_wp2
      go_ret
      exact ⟨rfl, Hd.out⟩
end Go.Proofs.YthlioinmeimhoaaDoor
