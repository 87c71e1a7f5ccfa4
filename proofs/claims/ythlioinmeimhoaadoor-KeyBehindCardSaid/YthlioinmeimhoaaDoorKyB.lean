/- Keys: the reader. -/
import Derived.Test.YthlioinmeimhoaaDoorKyA
import Derived.Laws.IdiomStrings
import Derived.Lib.SmallJoins
namespace Go.Proofs.YthlioinmeimhoaaDoor
open Go.Shelf Go.RowKit Go.Lib

set_option maxHeartbeats 2000000 in
set_option maxRecDepth 100000 in
theorem take_ok (rb n : Nat) (s : ByteArray) (w : World) (hB : Blk w rb 78 [.string s, .bool false]) (hn : n ≤ s.size) :
    Calls Tryd.prog 60 #[.pointer (some ⟨rb, 0, none⟩), .int .i64 n] w fun e w' => e = .returned (.string (s.extract 0 n)) ∧ Blk w' rb 78 [.string (s.extract n s.size), .bool false] ∧ Only (· = rb) w w' := by
  have c0 := hB.cell 0
  have c1 := hB.cell 1
  have f0 := hB.frozen 0
  have d1 : decide ((s.size : Int) < (n : Int)) = false := decide_eq_false (by omega)
  have e1 : (n : Int) ≤ (s.size : Int) := by omega
  have H := Lib.hid hB
  clear hB hn
  go_enter Tryd.func60, Tryd.ntmps60
  go_wp2
  go_ret
  exact ⟨rfl, H.out.set 0 _, Only.set1 _ _ _ _⟩
set_option maxHeartbeats 2000000 in
set_option maxRecDepth 100000 in
theorem take_no (rb n : Nat) (s : ByteArray) (w : World) (hB : Blk w rb 78 [.string s, .bool false]) (hn : s.size < n) :
    Calls Tryd.prog 60 #[.pointer (some ⟨rb, 0, none⟩), .int .i64 n] w fun e w' => e = .returned (.string ⟨#[]⟩) ∧ Blk w' rb 78 [.string s, .bool true] ∧ Only (· = rb) w w' := by
  have c0 := hB.cell 0
  have c1 := hB.cell 1
  have f1 := hB.frozen 1
  have d1 : decide ((s.size : Int) < (n : Int)) = true := decide_eq_true (by omega)
  have d2 : decide (s.size < n) = true := decide_eq_true hn
  have H := Lib.hid hB
  clear hB hn
  go_enter Tryd.func60, Tryd.ntmps60
  go_wp2
  go_ret
  exact ⟨rfl, H.out.set 1 _, Only.set1 _ _ _ _⟩

theorem bytes8 (w : World) : ∃ cap W, (convert 9 22 (.string (BA [128, 0, 0, 0, 0, 0, 0, 1]))).run Tryd.prog w = .ok (.slice (some ⟨w.heap.size, 0, none⟩) 8 cap) W ∧ Below w.heap.size w W ∧
    W.cell? ⟨w.heap.size, 0, none⟩ = some (.int .u8 128) ∧ W.cell? ⟨w.heap.size, 1, none⟩ = some (.int .u8 0) ∧ W.cell? ⟨w.heap.size, 2, none⟩ = some (.int .u8 0) ∧ W.cell? ⟨w.heap.size, 3, none⟩ = some (.int .u8 0) ∧ W.cell? ⟨w.heap.size, 4, none⟩ = some (.int .u8 0) ∧ W.cell? ⟨w.heap.size, 5, none⟩ = some (.int .u8 0) ∧ W.cell? ⟨w.heap.size, 6, none⟩ = some (.int .u8 0) ∧ W.cell? ⟨w.heap.size, 7, none⟩ = some (.int .u8 1) := by
  have h := run_bytes_of_string w 9 22 5 (BA [128, 0, 0, 0, 0, 0, 0, 1]) Tryd.underlying9 Tryd.underlying22 Tryd.underlying5
  obtain ⟨cap, hcap⟩ : ∃ cap, grownCap w (BA [128, 0, 0, 0, 0, 0, 0, 1]).size 0 5 = cap := ⟨_, rfl⟩
  rw [hcap] at h
  have hblk : ∀ (fz : Nat × Nat), (w.drew.alloc (.cells (bytesRow (BA [128, 0, 0, 0, 0, 0, 0, 1]) cap) 5 fz)).heap[w.heap.size]? = some (.cells (bytesRow (BA [128, 0, 0, 0, 0, 0, 0, 1]) cap) 5 fz) := fun fz => heap_alloc_new w.drew _
  refine ⟨cap, _, h, ((Below.refl _ w).drew).alloc (Nat.le_refl _) _, ?_, ?_, ?_, ?_, ?_, ?_, ?_, ?_⟩
  all_goals (rw [Go.Joins.cell_of_block (hblk _)]; rw [bytesRow_at _ _ _ (by decide)]; rfl)

set_option maxHeartbeats 4000000 in
set_option maxRecDepth 100000 in
theorem rnumber_one (rb : Nat) (s r : ByteArray) (w : World) (hB : Blk w rb 78 [.string s, .bool false]) (hs : 8 ≤ s.size) (hs0 : s.extract 0 8 = BA [128, 0, 0, 0, 0, 0, 0, 1]) (hs1 : s.extract 8 s.size = r) :
    Calls Tryd.prog 61 #[.pointer (some ⟨rb, 0, none⟩)] w fun e w' => e = .returned (.int .i64 1) ∧ Blk w' rb 78 [.string r, .bool false] ∧ Only (· = rb) w w' := by
  have H := Lib.hid (And.intro hB (And.intro hs (And.intro hs0 hs1)))
  clear hB hs hs0 hs1
  go_enter Tryd.func61, Tryd.ntmps61
  go_wp2_with fail
  refine (take_ok rb 8 s _ H.out.1 H.out.2.1).mono ?_
  rintro e w2 ⟨rfl, hB2, hO⟩
  rw [H.out.2.2.1]
  rw [H.out.2.2.2] at hB2
  obtain ⟨cap, W, hcv, hbW, k0, k1, k2, k3, k4, k5, k6, k7⟩ := bytes8 w2
  have H2 := Lib.hid (And.intro (hB2.below hbW) (hO.trans' (Only.ofBelow hbW (fun _ => False)) (fun _ _ h => h.elim)))
  have o0 : bits .or .u64 0 128 = 128 := by decide +kernel
  have o1 : bits .or .u64 32768 0 = 32768 := by decide +kernel
  have w1 : IntKind.u64.wrap 32768 = 32768 := by decide +kernel
  have o2 : bits .or .u64 8388608 0 = 8388608 := by decide +kernel
  have w2 : IntKind.u64.wrap 8388608 = 8388608 := by decide +kernel
  have o3 : bits .or .u64 2147483648 0 = 2147483648 := by decide +kernel
  have w3 : IntKind.u64.wrap 2147483648 = 2147483648 := by decide +kernel
  have o4 : bits .or .u64 549755813888 0 = 549755813888 := by decide +kernel
  have w4 : IntKind.u64.wrap 549755813888 = 549755813888 := by decide +kernel
  have o5 : bits .or .u64 140737488355328 0 = 140737488355328 := by decide +kernel
  have w5 : IntKind.u64.wrap 140737488355328 = 140737488355328 := by decide +kernel
  have o6 : bits .or .u64 36028797018963968 0 = 36028797018963968 := by decide +kernel
  have w6 : IntKind.u64.wrap 36028797018963968 = 36028797018963968 := by decide +kernel
  have o7 : bits .or .u64 9223372036854775808 1 = 9223372036854775809 := by decide +kernel
  have w7 : IntKind.u64.wrap 9223372036854775808 = 9223372036854775808 := by decide +kernel
  have hxor : bits .xor .u64 9223372036854775809 9223372036854775808 = 1 := by decide +kernel
  clear hB2 hO hbW
  go_wp2
  refine wp_loop_rounds 9 ?_
  rw [rounds_succ]
  go_wp2
  rw [rounds_succ]
  go_wp2
  rw [rounds_succ]
  go_wp2
  rw [rounds_succ]
  go_wp2
  rw [rounds_succ]
  go_wp2
  rw [rounds_succ]
  go_wp2
  rw [rounds_succ]
  go_wp2
  rw [rounds_succ]
  go_wp2
  rw [rounds_succ]
  go_wp2
  go_ret
  exact ⟨rfl, H2.out.1, H2.out.2⟩
end Go.Proofs.YthlioinmeimhoaaDoor
