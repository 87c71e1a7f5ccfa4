/- Errors in errors: their texts at the document's example; awake; nest. -/
import Derived.Test.YtekmfdcmnmehoaaDoorFasB
import Derived.Test.YtekmfdcmnmehoaaDoorShelf
namespace Go.Proofs.YtekmfdcmnmehoaaDoor
open Go.RowKit Go.Extern.Stop Go.Stop Go.Extern

theorem pwDrewN {B : Nat} {w W : World} (h : Below B w W) (n : Nat) : Below B w (W.drewN n) := ⟨h.os, h.tape, h.output, h.size, h.block⟩
def sA : ByteArray := ⟨#[97]⟩
def sB : ByteArray := ⟨#[98]⟩
def sE1 : ByteArray := ⟨#[101, 114, 114, 111, 114, 32, 49]⟩
def sAE1 : ByteArray := ⟨#[97, 58, 32, 101, 114, 114, 111, 114, 32, 49]⟩
def sBAE1 : ByteArray := ⟨#[98, 58, 32, 97, 58, 32, 101, 114, 114, 111, 114, 32, 49]⟩
theorem methodErrF (v : Value) (w : World) : (Go.method 225 34 v "Error").run Tryd.prog w = .ok (15, v) w := by kernel_rfl
theorem methodErrC (v : Value) (w : World) : (Go.method 225 27 v "Error").run Tryd.prog w = .ok (12, v) w := by kernel_rfl
theorem dig1 : (⟨(Lib.decDigits 1).toArray⟩ : ByteArray) = ⟨#[49]⟩ := by decide +kernel
theorem cat1 : (⟨#[101, 114, 114, 111, 114, 32]⟩ : ByteArray) ++ ⟨#[49]⟩ = sE1 := by decide +kernel
theorem errno1_text (w : World) : Calls Tryd.prog 12 #[.int .i64 1] w fun e w' => e = .returned (.string sE1) ∧ w' = w := by
  have hc := cat1
  go_enter Tryd.func12, Tryd.ntmps12
  go_wp2_with fail
  refine (Tryd.strconv_Itoa_small 1 (by decide) _).mono ?_
  rintro e w2 ⟨rfl, rfl⟩
  rw [dig1]
  go_wp2
  go_ret
  exact ⟨rfl, rfl⟩
theorem cat2 : sA ++ (⟨#[58, 32]⟩ : ByteArray) = ⟨#[97, 58, 32]⟩ := by decide +kernel
theorem cat3 : (⟨#[97, 58, 32]⟩ : ByteArray) ++ sE1 = sAE1 := by decide +kernel
theorem cat4 : sB ++ (⟨#[58, 32]⟩ : ByteArray) = ⟨#[98, 58, 32]⟩ := by decide +kernel
theorem cat5 : (⟨#[98, 58, 32]⟩ : ByteArray) ++ sAE1 = sBAE1 := by decide +kernel
set_option maxHeartbeats 1000000 in
theorem fault1_text (b : Nat) (w : World) (h : Blk w b 36 [.string sA, .iface 27 (.int .i64 1)]) : Calls Tryd.prog 15 #[.pointer (some ⟨b, 0, none⟩)] w fun e w' => e = .returned (.string sAE1) ∧ ∃ m, w' = w.drewN m := by
  have hc := cat2
  have hc3 := cat3
  have mE := methodErrC
  have c0 : w.cell? ⟨b, 0, none⟩ = some (.string sA) := h.cell 0
  have c1 : w.cell? ⟨b, 1, none⟩ = some (.iface 27 (.int .i64 1)) := h.cell 1
  have s1 : sA.size = 1 := rfl
  have s2 : sE1.size = 7 := rfl
  clear h
  go_enter Tryd.func15, Tryd.ntmps15
  go_wp2
  go_quiet ((go_at_call 12; exact Calls.quiet_of_same (errno1_text _)))
  go_wp2
  go_ret
  exact ⟨rfl, _, rfl⟩
set_option maxHeartbeats 1000000 in
theorem fault2_text (b b1 : Nat) (w : World) (h : Blk w b 36 [.string sB, .iface 34 (.pointer (some ⟨b1, 0, none⟩))]) (h1 : Blk w b1 36 [.string sA, .iface 27 (.int .i64 1)]) :
    Calls Tryd.prog 15 #[.pointer (some ⟨b, 0, none⟩)] w fun e w' => e = .returned (.string sBAE1) ∧ ∃ m, w' = w.drewN m := by
  have hc := cat4
  have hc3 := cat5
  have mE := methodErrF
  have c0 : w.cell? ⟨b, 0, none⟩ = some (.string sB) := h.cell 0
  have c1 : w.cell? ⟨b, 1, none⟩ = some (.iface 34 (.pointer (some ⟨b1, 0, none⟩))) := h.cell 1
  have s1 : sB.size = 1 := rfl
  have s2 : sAE1.size = 10 := rfl
  have HB := Lib.hid h1
  clear h h1
  go_enter Tryd.func15, Tryd.ntmps15
  go_wp2
  go_quiet ((go_at_call 15; exact Calls.quiet_of (fault1_text b1 _ HB.out)))
  go_wp2
  go_ret
  exact ⟨rfl, _, rfl⟩

set_option maxHeartbeats 400000 in
theorem wrap_nil (s : ByteArray) (w : World) : Calls Tryd.prog 17 #[.nilIface, .string s] w fun e w' => e = .returned .nilIface ∧ w' = w := by
  go_enter Tryd.func17, Tryd.ntmps17
  go_wp2
  go_ret
  exact ⟨rfl, rfl⟩
set_option maxHeartbeats 400000 in
theorem wrap_some (t : TypeId) (u : Value) (s : ByteArray) (w : World) : Calls Tryd.prog 17 #[.iface t u, .string s] w fun e w' => e = .returned (.iface 34 (.pointer (some ⟨w.heap.size, 0, none⟩))) ∧ w' = w.alloc (.cells #[.string s, .iface t u] 36) := by
  go_enter Tryd.func17, Tryd.ntmps17
  go_wp2
  go_ret
  exact ⟨rfl, rfl⟩

set_option maxHeartbeats 1000000 in
theorem fawake_any (w : World) (hg : ErrT w) : Calls Tryd.prog 9 #[] w fun e w' => e = .returned (.bool true) ∧ Below w.heap.size w w' := by
  have HG := Lib.hid hg
  clear hg
  have mE := methodErrF
  have heq : sBAE1.toList = [98, 58, 32, 97, 58, 32, 101, 114, 114, 111, 114, 32, 49] := by decide +kernel
  go_enter Tryd.func9, Tryd.ntmps9
  go_wp2_with fail
  refine (faultNew_some 1 _ w rfl).mono ?_
  rintro e w1 ⟨rfl, hw1⟩
  have B1 : Blk w1 w.heap.size 36 [.string sA, .iface 27 (.int .i64 1)] := by rw [hw1]; exact heap_alloc_new w _
  have hb1 : Below w.heap.size w w1 := by rw [hw1]; exact (Below.refl _ _).alloc (Nat.le_refl _) _
  clear hw1
  go_wp2_with fail
  refine (wrap_some _ _ _ w1).mono ?_
  rintro e w2 ⟨rfl, hw2⟩
  have B2 : Blk w2 w1.heap.size 36 [.string sB, .iface 34 (.pointer (some ⟨w.heap.size, 0, none⟩))] := by rw [hw2]; exact heap_alloc_new w1 _
  have B3 : Blk w2 w.heap.size 36 [.string sA, .iface 27 (.int .i64 1)] := by rw [hw2]; exact B1.alloc _
  have hb2 : Below w.heap.size w w2 := by rw [hw2]; exact hb1.alloc hb1.size _
  have H2 := Lib.hid (And.intro B2 (And.intro B3 hb2))
  clear B1 hb1 hw2 B2 B3 hb2
  go_wp2_with fail
  refine (fault2_text _ _ w2 H2.out.1 H2.out.2.1).mono ?_
  rintro e w3 ⟨rfl, m, rfl⟩
  have hb3 : Below w2.heap.size w2 (w2.drewN m) := pwDrewN (Below.refl _ _) m
  have HC : Hid (Chain (w2.drewN m) 2 (.iface 34 (.pointer (some ⟨w1.heap.size, 0, none⟩))) 1 ∧ Below w.heap.size w (w2.drewN m)) := Lib.hid ⟨Chain.below hb3 ⟨_, _, _, rfl, H2.out.1, ⟨_, _, _, rfl, H2.out.2.1, rfl⟩⟩, H2.out.2.2.trans (hb3.mono H2.out.2.2.size)⟩
  clear hb3
  go_wp2_with fail
  refine (code_chain 2 _ 1 _ HC.out.1 (HG.out.below HC.out.2)).mono ?_
  rintro e w4 ⟨rfl, hb4⟩
  have H4 := Lib.hid (HC.out.2.trans (hb4.mono HC.out.2.size))
  clear hb4
  go_wp2_with fail
  refine (code_nil _).mono ?_
  rintro e w5 ⟨rfl, rfl⟩
  go_wp2
  go_ret
  exact ⟨rfl, H4.out⟩
end Go.Proofs.YtekmfdcmnmehoaaDoor
