/- FaultInner: the law's walk. -/
import Derived.Test.YtekmfdcmnmehoaaDoorFaJ
namespace Go.Proofs.YtekmfdcmnmehoaaDoor
open Go.RowKit

theorem unwrap_at (b : Nat) (p : ByteArray) (t : TypeId) (u : Value) (w : World) (hB : Blk w b 36 [.string p, .iface t u]) :
    Calls Tryd.prog 14 #[.pointer (some ⟨b, 0, none⟩)] w fun e w' => e = .returned (.iface t u) ∧ w' = w := by
  have c1 : w.cell? ⟨b, 1, none⟩ = some (.iface t u) := hB.cell 1
  clear hB
  go_enter Tryd.func14, Tryd.ntmps14
  go_wp2
  go_ret
  exact ⟨rfl, rfl⟩

set_option maxHeartbeats 8000000 in
theorem finner_law (code : Int) (a b : ByteArray) (z : Int) (w : World) (h0 : 0 ≤ code) (h1 : code ≤ 255) (ha : a.size ≤ 281474976710656) (hb : b.size ≤ 281474976710656) (hg : ErrT w) (hz : PZ w z) :
    Calls Tryd.prog 5 #[.int .u8 code, .string a, .string b] w fun e w' => e = .returned (.bool true) ∧ Below w.heap.size w w' := by
  have HG := Lib.hid hg
  have HZ := Lib.hid hz
  obtain ⟨u, hu⟩ : ∃ u : Nat, (u : Int) = code + 1 := ⟨(code + 1).toNat, by omega⟩
  have hu2 : u ≤ 256 := by omega
  have hwr : IntKind.i64.wrap code = code := IntWalk.i64_in _ (by omega)
  have hwr2 : IntKind.i64.wrap (code + 1) = code + 1 := IntWalk.i64_in _ (by omega)
  have HU := Lib.hid hu
  have hc0 : ((u : Int) == 0) = false := by simp; omega
  have HC0 := Lib.hid hc0
  have mE := methodErrF
  clear hg hz hu hc0
  go_enter Tryd.func5, Tryd.ntmps5
  go_wp2_with fail
  refine (fawake_any w HG.out).mono ?_
  rintro e w1 ⟨rfl, hb1⟩
  have HB := Lib.hid hb1
  clear hb1
  go_wp2_with fail
  rw [← HU.out]
  refine (faultNew_some _ a w1 HC0.out).mono ?_
  rintro e w2 ⟨rfl, hw2⟩
  have B2 : Blk w2 w1.heap.size 36 [.string a, .iface 27 (.int .i64 u)] := by rw [hw2]; exact heap_alloc_new w1 _
  have hb2 : Below w.heap.size w w2 := by rw [hw2]; exact HB.out.alloc HB.out.size _
  have hlt : w1.heap.size < w2.heap.size := by rw [hw2]; simp
  obtain ⟨w3, hw3⟩ : ∃ w3, w3 = w2.alloc (.cells #[.string b, .iface 34 (.pointer (some ⟨w1.heap.size, 0, none⟩))] 36) := ⟨_, rfl⟩
  have A3 : Blk w3 w2.heap.size 36 [.string b, .iface 34 (.pointer (some ⟨w1.heap.size, 0, none⟩))] := by rw [hw3]; exact heap_alloc_new w2 _
  have B3 : Blk w3 w1.heap.size 36 [.string a, .iface 27 (.int .i64 u)] := by rw [hw3]; exact B2.alloc _
  have hb3 : Below w.heap.size w w3 := by rw [hw3]; exact hb2.alloc hb2.size _
  have H3 := Lib.hid (And.intro A3 (And.intro B3 hb3))
  have HW3 := Lib.hid hw3
  clear B2 hb2 hw2 A3 B3 hb3 hw3 hlt
  go_wp2_with fail
  rw [← HW3.out]
  refine (unwrap_at w2.heap.size b _ _ w3 H3.out.1).mono ?_
  rintro e w4 ⟨rfl, rfl⟩
  go_wp2_with fail
  refine (inner_text a u w1.heap.size z w4 ha hu2 H3.out.2.1 (HZ.out.below H3.out.2.2)).mono ?_
  rintro e w5 ⟨rfl, hb5⟩
  have H5 := Lib.hid (And.intro (H3.out.1.below hb5) (And.intro (H3.out.2.1.below hb5) (H3.out.2.2.trans (hb5.mono H3.out.2.2.size))))
  obtain ⟨T, hT⟩ : ∃ T, T = (a ++ sSep) ++ codeZ z u := ⟨_, rfl⟩
  have hct : T.size ≤ 281474976710656 + 2 + 1006 := by
    have h6 : sErr.size = 6 := rfl
    have h7 : sSep.size = 2 := rfl
    have := TI_size z u hu2
    rw [hT]; unfold codeZ; rw [ByteArray.size_append, ByteArray.size_append, ByteArray.size_append]; omega
  have HT := Lib.hid hT
  rw [← hT]
  clear hb5 hT
  go_wp2_with fail
  refine (inner_text a u w1.heap.size z w5 ha hu2 H5.out.2.1 (HZ.out.below H5.out.2.2)).mono ?_
  rintro e w6 ⟨rfl, hb6⟩
  have H6 := Lib.hid (And.intro (H5.out.1.below hb6) (And.intro (H5.out.2.1.below hb6) (H5.out.2.2.trans (hb6.mono H5.out.2.2.size))))
  rw [← HT.out]
  clear hb6
  go_wp2_with fail
  refine (outer_text b a u w2.heap.size w1.heap.size z w6 hb ha hu2 H6.out.1 H6.out.2.1 (HZ.out.below H6.out.2.2)).mono ?_
  rintro e w7 ⟨rfl, hb7⟩
  have H7 := Lib.hid (And.intro (H6.out.1.below hb7) (And.intro (H6.out.2.1.below hb7) (H6.out.2.2.trans (hb7.mono H6.out.2.2.size))))
  rw [← HT.out]
  have n1 : ¬ 9223372036854775807 < b.size + 2 := by omega
  have n2 : ¬ 9223372036854775807 < b.size + 2 + T.size := by omega
  clear hb7
  go_wp2_with fail
  refine (inner_text a u w1.heap.size z w7 ha hu2 H7.out.2.1 (HZ.out.below H7.out.2.2)).mono ?_
  rintro e w8 ⟨rfl, hb8⟩
  have H8 := Lib.hid (And.intro (H7.out.1.below hb8) (And.intro (H7.out.2.1.below hb8) (H7.out.2.2.trans (hb8.mono H7.out.2.2.size))))
  rw [← HT.out]
  obtain ⟨Q, hQ⟩ : ∃ Q, Q = b ++ sSep ++ T := ⟨_, rfl⟩
  rw [show b ++ sSep ++ T = Q from hQ.symm]
  have hqq : b ++ (⟨#[58, 32]⟩ : ByteArray) ++ T = Q := hQ.symm
  clear hb8 hQ
  go_wp2_with fail
  refine (code_chain 2 _ (u : Int) w8 ⟨_, _, _, rfl, H8.out.1, ⟨_, _, _, rfl, H8.out.2.1, rfl⟩⟩ (HG.out.below H8.out.2.2)).mono ?_
  rintro e w9 ⟨rfl, hb9⟩
  have H9 := Lib.hid (H8.out.2.2.trans (hb9.mono H8.out.2.2.size))
  clear hb9
  rw [HU.out]
  go_wp2
  go_ret
  exact ⟨rfl, H9.out⟩
end Go.Proofs.YtekmfdcmnmehoaaDoor
