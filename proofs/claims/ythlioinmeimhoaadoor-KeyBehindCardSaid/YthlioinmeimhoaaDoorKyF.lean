/- key.Behind; the law's examples. -/
import Derived.Test.YthlioinmeimhoaaDoorKyE
namespace Go.Proofs.YthlioinmeimhoaaDoor
open Go.Shelf Go.RowKit Go.Lib

theorem behind_any (k : ByteArray) (w : World) (hk : k.size ≤ 1000) :
    Calls Tryd.prog 25 #[.string k] w fun e w' => e = .returned (.string (k ++ (⟨#[0]⟩ : ByteArray))) ∧ w' = w := by
  have g : ¬ 9223372036854775807 < k.size + 1 := by omega
  go_enter Tryd.func25, Tryd.ntmps25
  go_wp2
  go_ret
  exact ⟨rfl, rfl⟩

theorem k1S_BA : BA [3, 128, 0, 0, 0, 0, 0, 0, 1] = k1S := by rfl

set_option maxHeartbeats 4000000 in
set_option maxRecDepth 100000 in
theorem kawake_any (w : World) (hT : Tabs w) :
    Calls Tryd.prog 15 #[] w fun e w' => e = .returned (.bool true) ∧ Below w.heap.size w w' := by
  have HT := Lib.hid hT
  clear hT
  obtain ⟨P, hP⟩ : ∃ P, w.heap.size = P := ⟨_, rfl⟩
  obtain ⟨W1, hW1⟩ : ∃ W1, w.alloc (.cells #[.int .i64 2, .int .i64 1, .string ⟨#[]⟩, .slice none 0 0, .slice none 0 0] 28) = W1 := ⟨_, rfl⟩
  have hv1 : Blk W1 P 28 [.int .i64 2, .int .i64 1, .string ⟨#[]⟩, .slice none 0 0, .slice none 0 0] := by rw [← hW1, ← hP]; exact heap_alloc_new w _
  have hb1 : Below w.heap.size w W1 := by rw [← hW1]; exact (Below.refl _ w).alloc (Nat.le_refl _) _
  have v0 := hv1.cell 0
  have v1 := hv1.cell 1
  have v2 := hv1.cell 2
  have v3 := hv1.cell 3
  have v4 := hv1.cell 4
  have H1 := Lib.hid (And.intro hW1 (And.intro hv1 (And.intro hb1 hP)))
  rw [← hW1] at v0 v1 v2 v3 v4
  rw [← hP] at v0 v1 v2 v3 v4
  clear hW1 hv1 hb1 hP
  go_enter Tryd.func15, Tryd.ntmps15
  go_wp2_with fail
  rw [H1.out.1]
  rw [H1.out.2.2.2]
  clear v0 v1 v2 v3 v4
  refine (kput_one W1).mono ?_
  rintro e w2 ⟨rfl, hb2⟩
  rw [k1S_BA]
  have H2 := Lib.hid (And.intro (H1.out.2.1.below hb2) (H1.out.2.2.1.trans (hb2.mono H1.out.2.2.1.size)))
  clear hb2
  go_wp2_with fail
  refine (get_one w2 (HT.out.below H2.out.2)).mono ?_
  rintro e w3 ⟨rfl, hb3⟩
  have hB3 := H2.out.1.below hb3
  have hb3' : Below w.heap.size w w3 := H2.out.2.trans (hb3.mono H2.out.2.size)
  clear hb3
  obtain ⟨M, hM⟩ : ∃ M, w3.heap.size = M := ⟨_, rfl⟩
  have hPM : P < M := by have := hB3.lt; omega
  obtain ⟨W3, hW3⟩ : ∃ W3, w3.alloc (.cells #[.int .i64 2, .int .i64 1, .string ⟨#[]⟩, .slice none 0 0, .slice none 0 0] 28) = W3 := ⟨_, rfl⟩
  have hv3 : Blk W3 M 28 [.int .i64 2, .int .i64 1, .string ⟨#[]⟩, .slice none 0 0, .slice none 0 0] := by rw [← hW3, ← hM]; exact heap_alloc_new w3 _
  have hB3' : Blk W3 P 28 [.int .i64 2, .int .i64 1, .string ⟨#[]⟩, .slice none 0 0, .slice none 0 0] := by rw [← hW3]; exact hB3.alloc _
  have hbW3 : Below w.heap.size w W3 := by rw [← hW3]; exact hb3'.alloc hb3'.size _
  have H3 := Lib.hid (And.intro hW3 (And.intro hv3 (And.intro hB3' (And.intro hbW3 (And.intro hM hPM)))))
  clear hv3 hB3 hB3' hb3' hbW3 hPM hM hW3
  unfold vInt
  go_wp2_with fail
  rw [H3.out.1]
  rw [H3.out.2.2.2.2.1]
  refine (get_none W3).mono ?_
  rintro e w4 ⟨rfl, hb4⟩
  have hv4 := H3.out.2.1.below hb4
  have hB4 := H3.out.2.2.1.below hb4
  have hb4' : Below w.heap.size w w4 := H3.out.2.2.2.1.trans (hb4.mono H3.out.2.2.2.1.size)
  clear hb4
  obtain ⟨W4, hW4⟩ : ∃ W4, w4.alloc (.cells #[.int .i64 0, .int .i64 0, .string ⟨#[]⟩, .slice none 0 0, .slice none 0 0] 28) = W4 := ⟨_, rfl⟩
  have hV4 := hv4.alloc (.cells #[.int .i64 0, .int .i64 0, .string ⟨#[]⟩, .slice none 0 0, .slice none 0 0] 28)
  have hU4 := hB4.alloc (.cells #[.int .i64 0, .int .i64 0, .string ⟨#[]⟩, .slice none 0 0, .slice none 0 0] 28)
  have v0 := hU4.cell 0
  have v1 := hU4.cell 1
  have v2 := hU4.cell 2
  have v3 := hU4.cell 3
  have v4 := hU4.cell 4
  have hbW4 : Below w.heap.size w W4 := by rw [← hW4]; exact hb4'.alloc hb4'.size _
  rw [hW4] at hV4 hU4
  have H4 := Lib.hid (And.intro hW4 (And.intro hV4 (And.intro hU4 hbW4)))
  clear hW4 hV4 hU4 hv4 hB4 hb4' hbW4
  unfold vNull
  go_wp2_with fail
  rw [H4.out.1]
  clear v0 v1 v2 v3 v4
  refine (kput_one W4).mono ?_
  rintro e w5 ⟨rfl, hb5⟩
  rw [k1S_BA]
  have hV5 := H4.out.2.1.below hb5
  have hU5 := H4.out.2.2.1.below hb5
  have H5 := Lib.hid (And.intro hV5 (And.intro hU5 (H4.out.2.2.2.trans (hb5.mono H4.out.2.2.2.size))))
  have v0 := hV5.cell 0
  have v1 := hV5.cell 1
  have v2 := hV5.cell 2
  have v3 := hV5.cell 3
  have v4 := hV5.cell 4
  have u0 := hU5.cell 0
  have u1 := hU5.cell 1
  have u2 := hU5.cell 2
  have u3 := hU5.cell 3
  have u4 := hU5.cell 4
  clear hb5 hV5 hU5
  have hk : (k1S.toList == [3, 128, 0, 0, 0, 0, 0, 0, 1]) = true := by decide +kernel
  go_wp2_with fail
  refine (same_one w5).mono ?_
  rintro e w6 ⟨rfl, hb6⟩
  have H6 := Lib.hid (H5.out.2.2.trans (hb6.mono H5.out.2.2.size))
  clear hb6 v0 v1 v2 v3 v4 u0 u1 u2 u3 u4
  go_wp2_with fail
  have he : (((⟨#[97]⟩ : ByteArray) ++ (⟨#[0]⟩ : ByteArray)).toList == [97, 0]) = true := by decide +kernel
  refine (behind_any ⟨#[97]⟩ w6 (by decide)).mono ?_
  rintro e w7 ⟨rfl, rfl⟩
  go_wp2
  go_ret
  exact ⟨rfl, H6.out⟩
end Go.Proofs.YthlioinmeimhoaaDoor
