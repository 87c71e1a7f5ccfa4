/- The law's awake. -/
import Derived.Test.YtecnjifincahaaaGreatDoorIxO
namespace Go.Proofs.YtecnjifincahaaaGreatDoor
open Go.Shelf Go.RowKit Go.Lib

/-- what the package's variables hold. -/
structure IxW (w : World) : Prop where
  errt : ErrT w
  errv : ErrV w
  tabs : Tabs w
  ml : ML w
  words : Words w
theorem IxW.below {w w2 : World} (h : IxW w) (hb : Below w.heap.size w w2) : IxW w2 := ⟨h.errt.below hb, h.errv.later hb, h.tabs.below hb, h.ml.later hb, h.words.later hb⟩
theorem good_i : ¬ badName [105] := by
  rintro (h | h | h)
  · exact absurd h (by decide)
  · cases h
  · exact absurd h (by decide)
theorem good_spec (k : Nat) (hk : k < 10) : ¬ badName (105 :: dig k) := by
  rintro (h | h | h)
  · exact absurd h (by
      have : ∀ k, k < 10 → ¬ oddB (105 :: dig k) = true := by decide +kernel
      exact this k hk)
  · cases h
  · simp [dig] at h
/-- an object with one field, a number. -/
theorem obj_one (nm : UInt8) (W : World) (b : Nat) (h : Blk W b 72 [.string (BA [nm]), .int .i64 2, .int .i64 1, .string ⟨#[]⟩, .slice none 0 0, .slice none 0 0]) :
    VAt (fun x => x = b) W (.obj [([nm], .int 1)]) [.int .i64 5, .int .i64 0, .string ⟨#[]⟩, .slice none 0 0, .slice (some ⟨b, 0, none⟩) 1 1] := by
  refine .obj _ [.string (BA [nm]), .int .i64 2, .int .i64 1, .string ⟨#[]⟩, .slice none 0 0, .slice none 0 0] _ (.cons [nm] (.int 1) [] _ _ _ _ _ [] (.int 1 (by decide)) .nil) ⟨by simp, .inr ⟨b, 1, rfl, rfl, fun k u hu => (h.cell k).trans hu⟩⟩

set_option maxHeartbeats 4000000 in
set_option maxRecDepth 100000 in
theorem ixawake_any (w : World) (hI : IxW w) : Calls Tryz.prog 9 #[] w fun e w' => e = .returned (.bool true) ∧ Below w.heap.size w w' := by
  have HI := Lib.hid hI
  clear hI
  go_enter Tryz.func9, Tryz.ntmps9
  go_wp2_with fail
  obtain ⟨P0, hP0⟩ : ∃ P, w.heap.size = P := ⟨_, rfl⟩
  obtain ⟨W1, hW1⟩ : ∃ W, ((w.alloc (.cells #[.string ⟨#[105]⟩, .string ⟨#[97]⟩, .bool false] 23)).alloc (.cells #[.int .i64 2, .int .i64 1, .string ⟨#[]⟩, .slice none 0 0, .slice none 0 0] 40)).alloc (.cells #[.string ⟨#[97]⟩, .int .i64 2, .int .i64 1, .string ⟨#[]⟩, .slice none 0 0, .slice none 0 0] 72) = W := ⟨_, rfl⟩
  have hb1 : Below w.heap.size w W1 := by
    rw [← hW1]
    exact (((Below.refl _ w).alloc (Nat.le_refl _) _).alloc (by simp) _).alloc (by simp; omega) _
  have hk0 : Blk W1 P0 23 [.string ⟨#[105]⟩, .string ⟨#[97]⟩, .bool false] := by rw [← hW1, ← hP0]; exact (Blk.alloc (heap_alloc_new w _) _).alloc _
  have hk1 : Blk W1 (P0 + 1) 40 [.int .i64 2, .int .i64 1, .string ⟨#[]⟩, .slice none 0 0, .slice none 0 0] := by rw [← hW1, ← hP0]; exact (blk_new2 w _ _ _).alloc _
  have hk2 : Blk W1 (P0 + 1 + 1) 72 [.string ⟨#[97]⟩, .int .i64 2, .int .i64 1, .string ⟨#[]⟩, .slice none 0 0, .slice none 0 0] := by
    rw [← hW1, ← hP0]
    have h := heap_alloc_new ((w.alloc (.cells #[.string ⟨#[105]⟩, .string ⟨#[97]⟩, .bool false] 23)).alloc (.cells #[.int .i64 2, .int .i64 1, .string ⟨#[]⟩, .slice none 0 0, .slice none 0 0] 40)) (.cells #[.string ⟨#[97]⟩, .int .i64 2, .int .i64 1, .string ⟨#[]⟩, .slice none 0 0, .slice none 0 0] 72)
    rw [show ((w.alloc (.cells #[.string ⟨#[105]⟩, .string ⟨#[97]⟩, .bool false] 23)).alloc (.cells #[.int .i64 2, .int .i64 1, .string ⟨#[]⟩, .slice none 0 0, .slice none 0 0] 40)).heap.size = w.heap.size + 1 + 1 by simp] at h
    exact h
  have hcall := ikey_any ⟨#[105]⟩ false [97] [[97]] (path_five 0 (by omega)) _ (by simp [smallV, smallFs, smallF]) _ W1 _ (obj_one 97 W1 (P0 + 1 + 1) hk2) (fun b hb => by rw [hb]; exact hk2.lt) (HI.out.errv.later hb1) (HI.out.tabs.below hb1) (HI.out.ml.later hb1) (fun x hx => by
    rw [show findP placeK (.obj [([97], .int 1)]) [[97]] = some (.int 1) from rfl] at hx
    rw [← Option.some.inj hx]; decide)
  rw [show findP placeK (.obj [([97], .int 1)]) [[97]] = some (.int 1) from rfl] at hcall
  have H1 := Lib.hid (And.intro hb1 (And.intro hk0 (And.intro hk1 hcall)))
  rw [hW1, hP0]
  clear hb1 hk0 hk1 hk2 hcall hW1
  refine (show Calls _ _ _ _ (fun e w' => e = .returned (.tuple #[.string (BA (keyL (.int 1))), .bool true]) ∧ Below W1.heap.size W1 w') from H1.out.2.2.2).mono ?_
  rintro e w2 ⟨rfl, hb2⟩
  have HP := Lib.hid hP0
  have H2 := Lib.hid (And.intro (H1.out.1.trans (hb2.mono H1.out.1.size)) (And.intro (H1.out.2.1.below hb2) (H1.out.2.2.1.below hb2)))
  clear hb2 hP0
  have c0 := H2.out.2.1.cell 0
  have c1 := H2.out.2.1.cell 1
  have c2 := H2.out.2.1.cell 2
  have d0 := H2.out.2.2.cell 0
  have d1 := H2.out.2.2.cell 1
  have d2 := H2.out.2.2.cell 2
  have d3 := H2.out.2.2.cell 3
  have d4 := H2.out.2.2.cell 4
  go_wp2_with fail
  obtain ⟨W3, hW3⟩ : ∃ W, w2.alloc (.cells #[.string ⟨#[98]⟩, .int .i64 2, .int .i64 1, .string ⟨#[]⟩, .slice none 0 0, .slice none 0 0] 72) = W := ⟨_, rfl⟩
  have hb3 : Below w2.heap.size w2 W3 := by rw [← hW3]; exact (Below.refl _ w2).alloc (Nat.le_refl _) _
  have hk3 : Blk W3 w2.heap.size 72 [.string ⟨#[98]⟩, .int .i64 2, .int .i64 1, .string ⟨#[]⟩, .slice none 0 0, .slice none 0 0] := by rw [← hW3]; exact heap_alloc_new w2 _
  have hbw3 := H2.out.1.trans (hb3.mono H2.out.1.size)
  have hcall := ikey_any ⟨#[105]⟩ false [97] [[97]] (path_five 0 (by omega)) _ (by simp [smallV, smallFs, smallF]) _ W3 _ (obj_one 98 W3 w2.heap.size hk3) (fun b hb => by rw [hb]; exact hk3.lt) (HI.out.errv.later hbw3) (HI.out.tabs.below hbw3) (HI.out.ml.later hbw3) (fun x hx => by
    rw [show findP placeK (.obj [([98], .int 1)]) [[97]] = none from rfl] at hx
    cases hx)
  rw [show findP placeK (.obj [([98], .int 1)]) [[97]] = none from rfl] at hcall
  have H3 := Lib.hid (And.intro hbw3 (And.intro (H2.out.2.1.below hb3) (And.intro (H2.out.2.2.below hb3) hcall)))
  rw [hW3]
  clear hb3 hk3 hbw3 hcall hW3 c0 c1 c2 d0 d1 d2 d3 d4
  refine (show Calls _ _ _ _ (fun e w' => e = .returned (.tuple #[.string ⟨#[]⟩, .bool false]) ∧ Below W3.heap.size W3 w') from H3.out.2.2.2).mono ?_
  rintro e w4 ⟨rfl, hb4⟩
  have H4 := Lib.hid (And.intro (H3.out.1.trans (hb4.mono H3.out.1.size)) (And.intro (H3.out.2.1.below hb4) (H3.out.2.2.1.below hb4)))
  clear hb4
  go_wp2_with fail
  refine (check_name [65] ⟨#[97]⟩ false w4 (by decide) (.inl (by decide))).mono ?_
  rintro e w5 ⟨v, rfl, hv, hb5⟩
  obtain ⟨tt, uu, rfl⟩ := hv.ne_nil
  have H5 := Lib.hid (And.intro (H4.out.1.trans (hb5.mono H4.out.1.size)) (And.intro (H4.out.2.1.below hb5) (And.intro (H4.out.2.2.below hb5) hv)))
  clear hb5 hv
  have c0 := H5.out.2.1.cell 0
  have c1 := H5.out.2.1.cell 1
  have c2 := H5.out.2.1.cell 2
  have d0 := H5.out.2.2.1.cell 0
  have d1 := H5.out.2.2.1.cell 1
  have d2 := H5.out.2.2.1.cell 2
  have d3 := H5.out.2.2.1.cell 3
  have d4 := H5.out.2.2.1.cell 4
  go_wp2_with fail
  refine (show Calls _ _ _ _ _ from lput_v (.int 1) (fun _ => True) w5 _ (.int 1 (by decide)) (HI.out.ml.later H5.out.1) (by decide)).mono ?_
  rintro e w6 ⟨rfl, hb6⟩
  have H6 := Lib.hid (And.intro (H5.out.1.trans (hb6.mono H5.out.1.size)) (And.intro (H5.out.2.1.below hb6) (H5.out.2.2.2.below hb6)))
  clear hb6 c0 c1 c2 d0 d1 d2 d3 d4
  have c0 := H6.out.2.1.cell 0
  have c1 := H6.out.2.1.cell 1
  have c2 := H6.out.2.1.cell 2
  go_wp2_with fail
  refine (check_nil [105] ⟨#[97]⟩ false w6 (by decide) good_i (fun W hb => (parse_any [97] [[97]] (path_five 0 (by omega)) W (HI.out.tabs.below (H6.out.1.trans (hb.mono H6.out.1.size))) (HI.out.ml.later (H6.out.1.trans (hb.mono H6.out.1.size)))).mono fun e w' h => by
    obtain ⟨sl, h1, _, h2⟩ := h
    exact ⟨sl, h1, h2⟩)).mono ?_
  rintro e w7 ⟨rfl, hb7⟩
  have H7 := Lib.hid (And.intro (H6.out.1.trans (hb7.mono H6.out.1.size)) (H6.out.2.2.below hb7))
  clear hb7 c0 c1 c2
  go_wp2_with fail
  refine (code_chain 1 _ 5 w7 H7.out.2 (HI.out.errt.below H7.out.1)).mono ?_
  rintro e w8 ⟨rfl, hb8⟩
  have H8 := Lib.hid (H7.out.1.trans (hb8.mono H7.out.1.size))
  clear hb8
  go_wp2
  go_ret
  exact ⟨rfl, H8.out⟩
end Go.Proofs.YtecnjifincahaaaGreatDoor
