/- text.Valid; the law's examples. -/
import Derived.Test.YthlioinmeimhoaaDoorTxK
namespace Go.Proofs.YthlioinmeimhoaaDoor
open Go.Shelf Go.RowKit Go.Lib

set_option maxRecDepth 100000 in
theorem valid_any (s : ByteArray) (w : World) (hs : s.size ≤ 1099511627776) (hT : Tabs w) :
    Calls Tryd.prog 33 #[.string s] w fun e w' => e = .returned (.bool (Lib.validD s.data.toList)) ∧ Below w.heap.size w w' := by
  have c := Tryd.utf8_ValidString s w (by omega) hT
  clear hT
  go_enter Tryd.func33, Tryd.ntmps33
  go_wp2_with fail
  refine c.mono ?_
  rintro e w1 ⟨rfl, hb1⟩
  have HB := Lib.hid hb1
  clear hb1 c
  go_wp2
  go_ret
  exact ⟨rfl, HB.out⟩

theorem ex1 : readL [34, 97, 92, 117, 48, 48, 52, 49, 34, 98] = some ([97, 65], 9) := by decide +kernel
theorem ex2 : readL [34, 97] = none := by decide +kernel
theorem ex3 : quoteL [10] = [34, 92, 110, 34] := by decide +kernel
theorem ex4 : Lib.validD [97] = true := by decide +kernel

set_option maxHeartbeats 2000000 in
set_option maxRecDepth 100000 in
theorem tawake_any (w : World) (hT : Tabs w) (hg : ErrT w) :
    Calls Tryd.prog 26 #[] w fun e w' => e = .returned (.bool true) ∧ Below w.heap.size w w' := by
  have HT := Lib.hid (And.intro hT hg)
  clear hT hg
  go_enter Tryd.func26, Tryd.ntmps26
  go_wp2_with fail
  refine (unquote_any ⟨#[34, 97, 92, 117, 48, 48, 52, 49, 34, 98]⟩ _ (by decide) HT.out.1).mono ?_
  rintro e w1 ⟨hU, hb1⟩
  unfold Unq at hU
  rw [show (⟨#[34, 97, 92, 117, 48, 48, 52, 49, 34, 98]⟩ : ByteArray).data.toList = [34, 97, 92, 117, 48, 48, 52, 49, 34, 98] from rfl, ex1] at hU
  obtain rfl := hU
  have H1 := Lib.hid hb1
  clear hb1
  go_wp2_with fail
  refine (unquote_any ⟨#[34, 97]⟩ _ (by decide) (HT.out.1.below H1.out)).mono ?_
  rintro e w2 ⟨hU, hb2⟩
  unfold Unq at hU
  rw [show (⟨#[34, 97]⟩ : ByteArray).data.toList = [34, 97] from rfl, ex2] at hU
  obtain ⟨v, rfl, hc⟩ := hU
  have H2 := Lib.hid (And.intro hc (H1.out.trans (hb2.mono H1.out.size)))
  clear hb2 hc
  go_wp2_with fail
  refine (code_chain 1 v 1 _ H2.out.1 (HT.out.2.below H2.out.2)).mono ?_
  rintro e w3 ⟨rfl, hb3⟩
  have H3 := Lib.hid (H2.out.2.trans (hb3.mono H2.out.2.size))
  clear hb3
  go_wp2_with fail
  refine (quote_any ⟨#[10]⟩ _ (by decide) (HT.out.1.below H3.out)).mono ?_
  rintro e w4 ⟨rfl, hb4⟩
  rw [show (⟨#[10]⟩ : ByteArray).data.toList = [10] from rfl, ex3]
  have H4 := Lib.hid (H3.out.trans (hb4.mono H3.out.size))
  clear hb4
  go_wp2_with fail
  refine (valid_any ⟨#[97]⟩ _ (by decide) (HT.out.1.below H4.out)).mono ?_
  rintro e w5 ⟨rfl, hb5⟩
  rw [show (⟨#[97]⟩ : ByteArray).data.toList = [97] from rfl, ex4]
  have H5 := Lib.hid (H4.out.trans (hb5.mono H4.out.size))
  clear hb5
  go_wp2
  go_ret
  exact ⟨rfl, H5.out⟩
end Go.Proofs.YthlioinmeimhoaaDoor
