/- TextQuote: the law's walk. -/
import Derived.Test.YthlioinmeimhoaaDoorTxL
namespace Go.Proofs.YthlioinmeimhoaaDoor
open Go.Shelf Go.RowKit Go.Lib

/-- a text's first 400 bytes. -/
def cut4 (s : ByteArray) : ByteArray := s.extract 0 (min (s.size : Int) 400).toNat
theorem cut4_size (s : ByteArray) : (cut4 s).size ≤ 400 := by unfold cut4; rw [ByteArray.size_extract]; omega

set_option maxHeartbeats 2000000 in
set_option maxRecDepth 100000 in
theorem tquote_law (s : ByteArray) (w : World) (hT : Tabs w) (hg : ErrT w) :
    Calls Tryd.prog 9 #[.string s] w fun e w' => e = .returned (.bool true) ∧ Below w.heap.size w w' := by
  have HT := Lib.hid (And.intro hT hg)
  clear hT hg
  obtain ⟨X, hX⟩ : ∃ X, s.extract 0 (min (s.size : Int) 400).toNat = X := ⟨_, rfl⟩
  have hXs : X.size ≤ 400 := by rw [← hX]; exact cut4_size s
  go_enter Tryd.func9, Tryd.ntmps9
  go_wp2_with fail
  refine (tawake_any _ HT.out.1 HT.out.2).mono ?_
  rintro e w1 ⟨rfl, hb1⟩
  have H1 := Lib.hid hb1
  clear hb1
  go_wp2_with fail
  refine (quote_any X _ (by omega) (HT.out.1.below H1.out)).mono ?_
  rintro e w2 ⟨rfl, hb2⟩
  have H2 := Lib.hid (H1.out.trans (hb2.mono H1.out.size))
  clear hb2
  go_wp2_with fail
  refine (put_any X _ (by omega)).mono ?_
  rintro e w3 ⟨rfl, hb3⟩
  have H3 := Lib.hid (H2.out.trans (hb3.mono H2.out.size))
  clear hb3
  go_wp2
  go_ret

  exact ⟨rfl, H3.out⟩
end Go.Proofs.YthlioinmeimhoaaDoor
