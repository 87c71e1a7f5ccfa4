/- TextShort: the law's walk. -/
import Derived.Test.YthlioinmeimhoaaDoorTxQ
import Derived.Test.YthlioinmeimhoaaDoorTxR
namespace Go.Proofs.YthlioinmeimhoaaDoor
open Go.Shelf Go.RowKit Go.Lib

theorem quoteL_len (l : BL) : 2 ≤ (quoteL l).length ∧ (quoteL l).length ≤ 6 * l.length + 2 := by
  have := chunks_length l
  unfold quoteL
  rw [List.length_cons, List.length_append, List.length_singleton]
  omega

set_option maxHeartbeats 2000000 in
set_option maxRecDepth 100000 in
theorem tshort_law (s : ByteArray) (cut : Int) (w : World) (h0 : 0 ≤ cut) (h1 : cut ≤ 65535) (hT : Tabs w) (hg : ErrT w) :
    Calls Tryd.prog 12 #[.string s, .int .u16 cut] w fun e w' => e = .returned (.bool true) ∧ Below w.heap.size w w' := by
  have HT := Lib.hid (And.intro hT hg)
  clear hT hg
  obtain ⟨X, hX⟩ : ∃ X, s.extract 0 (min (s.size : Int) 400).toNat = X := ⟨_, rfl⟩
  have hXs : X.size ≤ 400 := by rw [← hX]; exact cut4_size s
  obtain ⟨c, rfl⟩ : ∃ c : Nat, cut = c := ⟨cut.toNat, by omega⟩
  have hwr : IntKind.i64.wrap (c : Int) = (c : Int) := IntWalk.i64_in _ (by omega)
  have hql := quoteL_len X.data.toList
  rw [← size_eq] at hql
  obtain ⟨Q, hQ⟩ : ∃ Q, BA (quoteL X.data.toList) = Q := ⟨_, rfl⟩
  have hQL : Q.data.toList = quoteL X.data.toList := by rw [← hQ]
  have hQs : Q.size = (quoteL X.data.toList).length := by rw [size_eq, hQL]
  rw [← hQs] at hql
  have hcut : readL (Q.extract 0 (c % Q.size)).data.toList = none := by
    have hm : c % Q.size < Q.size := Nat.mod_lt _ (by omega)
    have := short_read X.data.toList (c % Q.size) (by rw [← hQs]; exact hm)
    rw [extract_data, List.drop_zero, hQL, Nat.sub_zero]
    exact this
  have hm : c % Q.size < Q.size := Nat.mod_lt _ (by omega)
  have H0 := Lib.hid (And.intro hcut (And.intro hQL (And.intro hQs hql)))
  have hq2 : ¬ (Q.size : Int) < 2 := by omega
  have hq0 : ¬ (Q.size : Int) = 0 := by omega
  have hq0' : ((Q.size : Int) == 0) = false := beq_eq_false_iff_ne.2 hq0
  have hQn : ¬ Q.size = 0 := by omega
  clear hcut hQL hQs h0 h1
  go_enter Tryd.func12, Tryd.ntmps12
  go_wp2_with fail
  refine (tawake_any _ HT.out.1 HT.out.2).mono ?_
  rintro e w1 ⟨rfl, hb1⟩
  have H1 := Lib.hid hb1
  clear hb1
  go_wp2_with fail
  refine (quote_any X _ (by omega) (HT.out.1.below H1.out)).mono ?_
  rintro e w2 ⟨rfl, hb2⟩
  rw [hQ]
  have H2 := Lib.hid (H1.out.trans (hb2.mono H1.out.size))
  clear hb2 hQ
  go_wp2_with fail
  refine (unquote_any (Q.extract 0 (c % Q.size)) _ (by rw [ByteArray.size_extract]; have := H0.out.2.2.2; omega) (HT.out.1.below H2.out)).mono ?_
  rintro e w3 ⟨hU, hb3⟩
  unfold Unq at hU
  rw [H0.out.1] at hU
  obtain ⟨v, rfl, hc⟩ := hU
  have H3 := Lib.hid (And.intro hc (H2.out.trans (hb3.mono H2.out.size)))
  clear hb3 hc
  go_wp2_with fail
  refine (code_chain 1 v 1 _ H3.out.1 (HT.out.2.below H3.out.2)).mono ?_
  rintro e w4 ⟨rfl, hb4⟩
  have H4 := Lib.hid (H3.out.2.trans (hb4.mono H3.out.2.size))
  clear hb4
  go_wp2
  go_ret
  exact ⟨rfl, H4.out⟩
end Go.Proofs.YthlioinmeimhoaaDoor
