/- value.Valid at any value. -/
import Derived.Test.YthlioinmeimhoaaDoorKgK
namespace Go.Proofs.YthlioinmeimhoaaDoor
open Go.Shelf Go.RowKit Go.Lib

set_option maxHeartbeats 8000000 in
set_option maxRecDepth 100000 in
theorem vvalid_list (l : List V) (cs : List Value) (sl : Value) (S : Nat → Prop) (w : World) (hV : VsAt S w l cs) (hrow : RowAt S w sl l.length cs) (hT : Tabs w) (hlen : (keysL l).length ≤ 1000000) (ih : ∀ x ∈ l, ValidH x) :
    ValidC w (.list l) [.int .i64 4, .int .i64 0, .string ⟨#[]⟩, sl, .slice none 0 0] := by
  unfold ValidC
  rw [validV]
  obtain ⟨p, cap, rfl, hcell⟩ : ∃ p cap, sl = .slice p l.length cap ∧ (0 < l.length → ∃ b, p = some ⟨b, 0, none⟩ ∧ ∀ k u, cs[k]? = some u → w.cell? ⟨b, k, none⟩ = some u) := by
    rcases hrow.2 with ⟨h0, rfl⟩ | ⟨b, cap, rfl, _, hc⟩
    · exact ⟨none, 0, by rw [h0], fun h => by omega⟩
    · exact ⟨_, _, rfl, fun _ => ⟨b, rfl, hc⟩⟩
  have hbr := Lib.hid (fun (W : World) => bare_v (VAt.list l cs _ hV hrow) W)
  have hN : l.length ≤ 1000000 := Nat.le_trans (keysL_long l) hlen
  obtain ⟨N1, hN1⟩ : ∃ n, l.length = n := ⟨_, rfl⟩
  rw [hN1] at hbr hN ⊢
  have HT := Lib.hid hT
  have HV := Lib.hid (And.intro hV (And.intro hcell (And.intro hlen (And.intro ih hN1))))
  clear hT hV hrow hcell hlen ih hN1
  obtain ⟨W, hW⟩ : ∃ W, w.alloc (.cells #[.int .i64 4, .int .i64 0, .string ⟨#[]⟩, .slice p N1 cap, .slice none 0 0] 28) = W := ⟨_, rfl⟩
  have hblk : Blk W w.heap.size 28 [.int .i64 4, .int .i64 0, .string ⟨#[]⟩, .slice p N1 cap, .slice none 0 0] := by rw [← hW]; exact heap_alloc_new w _
  have hbW : Below w.heap.size w W := by rw [← hW]; exact (Below.refl _ w).alloc (Nat.le_refl _) _
  have H0 := Lib.hid (And.intro hW (And.intro hblk hbW))
  clear hblk hbW hW
  go_enter Tryd.func23, Tryd.ntmps23
  go_wp2_with fail
  refine (hbr.out _).mono ?_
  rintro e w2 ⟨rfl, hb2⟩
  rw [H0.out.1] at hb2
  have hk2 := H0.out.2.1.below hb2
  have H2 := Lib.hid (And.intro hk2 (H0.out.2.2.trans (hb2.mono H0.out.2.2.size)))
  have c0 := hk2.cell 0
  have c1 := hk2.cell 1
  have c2 := hk2.cell 2
  have c3 := hk2.cell 3
  have c4 := hk2.cell 4
  clear hk2 hb2
  go_wp2_with fail
  clear c0 c1 c2 c3 c4
  go_loopg [21] N1 (fun gk iv wr => ∃ i : Nat, gk + i = N1 ∧ iv = .int .i64 i ∧ Hid (validVs l = validVs (l.drop i)) ∧ Hid (Below w2.heap.size w2 wr))
  case atStart => exact ⟨0, Nat.add_zero _, rfl, Lib.hid rfl, Lib.hid (Below.refl _ _)⟩
  case round =>
    obtain ⟨i, hg, rfl, HC, HB⟩ := hrel
    by_cases hi : i < N1
    · have hiz : (i : Int) < (N1 : Int) := by omega
      have hwK : IntKind.i64.wrap ((i : Int) + 1) = ((i + 1 : Nat) : Int) := by rw [IntWalk.i64_in _ (by omega)]; omega
      have hx1 : i < l.length := by rw [HV.out.2.2.2.2]; exact hi
      obtain ⟨b, hpe, hr⟩ := HV.out.2.1 (by omega)
      subst hpe
      have hbw : Below w.heap.size w wr := H2.out.2.trans (HB.out.mono H2.out.2.size)
      obtain ⟨d0, d1, d2, d3, d4, hx, e0, e1, e2, e3, e4⟩ := HV.out.1.get i hx1
      obtain ⟨q0, q1, q2, q3, q4, q5, q6, q7, q8, hq⟩ := hx.shape
      simp only [List.cons.injEq, and_true] at hq
      obtain ⟨rfl, rfl, rfl, rfl, rfl⟩ := hq
      have a0 := bcell hbw (hr _ _ e0)
      have a1 := bcell hbw (hr _ _ e1)
      have a2 := bcell hbw (hr _ _ e2)
      have a3 := bcell hbw (hr _ _ e3)
      have a4 := bcell hbw (hr _ _ e4)
      obtain ⟨vv, hvv⟩ : ∃ v, validV l[i] = v := ⟨_, rfl⟩
      have hdrop := vs_drop l i hx1
      rw [hvv] at hdrop
      have HF := Lib.hid (HC.out.trans hdrop)
      obtain ⟨W3, hW3⟩ : ∃ W, wr.alloc (.cells #[.int .i64 q0, .int .i64 q1, .string q2, .slice q3 q4 q5, .slice q6 q7 q8] 28) = W := ⟨_, rfl⟩
      have hb13 : Below wr.heap.size wr W3 := by rw [← hW3]; exact (Below.refl _ wr).alloc (Nat.le_refl _) _
      have hbw3 : Below w.heap.size w W3 := hbw.trans (hb13.mono hbw.size)
      have hc := HV.out.2.2.2.1 l[i] (List.getElem_mem hx1) S W3 _ (hx.later hbw3) (HT.out.below hbw3) (by have := key_mem (List.getElem_mem hx1); have := HV.out.2.2.1; omega)
      unfold ValidC at hc
      rw [hvv] at hc
      have HX := Lib.hid (And.intro hc (And.intro (HB.out.trans (hb13.mono HB.out.size)) hW3))
      clear hx e0 e1 e2 e3 e4 hr hvv hdrop hc hb13 hbw3 hbw hW3
      go_wp2_with fail
      rw [HX.out.2.2]
      refine HX.out.1.mono ?_
      rintro e w4 ⟨rfl, hb4⟩
      have HB4 := Lib.hid (HX.out.2.1.trans (hb4.mono HX.out.2.1.size))
      clear hb4 a0 a1 a2 a3 a4
      cases vv with
      | false =>
        go_wp2
        go_ret
        exact ⟨by rw [HF.out]; try rfl, H2.out.2.trans (HB4.out.mono H2.out.2.size)⟩
      | true =>
        go_wp2
        go_roundg (gk - 1)
        case rel => exact ⟨i + 1, by omega, rfl, Lib.hid (HF.out.trans (by simp)), HB4⟩
        case measure => omega
    · have hiz : ¬ (i : Int) < (N1 : Int) := by omega
      have HF := Lib.hid (show validVs l = true by rw [HC.out, List.drop_eq_nil_of_le (by rw [HV.out.2.2.2.2]; omega), validVs])
      have hk2 := H2.out.1.below HB.out
      have c0 := hk2.cell 0
      have c1 := hk2.cell 1
      have c2 := hk2.cell 2
      have c4 := hk2.cell 4
      have hbw := H2.out.2.trans (HB.out.mono H2.out.2.size)
      have HK := Lib.hid (And.intro hk2 hbw)
      clear hk2 hbw
      go_wp2_with fail
      refine (valid_any ⟨#[]⟩ _ (by decide) (HT.out.below HK.out.2)).mono ?_
      rintro e w3 ⟨rfl, hb3⟩
      rw [show (⟨#[]⟩ : ByteArray).data.toList = [] from rfl, valid_nil]
      have hk3 := HK.out.1.below hb3
      have H3 := Lib.hid (And.intro hk3 (HK.out.2.trans (hb3.mono HK.out.2.size)))
      clear c0 c1 c2 c4
      have c0 := hk3.cell 0
      have c1 := hk3.cell 1
      have c4 := hk3.cell 4
      clear hk3 hb3
      go_wp2_with fail
      refine (rises_none _).mono ?_
      rintro e w4 ⟨rfl, hb4⟩
      have hk4 := H3.out.1.below hb4
      have H4 := Lib.hid (H3.out.2.trans (hb4.mono H3.out.2.size))
      clear c0 c1 c4
      have c0 := hk4.cell 0
      have c1 := hk4.cell 1
      clear hk4 hb4
      go_wp2
      go_ret
      exact ⟨by rw [HF.out]; try rfl, H4.out⟩

set_option maxHeartbeats 8000000 in
set_option maxRecDepth 100000 in
theorem vvalid_obj (l : List (BL × V)) (cs : List Value) (sl : Value) (S : Nat → Prop) (w : World) (hV : FsAt S w l cs) (hrow : RowAt S w sl l.length cs) (hT : Tabs w) (hlen : (fieldsL l).length ≤ 1000000) (ih : ∀ x ∈ l, ValidH x.2) :
    ValidC w (.obj l) [.int .i64 5, .int .i64 0, .string ⟨#[]⟩, .slice none 0 0, sl] := by
  unfold ValidC
  rw [validV]
  have hris : ∀ (W : World), Below w.heap.size w W → Calls Tryd.prog 47 #[sl] W fun e w' => e = .returned (.bool (risesL none l)) ∧ Below W.heap.size W w' := by
    intro W hb
    rcases hrow.2 with ⟨h0, rfl⟩ | ⟨b, cap, rfl, _, hc⟩
    · obtain rfl : l = [] := List.eq_nil_of_length_eq_zero h0
      rw [risesL]
      exact rises_none W
    · exact rises_any l cs b cap S W (hV.later hb) (fun k u hu => bcell hb (hc k u hu)) (hT.below hb) hlen (Nat.le_trans (fieldsL_long l) hlen) ih
  obtain ⟨p, cap, rfl⟩ : ∃ p cap, sl = .slice p l.length cap := by
    rcases hrow.2 with ⟨h0, rfl⟩ | ⟨b, cap, rfl, _, hc⟩
    · exact ⟨none, 0, by rw [h0]⟩
    · exact ⟨_, _, rfl⟩
  have hbr := Lib.hid (fun (W : World) => bare_v (VAt.obj l cs _ hV hrow) W)
  obtain ⟨N1, hN1⟩ : ∃ n, l.length = n := ⟨_, rfl⟩
  rw [hN1] at hbr hris ⊢
  have HT := Lib.hid hT
  have HR := Lib.hid hris
  clear hT hV hrow hlen ih hN1 hris
  obtain ⟨W, hW⟩ : ∃ W, w.alloc (.cells #[.int .i64 5, .int .i64 0, .string ⟨#[]⟩, .slice none 0 0, .slice p N1 cap] 28) = W := ⟨_, rfl⟩
  have hblk : Blk W w.heap.size 28 [.int .i64 5, .int .i64 0, .string ⟨#[]⟩, .slice none 0 0, .slice p N1 cap] := by rw [← hW]; exact heap_alloc_new w _
  have hbW : Below w.heap.size w W := by rw [← hW]; exact (Below.refl _ w).alloc (Nat.le_refl _) _
  have H0 := Lib.hid (And.intro hW (And.intro hblk hbW))
  clear hblk hbW hW
  go_enter Tryd.func23, Tryd.ntmps23
  go_wp2_with fail
  refine (hbr.out _).mono ?_
  rintro e w2 ⟨rfl, hb2⟩
  rw [H0.out.1] at hb2
  have hk2 := H0.out.2.1.below hb2
  have H2 := Lib.hid (And.intro hk2 (H0.out.2.2.trans (hb2.mono H0.out.2.2.size)))
  have c0 := hk2.cell 0
  have c1 := hk2.cell 1
  have c2 := hk2.cell 2
  have c3 := hk2.cell 3
  have c4 := hk2.cell 4
  clear hk2 hb2
  go_wp2
  refine wp_loop_rounds 1 ?_
  rw [rounds_succ]
  go_wp2_with fail
  refine (valid_any ⟨#[]⟩ _ (by decide) (HT.out.below H2.out.2)).mono ?_
  rintro e w3 ⟨rfl, hb3⟩
  rw [show (⟨#[]⟩ : ByteArray).data.toList = [] from rfl, valid_nil]
  have hk3 := H2.out.1.below hb3
  have H3 := Lib.hid (And.intro hk3 (H2.out.2.trans (hb3.mono H2.out.2.size)))
  clear c0 c1 c2 c3 c4
  have c0 := hk3.cell 0
  have c1 := hk3.cell 1
  have c4 := hk3.cell 4
  clear hk3 hb3
  go_wp2_with fail
  refine (HR.out _ H3.out.2).mono ?_
  rintro e w4 ⟨rfl, hb4⟩
  have hk4 := H3.out.1.below hb4
  have H4 := Lib.hid (H3.out.2.trans (hb4.mono H3.out.2.size))
  clear c0 c1 c4
  have c0 := hk4.cell 0
  have c1 := hk4.cell 1
  clear hk4 hb4
  obtain ⟨vv, hvv⟩ : ∃ v, risesL none l = v := ⟨_, rfl⟩
  have HVV := Lib.hid hvv
  rw [hvv]
  clear hvv
  cases vv with
  | false =>
    go_wp2
    go_ret
    exact ⟨by rw [HVV.out]; try rfl, H4.out⟩
  | true =>
    go_wp2
    go_ret
    exact ⟨by rw [HVV.out]; try rfl, H4.out⟩

/-- value.Valid tells of any value whether it may be. -/
theorem vvalid_any (v : V) : ValidH v := by
  refine V_kids ?_ ?_ ?_ ?_ ?_ ?_ v
  · intro l ih S w c hv hT hlen
    cases hv with
    | list l cs sl h hr => exact vvalid_list l cs sl S w h hr hT (by unfold keyL at hlen; simp at hlen; omega) ih
  · intro l ih S w c hv hT hlen
    cases hv with
    | obj l cs sl h hr => exact vvalid_obj l cs sl S w h hr hT (by unfold keyL at hlen; simp at hlen; omega) ih
  · intro S w c hv hT hlen
    cases hv
    exact vvalid_null w hT
  · intro n S w c hv hT hlen
    cases hv with
    | bool n hn => exact vvalid_bool n hn w hT
  · intro n S w c hv hT hlen
    cases hv with
    | int n hn => exact vvalid_int n hn w hT
  · intro s S w c hv hT hlen
    cases hv with
    | text s =>
      refine vvalid_text s ?_ w hT
      unfold keyL at hlen
      have := (escK_le s).1
      simp [writtenK] at hlen
      omega
end Go.Proofs.YthlioinmeimhoaaDoor
