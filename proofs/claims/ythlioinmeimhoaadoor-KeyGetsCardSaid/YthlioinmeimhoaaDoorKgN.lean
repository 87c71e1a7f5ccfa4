/- The key reader's value: lists and objects; at any bytes and any depth (printed by wip/gen_kgm.py). -/
import Derived.Test.YthlioinmeimhoaaDoorKgM
namespace Go.Proofs.YthlioinmeimhoaaDoor
open Go.Shelf Go.RowKit Go.Lib

set_option maxHeartbeats 8000000 in
set_option maxRecDepth 100000 in
theorem rv_list (n : Nat) (w : World) (rb : Nat) (t : BL) (hR : RS w rb (some (5 :: t))) (hn : n ≤ 15) (hs : t.length ≤ 1000000) (hone : ∀ (P N : Nat) (d : Int) (l : List V) (s : BL) (W : World), d = 16 - (n : Int) → n ≠ 0 → ListGood w rb P N d l W → RS W rb (some s) → l.length + s.length ≤ 1000000 → Calls Tryd.prog 64 #[.pointer (some ⟨N, 0, none⟩), .pointer (some ⟨P, 0, none⟩), .pointer (some ⟨P + 1, 0, none⟩)] W (OneList w rb P N d l (recL n s))) :
    Calls Tryd.prog 44 #[.pointer (some ⟨rb, 0, none⟩), .int .i64 (16 - (n : Int))] w (ValPost w rb ((rlistL (recL n) (t.length + 1) t).map fun p => (.list p.1, p.2))) := by
  obtain ⟨d, hd⟩ : ∃ d, 16 - (n : Int) = d := ⟨_, rfl⟩
  rw [hd]
  have HO := Lib.hid (And.intro hone (And.intro hd (And.intro hn hs)))
  clear hone hd hn hs
  obtain ⟨W, hW⟩ : ∃ W, (((w.alloc (.cells #[.pointer (some ⟨rb, 0, none⟩)] 76)).alloc (.cells #[.int .i64 d] 3)).alloc (.cells #[.int .i64 0, .int .i64 0, .string ⟨#[]⟩, .slice none 0 0, .slice none 0 0] 28)) = W := ⟨_, rfl⟩
  obtain ⟨P, hP⟩ : ∃ P, w.heap.size = P := ⟨_, rfl⟩
  have hl := hR.lt
  obtain ⟨b0, b1, b2, hb, hs3⟩ := rboxes hl hW.symm
  have hRW := hR.below hb
  have hC : Calls Tryd.prog 60 #[.pointer (some ⟨rb, 0, none⟩), .int .i64 (1 : Nat)] W fun e w' => e = .returned (.string (BA [5])) ∧ RS w' rb (some t) ∧ Only (fun k => k = rb) W w' := take_some rb 1 (5 :: t) W hRW (by simp)
  have c0 := b0.cell 0
  rw [hP] at c0
  have H := Lib.hid (And.intro hC (And.intro hW (And.intro hR hP)))
  clear hC hR b0 b1 b2 hb hs3 hRW hl
  go_enter Tryd.func44, Tryd.ntmps44
  go_wp2_with fail
  (try rw [hW])
  (try rw [hP])
  refine H.out.1.mono ?_
  rintro e W2 ⟨rfl, hr2, ho2⟩
  have hS := VStart.of H.out.2.2.2 H.out.2.2.1 H.out.2.1.symm hr2 ho2
  clear hr2 ho2 c0 hW
  have q0 : ∀ hh, (BA [5])[0]'hh = 5 := fun _ => rfl
  have q1 : (BA [5]).size = 1 := rfl
  have q2 : (BA [5]).toList.isEmpty = false := by decide +kernel
  have hp := hS.ptr.cell 0
  have he := hS.deep.cell 0
  have hS3 := hS.alloc (.cells #[.int .i64 4, .int .i64 0, .string ⟨#[]⟩, .slice none 0 0, .slice none 0 0] 28)
  have hN3 : Blk (W2.alloc (.cells #[.int .i64 4, .int .i64 0, .string ⟨#[]⟩, .slice none 0 0, .slice none 0 0] 28)) W2.heap.size 28 [.int .i64 4, .int .i64 0, .string ⟨#[]⟩, .slice none 0 0, .slice none 0 0] := heap_alloc_new W2 _
  have p3 := hS3.ptr.cell 0
  have e3 := hS3.deep.cell 0
  have hbig := hS.big
  have hrb := hS.rlt
  obtain ⟨N, hN⟩ : ∃ N, W2.heap.size = N := ⟨_, rfl⟩
  rw [hN] at hN3 hbig
  have hlt3 := hN3.lt
  have hsz := hS.size
  have H3 := Lib.hid (And.intro hS3 (And.intro hN3 (And.intro hbig (And.intro hrb (And.intro hlt3 hsz)))))
  clear hS hS3 hN3 hbig hrb hlt3 hsz
  go_wp2_with fail
  generalize hW3 : W2.alloc (.cells #[.int .i64 4, .int .i64 0, .string ⟨#[]⟩, .slice none 0 0, .slice none 0 0] 28) = W3 at H3 p3 e3 ⊢
  (try simp only [hN] at H3 ⊢)
  clear hW3 hN
  have hG : ListGood w rb P N d [] W3 := ⟨⟨H3.out.2.2.2.2.2, H3.out.2.2.2.1, H3.out.2.2.1, H3.out.2.2.2.2.1, H3.out.1.ptr, H3.out.1.deep, H3.out.1.res, H3.out.1.only⟩, .slice none 0 0, [], H3.out.2.1, ⟨by simp, .inl ⟨rfl, rfl⟩⟩, .nil⟩
  have hC := many_list n HO.out.2.2.1 w W3 rb P N d t HO.out.2.1.symm hG H3.out.1.rs HO.out.2.2.2 (fun l s W hn0 hG2 hR2 hl => HO.out.1 P N d l s W HO.out.2.1.symm hn0 hG2 hR2 hl)
  refine hC.mono ?_
  rintro e w4 ⟨rfl, hm⟩
  clear hC hG
  have hNR1 : ¬ N = P + 1 + 1 := by have := H3.out.2.2.1; omega
  have hNR2 : ¬ P + 1 + 1 = N := by omega
  have hNrb : ¬ N = rb := by have := H3.out.2.2.1; have := H3.out.2.2.2.1; omega
  obtain ⟨hx, p1, l1, c1, hN4, hM⟩ : (∃ o4, VStart w rb P d o4 w4) ∧ ∃ p1 l1 c1, Blk w4 N 28 [.int .i64 4, .int .i64 0, .string ⟨#[]⟩, .slice p1 l1 c1, .slice none 0 0] ∧ MRes (fun b => N < b ∧ b < w4.heap.size) w4 rb ((rlistL (recL n) (t.length + 1) t).map fun p => (.list p.1, p.2)) [.int .i64 4, .int .i64 0, .string ⟨#[]⟩, .slice p1 l1 c1, .slice none 0 0] := by
    cases hres : rlistL (recL n) (t.length + 1) t with
    | none =>
      rw [hres] at hm
      obtain ⟨⟨hv, p1, l1, c1, hB⟩, hr⟩ := hm
      exact ⟨⟨none, hv.size, hv.rlt, by have := hv.nge; have := hv.nlt; omega, hv.ptr, hv.deep, hv.res, hv.only, hr⟩, p1, l1, c1, hB, hr⟩
    | some q =>
      rw [hres] at hm
      obtain ⟨⟨hv, ov, cs, hB, hrow, hVs⟩, hr⟩ := hm
      have hql := hrow.lt
      obtain ⟨p1, c1, rfl⟩ := slice_of_own hrow
      refine ⟨⟨some q.2, hv.size, hv.rlt, by have := hv.nge; have := hv.nlt; omega, hv.ptr, hv.deep, hv.res, hv.only, hr⟩, p1, _, c1, hB, ?_, hr⟩
      have hk := rlistL_key (recL_key n) (f := t.length + 1) (s := t) (l := q.1) (r := q.2) hres
      have hlen : q.1.length ≤ 1000000 := by
        have h1 := keysL_long q.1
        have h2 := congrArg List.length hk.1
        rw [List.length_append] at h2
        have := HO.out.2.2.2
        omega
      exact VAt.list q.1 cs _ (hVs.keep (fun b hb => ⟨by have := hb.2.1; omega, hb.2.2⟩) (fun b hb k u hu => hu)) (row_of_own hrow (fun k hk => ⟨by have := (hql k hk).1; omega, (hql k hk).2⟩) (by omega))
  obtain ⟨o4, hS4⟩ := hx
  obtain ⟨W5, hW5⟩ : ∃ W5, (((((w4.setCell ⟨P + 1 + 1, 0, none⟩ (.int .i64 4)).setCell ⟨P + 1 + 1, 1, none⟩ (.int .i64 0)).setCell ⟨P + 1 + 1, 2, none⟩ (.string ⟨#[]⟩)).setCell ⟨P + 1 + 1, 3, none⟩ (.slice p1 l1 c1)).setCell ⟨P + 1 + 1, 4, none⟩ (.slice none 0 0)) = W5 := ⟨_, rfl⟩
  have HF := Lib.hid (And.intro hW5 (rv_end (N := N) hS4 H3.out.2.2.1 ⟨_, _, _, _, _, _, _, _, _, rfl⟩ hM hW5))
  have r0 := hS4.res.cell 0
  have r1 := hS4.res.cell 1
  have r2 := hS4.res.cell 2
  have r3 := hS4.res.cell 3
  have r4 := hS4.res.cell 4
  have f0 := hS4.res.frozen 0
  have f1 := hS4.res.frozen 1
  have f2 := hS4.res.frozen 2
  have f3 := hS4.res.frozen 3
  have f4 := hS4.res.frozen 4
  have g0 := hN4.cell 0
  have g1 := hN4.cell 1
  have g2 := hN4.cell 2
  have g3 := hN4.cell 3
  have g4 := hN4.cell 4
  have gf1 := hN4.frozen 1
  have gf2 := hN4.frozen 2
  clear hW5 hS4 hN4 hM hm p3 e3
  go_wp2
  rw [HF.out.1]
  (try simp only [Exit.inBlock, Exit.then])
  refine bodyPost_ret ?_ rfl HF.out.2.2
  exact results_cell_row rfl _ W5 (P + 1 + 1) 28 _ (0, 0) _ rfl HF.out.2.1 Tryd.underlying28 rfl (by kernel_rfl)

set_option maxHeartbeats 8000000 in
set_option maxRecDepth 100000 in
theorem rv_obj (n : Nat) (w : World) (rb : Nat) (t : BL) (hR : RS w rb (some (6 :: t))) (hn : n ≤ 15) (hs : t.length ≤ 1000000) (hone : ∀ (P N : Nat) (d : Int) (l : List (BL × V)) (s : BL) (W : World), d = 16 - (n : Int) → n ≠ 0 → ObjGood w rb P N d l W → RS W rb (some s) → l.length + s.length ≤ 1000000 → Calls Tryd.prog 65 #[.pointer (some ⟨P, 0, none⟩), .pointer (some ⟨N, 0, none⟩), .pointer (some ⟨P + 1, 0, none⟩)] W (OneObj w rb P N d l (rfieldL (recL n) s))) :
    Calls Tryd.prog 44 #[.pointer (some ⟨rb, 0, none⟩), .int .i64 (16 - (n : Int))] w (ValPost w rb ((rfieldsL (recL n) (t.length + 1) t).map fun p => (.obj p.1, p.2))) := by
  obtain ⟨d, hd⟩ : ∃ d, 16 - (n : Int) = d := ⟨_, rfl⟩
  rw [hd]
  have HO := Lib.hid (And.intro hone (And.intro hd (And.intro hn hs)))
  clear hone hd hn hs
  obtain ⟨W, hW⟩ : ∃ W, (((w.alloc (.cells #[.pointer (some ⟨rb, 0, none⟩)] 76)).alloc (.cells #[.int .i64 d] 3)).alloc (.cells #[.int .i64 0, .int .i64 0, .string ⟨#[]⟩, .slice none 0 0, .slice none 0 0] 28)) = W := ⟨_, rfl⟩
  obtain ⟨P, hP⟩ : ∃ P, w.heap.size = P := ⟨_, rfl⟩
  have hl := hR.lt
  obtain ⟨b0, b1, b2, hb, hs3⟩ := rboxes hl hW.symm
  have hRW := hR.below hb
  have hC : Calls Tryd.prog 60 #[.pointer (some ⟨rb, 0, none⟩), .int .i64 (1 : Nat)] W fun e w' => e = .returned (.string (BA [6])) ∧ RS w' rb (some t) ∧ Only (fun k => k = rb) W w' := take_some rb 1 (6 :: t) W hRW (by simp)
  have c0 := b0.cell 0
  rw [hP] at c0
  have H := Lib.hid (And.intro hC (And.intro hW (And.intro hR hP)))
  clear hC hR b0 b1 b2 hb hs3 hRW hl
  go_enter Tryd.func44, Tryd.ntmps44
  go_wp2_with fail
  (try rw [hW])
  (try rw [hP])
  refine H.out.1.mono ?_
  rintro e W2 ⟨rfl, hr2, ho2⟩
  have hS := VStart.of H.out.2.2.2 H.out.2.2.1 H.out.2.1.symm hr2 ho2
  clear hr2 ho2 c0 hW
  have q0 : ∀ hh, (BA [6])[0]'hh = 6 := fun _ => rfl
  have q1 : (BA [6]).size = 1 := rfl
  have q2 : (BA [6]).toList.isEmpty = false := by decide +kernel
  have hp := hS.ptr.cell 0
  have he := hS.deep.cell 0
  have hS3 := hS.alloc (.cells #[.int .i64 5, .int .i64 0, .string ⟨#[]⟩, .slice none 0 0, .slice none 0 0] 28)
  have hN3 : Blk (W2.alloc (.cells #[.int .i64 5, .int .i64 0, .string ⟨#[]⟩, .slice none 0 0, .slice none 0 0] 28)) W2.heap.size 28 [.int .i64 5, .int .i64 0, .string ⟨#[]⟩, .slice none 0 0, .slice none 0 0] := heap_alloc_new W2 _
  have p3 := hS3.ptr.cell 0
  have e3 := hS3.deep.cell 0
  have hbig := hS.big
  have hrb := hS.rlt
  obtain ⟨N, hN⟩ : ∃ N, W2.heap.size = N := ⟨_, rfl⟩
  rw [hN] at hN3 hbig
  have hlt3 := hN3.lt
  have hsz := hS.size
  have H3 := Lib.hid (And.intro hS3 (And.intro hN3 (And.intro hbig (And.intro hrb (And.intro hlt3 hsz)))))
  clear hS hS3 hN3 hbig hrb hlt3 hsz
  go_wp2_with fail
  generalize hW3 : W2.alloc (.cells #[.int .i64 5, .int .i64 0, .string ⟨#[]⟩, .slice none 0 0, .slice none 0 0] 28) = W3 at H3 p3 e3 ⊢
  (try simp only [hN] at H3 ⊢)
  clear hW3 hN
  have hG : ObjGood w rb P N d [] W3 := ⟨⟨H3.out.2.2.2.2.2, H3.out.2.2.2.1, H3.out.2.2.1, H3.out.2.2.2.2.1, H3.out.1.ptr, H3.out.1.deep, H3.out.1.res, H3.out.1.only⟩, .slice none 0 0, [], H3.out.2.1, ⟨by simp, .inl ⟨rfl, rfl⟩⟩, .nil⟩
  have hC := many_obj n HO.out.2.2.1 w W3 rb P N d t HO.out.2.1.symm hG H3.out.1.rs HO.out.2.2.2 (fun l s W hn0 hG2 hR2 hl => HO.out.1 P N d l s W HO.out.2.1.symm hn0 hG2 hR2 hl)
  refine hC.mono ?_
  rintro e w4 ⟨rfl, hm⟩
  clear hC hG
  have hNR1 : ¬ N = P + 1 + 1 := by have := H3.out.2.2.1; omega
  have hNR2 : ¬ P + 1 + 1 = N := by omega
  have hNrb : ¬ N = rb := by have := H3.out.2.2.1; have := H3.out.2.2.2.1; omega
  obtain ⟨hx, p1, l1, c1, hN4, hM⟩ : (∃ o4, VStart w rb P d o4 w4) ∧ ∃ p1 l1 c1, Blk w4 N 28 [.int .i64 5, .int .i64 0, .string ⟨#[]⟩, .slice none 0 0, .slice p1 l1 c1] ∧ MRes (fun b => N < b ∧ b < w4.heap.size) w4 rb ((rfieldsL (recL n) (t.length + 1) t).map fun p => (.obj p.1, p.2)) [.int .i64 5, .int .i64 0, .string ⟨#[]⟩, .slice none 0 0, .slice p1 l1 c1] := by
    cases hres : rfieldsL (recL n) (t.length + 1) t with
    | none =>
      rw [hres] at hm
      obtain ⟨⟨hv, p1, l1, c1, hB⟩, hr⟩ := hm
      exact ⟨⟨none, hv.size, hv.rlt, by have := hv.nge; have := hv.nlt; omega, hv.ptr, hv.deep, hv.res, hv.only, hr⟩, p1, l1, c1, hB, hr⟩
    | some q =>
      rw [hres] at hm
      obtain ⟨⟨hv, ov, cs, hB, hrow, hVs⟩, hr⟩ := hm
      have hql := hrow.lt
      obtain ⟨p1, c1, rfl⟩ := slice_of_own hrow
      refine ⟨⟨some q.2, hv.size, hv.rlt, by have := hv.nge; have := hv.nlt; omega, hv.ptr, hv.deep, hv.res, hv.only, hr⟩, p1, _, c1, hB, ?_, hr⟩
      have hk := rfieldsL_key (recL_key n) (f := t.length + 1) (s := t) (l := q.1) (r := q.2) hres
      have hlen : q.1.length ≤ 1000000 := by
        have h1 := fieldsL_long q.1
        have h2 := congrArg List.length hk.1
        rw [List.length_append] at h2
        have := HO.out.2.2.2
        omega
      exact VAt.obj q.1 cs _ (hVs.keep (fun b hb => ⟨by have := hb.2.1; omega, hb.2.2⟩) (fun b hb k u hu => hu)) (row_of_own hrow (fun k hk => ⟨by have := (hql k hk).1; omega, (hql k hk).2⟩) (by omega))
  obtain ⟨o4, hS4⟩ := hx
  obtain ⟨W5, hW5⟩ : ∃ W5, (((((w4.setCell ⟨P + 1 + 1, 0, none⟩ (.int .i64 5)).setCell ⟨P + 1 + 1, 1, none⟩ (.int .i64 0)).setCell ⟨P + 1 + 1, 2, none⟩ (.string ⟨#[]⟩)).setCell ⟨P + 1 + 1, 3, none⟩ (.slice none 0 0)).setCell ⟨P + 1 + 1, 4, none⟩ (.slice p1 l1 c1)) = W5 := ⟨_, rfl⟩
  have HF := Lib.hid (And.intro hW5 (rv_end (N := N) hS4 H3.out.2.2.1 ⟨_, _, _, _, _, _, _, _, _, rfl⟩ hM hW5))
  have r0 := hS4.res.cell 0
  have r1 := hS4.res.cell 1
  have r2 := hS4.res.cell 2
  have r3 := hS4.res.cell 3
  have r4 := hS4.res.cell 4
  have f0 := hS4.res.frozen 0
  have f1 := hS4.res.frozen 1
  have f2 := hS4.res.frozen 2
  have f3 := hS4.res.frozen 3
  have f4 := hS4.res.frozen 4
  have g0 := hN4.cell 0
  have g1 := hN4.cell 1
  have g2 := hN4.cell 2
  have g3 := hN4.cell 3
  have g4 := hN4.cell 4
  have gf1 := hN4.frozen 1
  have gf2 := hN4.frozen 2
  clear hW5 hS4 hN4 hM hm p3 e3
  go_wp2
  rw [HF.out.1]
  (try simp only [Exit.inBlock, Exit.then])
  refine bodyPost_ret ?_ rfl HF.out.2.2
  exact results_cell_row rfl _ W5 (P + 1 + 1) 28 _ (0, 0) _ rfl HF.out.2.1 Tryd.underlying28 rfl (by kernel_rfl)

theorem rv_step (n : Nat) (hn : n ≤ 15) (hl : ∀ (w : World) (rb P N : Nat) (d : Int) (l : List V) (s : BL) (W : World), d = 16 - (n : Int) → n ≠ 0 → ListGood w rb P N d l W → RS W rb (some s) → l.length + s.length ≤ 1000000 → Calls Tryd.prog 64 #[.pointer (some ⟨N, 0, none⟩), .pointer (some ⟨P, 0, none⟩), .pointer (some ⟨P + 1, 0, none⟩)] W (OneList w rb P N d l (recL n s))) (ho : ∀ (w : World) (rb P N : Nat) (d : Int) (l : List (BL × V)) (s : BL) (W : World), d = 16 - (n : Int) → n ≠ 0 → ObjGood w rb P N d l W → RS W rb (some s) → l.length + s.length ≤ 1000000 → Calls Tryd.prog 65 #[.pointer (some ⟨P, 0, none⟩), .pointer (some ⟨N, 0, none⟩), .pointer (some ⟨P + 1, 0, none⟩)] W (OneObj w rb P N d l (rfieldL (recL n) s))) : RV n := by
  intro w rb o hs hR
  cases o with
  | none => exact rv_zero n w rb none hR (.inl rfl)
  | some s =>
    cases s with
    | nil => exact rv_zero n w rb (some []) hR (.inr rfl)
    | cons k t =>
      have ht : t.length ≤ 1000000 := by have := hs _ rfl; rw [List.length_cons] at this; omega
      show Calls Tryd.prog 44 #[.pointer (some ⟨rb, 0, none⟩), .int .i64 (16 - (n : Int))] w (ValPost w rb (rvalueL n (k :: t)))
      rw [rvalueL_rec, rbodyL_cons]
      by_cases h1 : k = 1
      · subst h1; rw [if_pos rfl]; exact rv_null n w rb t hR
      rw [if_neg h1]
      by_cases h2 : k = 2
      · subst h2
        rw [if_pos rfl]
        cases t with
        | nil => exact rv_bool0 n w rb hR
        | cons c r => exact rv_bool1 n w rb c r hR
      rw [if_neg h2]
      by_cases h3 : k = 3
      · subst h3; rw [if_pos rfl]; exact rv_num n w rb t hR
      rw [if_neg h3]
      by_cases h4 : k = 4
      · subst h4; rw [if_pos rfl]; exact rv_text n w rb t hR ht
      rw [if_neg h4]
      by_cases h5 : k = 5
      · subst h5; rw [if_pos rfl]; exact rv_list n w rb t hR hn ht (fun P N d l s W => hl w rb P N d l s W)
      rw [if_neg h5]
      by_cases h6 : k = 6
      · subst h6; rw [if_pos rfl]; exact rv_obj n w rb t hR hn ht (fun P N d l s W => ho w rb P N d l s W)
      rw [if_neg h6]
      exact rv_other n w rb k t hR ⟨h1, h2, h3, h4, h5, h6⟩
theorem rv_any : ∀ n, n ≤ 15 → RV n
  | 0, _ => rv_step 0 (by omega) (fun _ _ _ _ _ _ _ _ _ h => absurd rfl h) (fun _ _ _ _ _ _ _ _ _ h => absurd rfl h)
  | m + 1, hm => rv_step (m + 1) hm (fun w rb P N d l s W hd _ hG hR hs => one_list m (rv_any m (by omega)) w W rb P N d l s hG (by omega) (by omega) hR hs)
      (fun w rb P N d l s W hd _ hG hR hs => one_obj m (rv_any m (by omega)) w W rb P N d l s hG (by omega) (by omega) hR hs)

end Go.Proofs.YthlioinmeimhoaaDoor