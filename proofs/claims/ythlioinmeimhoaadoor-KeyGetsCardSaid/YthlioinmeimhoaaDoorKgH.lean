/- The key reader's value: one field of an object. -/
import Derived.Test.YthlioinmeimhoaaDoorKgG
namespace Go.Proofs.YthlioinmeimhoaaDoor
open Go.Shelf Go.RowKit Go.Lib

set_option maxHeartbeats 4000000 in
set_option maxRecDepth 100000 in
theorem rtext_bad (rb : Nat) (w : World) (hR : RS w rb none) :
    Calls Tryd.prog 62 #[.pointer (some ⟨rb, 0, none⟩)] w fun e w' => (∃ t, e = .returned (.string t)) ∧ RS w' rb none ∧ Only (fun k => k = rb) w w' := by
  have hlt := hR.lt
  obtain ⟨W, hW⟩ : ∃ W, w.alloc (.cells #[.pointer none, .slice none 0 0] 66) = W := ⟨_, rfl⟩
  obtain ⟨P, hP⟩ : ∃ P, w.heap.size = P := ⟨_, rfl⟩
  have hr := hR.alloc (.cells #[.pointer none, .slice none 0 0] 66)
  have hb : BH P P [] W := by rw [← hP, ← hW]; exact Lib.IsBuilderF.of (Lib.fresh_isBuilder _ _ w)
  have hs : W.heap.size = P + 1 := by rw [← hP, ← hW]; simp
  have ho : Only (fun k => k = rb) w W := by rw [← hW]; exact Only.alloc _ _ _
  rw [hW] at hr
  obtain ⟨t, hr⟩ := hr
  have c1 := hr.cell 1
  have H := Lib.hid (And.intro hr (And.intro hb (And.intro hs (And.intro ho (And.intro hP (And.intro hlt hW))))))
  clear hr hb hs ho hR
  rw [hP] at hlt
  go_enter Tryd.func62, Tryd.ntmps62
  go_wp2_with fail
  (try rw [hW]); (try rw [hP])
  clear hW hP
  refine wp_loop_rounds 1 ?_
  rw [rounds_succ]
  go_wp2_with fail
  refine (bh_get P P [] W H.out.2.1 (by have := H.out.2.2.1; omega)).mono ?_
  rintro e w2 ⟨rfl, hb2⟩
  have HF := Lib.hid (And.intro (show RS w2 rb none from ⟨t, (hb2.block rb hlt).trans H.out.1⟩) (H.out.2.2.2.1.trans' (Only.ofBelow' hb2) (fun i hi h => by have := H.out.2.2.2.2.1; omega)))
  clear hb2 c1
  go_wp2
  go_ret
  exact ⟨⟨_, rfl⟩, HF.out⟩

def TextO (w : World) (rb : Nat) (o : Option BL) (e : Ending) (w' : World) : Prop := ∃ t, e = .returned (.string t) ∧ (∀ p, o.bind rtextL = some p → t = BA p.1) ∧ RS w' rb ((o.bind rtextL).map (·.2)) ∧ Only (fun k => k = rb) w w'
theorem rtext_o (rb : Nat) (o : Option BL) (w : World) (hs : ∀ s, o = some s → s.length ≤ 1000000) (hR : RS w rb o) : Calls Tryd.prog 62 #[.pointer (some ⟨rb, 0, none⟩)] w (TextO w rb o) := by
  cases o with
  | none =>
    refine (rtext_bad rb w hR).mono ?_
    rintro e w' ⟨⟨t, rfl⟩, h, ho⟩
    exact ⟨t, rfl, (by intro p hp; cases hp), h, ho⟩
  | some s =>
    refine (rtext_any rb s w (hs s rfl) hR).mono ?_
    rintro e w' ⟨t, rfl, h, ho⟩
    refine ⟨t, rfl, ?_, ?_, ho⟩
    · intro p hp
      have hp' : rtextL s = some p := hp
      rw [hp'] at h
      exact h.1
    · show RS w' rb ((rtextL s).map (·.2))
      cases hx : rtextL s with
      | none => rw [hx] at h; exact h
      | some p => rw [hx] at h; exact h.2

def OneObj (w0 : World) (rb P N : Nat) (d : Int) (l : List (BL × V)) (res : Option ((BL × V) × BL)) (e : Ending) (w' : World) : Prop := e = .returned (.tuple #[]) ∧ (match res with | some p => ObjGood w0 rb P N d (l ++ [p.1]) w' ∧ RS w' rb (some p.2) | none => ObjBad w0 rb P N d w' ∧ RS w' rb none)

theorem onef_close {w0 wr w4 w5 W : World} {rb P N g cap cnt : Nat} {d : Int} {l : List (BL × V)} {res : Option (V × BL)} {tx : Option (BL × BL)} {tt : ByteArray} {cs : List Value} {c1 c2 c3 c4 c5 z0 z1 z2 z3 z4 z5 ov : Value}
    (hb : VBase w0 rb P N d wr) (hN : Blk wr N 28 [.int .i64 5, .int .i64 0, .string ⟨#[]⟩, .slice none 0 0, ov]) (hr : wr.ownsRow (N + 1) 72 6 ov l.length cs)
    (hVs : FsAt (fun b => some b ≠ ov.ownBlock ∧ N + 1 ≤ b ∧ b < wr.heap.size) wr l cs)
    (ho4 : Only (fun k => k = rb) wr w4) (h5 : Only (fun k => some k = ov.ownBlock) w4 w5) (hcnt : l.length = cnt)
    (hown : w5.ownsRow (N + 1) 72 6 (.slice (some ⟨g, 0, none⟩) (cnt + 1) cap) (cnt + 1) (cs ++ [z0, z1, z2, z3, z4, z5])) (hat : some g = ov.ownBlock ∨ w4.heap.size ≤ g)
    (htx : ∀ p, tx = some p → tt = BA p.1) (hres : tx = none → res = none)
    (hm : MRes (fun b => wr.heap.size ≤ b ∧ b < w4.heap.size) w4 rb res [c1, c2, c3, c4, c5])
    (hW : W = ((((((w5.setCell ⟨g, cnt * 6, none⟩ (.string tt)).setCell ⟨g, cnt * 6 + 1, none⟩ c1).setCell ⟨g, cnt * 6 + 2, none⟩ c2).setCell ⟨g, cnt * 6 + 3, none⟩ c3).setCell ⟨g, cnt * 6 + 4, none⟩ c4).setCell ⟨g, cnt * 6 + 5, none⟩ c5).setCell ⟨N, 4, none⟩ (.slice (some ⟨g, 0, none⟩) (cnt + 1) cap) ∨
      W = ((((((w5.setCell ⟨N, 4, none⟩ (.slice (some ⟨g, 0, none⟩) (cnt + 1) cap)).setCell ⟨g, cnt * 6, none⟩ (.string tt)).setCell ⟨g, cnt * 6 + 1, none⟩ c1).setCell ⟨g, cnt * 6 + 2, none⟩ c2).setCell ⟨g, cnt * 6 + 3, none⟩ c3).setCell ⟨g, cnt * 6 + 4, none⟩ c4).setCell ⟨g, cnt * 6 + 5, none⟩ c5) :
    OneObj w0 rb P N d l (tx.bind fun p => res.map fun q => ((p.1, q.1), q.2)) (.returned (.tuple #[])) W := by
  subst hcnt
  have hlt : ∀ k, ov.ownBlock = some k → N + 1 ≤ k ∧ k < wr.heap.size := fun k hk => hr.lt k hk
  have hrl := hb.rlt
  have hng := hb.nge
  refine ⟨rfl, ?_⟩
  have hrs : ∀ {o : Option BL}, RS w4 rb o → RS W rb o := fun {o} h => by
    obtain ⟨_, _, hO, hgN⟩ := obj_more (nm := []) (v := .null) hb hN hr ho4 h5 hown hat hW
    refine h.only hO ?_
    rintro (e | e | e)
    · omega
    · omega
    · have := (hlt rb e.symm).1; omega
  have hbad : ObjBad w0 rb P N d W := (obj_more (nm := []) (v := .null) hb hN hr ho4 h5 hown hat hW).1
  cases tx with
  | none =>
    rw [hres rfl] at hm
    exact ⟨hbad, hrs hm⟩
  | some p =>
    cases res with
    | none => exact ⟨hbad, hrs hm⟩
    | some q =>
      obtain ⟨_, hG, _, _⟩ := obj_more (nm := p.1) (v := q.1) hb hN hr ho4 h5 hown hat hW
      exact ⟨hG hVs (by rw [htx p rfl]) hm.1, hrs hm.2⟩
theorem six_at (cs : List Value) (z0 z1 z2 z3 z4 z5 : Value) (n : Nat) (h : cs.length = n) :
    (cs ++ [z0, z1, z2, z3, z4, z5])[n]? = some z0 ∧ (cs ++ [z0, z1, z2, z3, z4, z5])[n + 1]? = some z1 ∧ (cs ++ [z0, z1, z2, z3, z4, z5])[n + 2]? = some z2 ∧ (cs ++ [z0, z1, z2, z3, z4, z5])[n + 3]? = some z3 ∧ (cs ++ [z0, z1, z2, z3, z4, z5])[n + 4]? = some z4 ∧ (cs ++ [z0, z1, z2, z3, z4, z5])[n + 5]? = some z5 := by
  subst h
  refine ⟨?_, ?_, ?_, ?_, ?_, ?_⟩
  all_goals
    rw [List.getElem?_append_right (by omega)]
    simp only [Nat.sub_self, Nat.add_sub_cancel_left]
    rfl
theorem ObjGood.next {w0 wr w2 : World} {rb P N : Nat} {d : Int} {l : List (BL × V)} (h : ObjGood w0 rb P N d l wr) (ho : Only (fun k => k = rb) wr w2) : ObjGood w0 rb P N d l w2 := by
  obtain ⟨hb, ov, cs, hN, hr, hv⟩ := h
  have h1 := hb.rlt
  have h2 := hb.nge
  refine ⟨hb.next ho (fun _ _ e => e), ov, cs, hN.only ho (fun e => by omega), own_only hr ho (fun k hk e => by omega), hv.keep (fun b hb => ⟨hb.1, hb.2.1, Nat.lt_of_lt_of_le hb.2.2 ho.size⟩) (fun b hb k u hu => ho.cell (fun e => by have e2 : b = rb := e; have := hb.2.1; omega) hu)⟩

def moreL : BL → Option BL
  | [] => none
  | c :: t => if c = 1 then some t else none
theorem moreL_le {s x : BL} (h : moreL s = some x) : x.length + 1 ≤ s.length := by
  cases s with
  | nil => cases h
  | cons c t =>
    rw [moreL] at h
    split at h
    · injection h with h; rw [h]; simp
    · cases h
theorem rfieldL_more (rec : BL → Option (V × BL)) (s : BL) : rfieldL rec s = ((moreL s).bind rtextL).bind fun p => ((((moreL s).bind rtextL).map (·.2)).bind rec).map fun q => ((p.1, q.1), q.2) := by
  cases s with
  | nil => rfl
  | cons c t =>
    rw [rfieldL, moreL]
    by_cases h : c = 1
    · rw [if_pos h, if_pos h]
      show _ = (rtextL t).bind fun p => (((rtextL t).map (·.2)).bind rec).map fun q => ((p.1, q.1), q.2)
      cases rtextL t <;> rfl
    · rw [if_neg h, if_neg h]; rfl

set_option maxHeartbeats 0 in
set_option maxRecDepth 100000 in
theorem one_obj (m : Nat) (ih : RV m) (w0 wr : World) (rb P N : Nat) (d : Int) (l : List (BL × V)) (s : BL) (hG : ObjGood w0 rb P N d l wr) (hd : d = 15 - (m : Int)) (hm : m ≤ 15) (hR : RS wr rb (some s)) (hs : l.length + s.length ≤ 1000000) :
    Calls Tryd.prog 65 #[.pointer (some ⟨P, 0, none⟩), .pointer (some ⟨N, 0, none⟩), .pointer (some ⟨P + 1, 0, none⟩)] wr (OneObj w0 rb P N d l (rfieldL (rvalueL m) s)) := by
  obtain ⟨i0, hi0, hz0, hz1, hz2⟩ := field_parts
  have hrl := hG.1.rlt
  have hng := hG.1.nge
  have hwd : IntKind.i64.wrap (d + 1) = 16 - (m : Int) := by rw [IntWalk.i64_in _ (by omega)]; omega
  have hc1 : l.length ≤ 1000000 := by omega
  rw [rfieldL_more]
  have hos : ∀ x, moreL s = some x → x.length ≤ 1000000 := fun x hx => by have := moreL_le hx; omega
  have b0 : wr.drew.cell? ⟨P, 0, none⟩ = some (.pointer (some ⟨rb, 0, none⟩)) := hG.1.ptr.cell 0
  have H0 := Lib.hid (And.intro hG (And.intro hR (And.intro hos ih)))
  have HS := Lib.hid hs
  clear hG hR hs hos ih hd
  go_enter Tryd.func65, Tryd.ntmps65
  go_wp2_with fail
  go_cut [] from 4 to 15 (fun wx => Hid (RS wx rb (moreL s)) ∧ Hid (Only (fun k => k = rb) wr wx))
  case first =>
    by_cases hy : ∃ t, s = 1 :: t
    · obtain ⟨t, rfl⟩ := hy
      have hmo : moreL (1 :: t) = some t := by rw [moreL, if_pos rfl]
      have HMO := Lib.hid hmo
      clear hmo
      go_region_law (first
        | (go_simp; go_at_call 66; refine (is_yes rb ⟨#[1]⟩ [1] t wr.drew rfl (show RS wr.drew rb (some (1 :: t)) from H0.out.2.1)).mono ?_; rintro e wy ⟨rfl, hry, hoy⟩; have b1 : wy.cell? ⟨P, 0, none⟩ = some (.pointer (some ⟨rb, 0, none⟩)) := hoy.cell (by show ¬ P = rb; omega) b0; have r1 := Blk.cell hry 1; have rf := Blk.frozen hry 1; have HY := Lib.hid (And.intro hry hoy); clear hry hoy))
      all_goals
        clear b1 r1 rf
        go_wp2
        go_meet
        exact ⟨Lib.hid (by rw [HMO.out]; exact Blk.set HY.out.1 1 (.bool false)), Lib.hid (((Only.drew _ wr).trans HY.out.2).trans (Only.set1 _ rb 1 _))⟩
    · have hmo : moreL s = none := by
        cases s with
        | nil => rfl
        | cons c t => rw [moreL, if_neg (fun e => hy ⟨t, by rw [e]⟩)]
      have hpre : Lib.hasPrefix s [1] = false := by
        cases hp : Lib.hasPrefix s [1] with
        | false => rfl
        | true =>
          obtain ⟨x, hx⟩ := List.isPrefixOf_iff_prefix.mp (show ([1] : BL).isPrefixOf s = true from hp)
          exact absurd ⟨x, hx.symm⟩ hy
      have HP := Lib.hid (And.intro hpre hmo)
      have rf := Blk.frozen (show Blk wr.drew rb 78 [.string (BA s), .bool false] from H0.out.2.1) 1
      have rc := Blk.cell (show Blk wr.drew rb 78 [.string (BA s), .bool false] from H0.out.2.1) 1
      clear hpre hmo hy
      go_region_law (first
        | (go_simp; go_at_call 66; refine (is_no rb ⟨#[1]⟩ s wr.drew HP.out.1 (show RS wr.drew rb (some s) from H0.out.2.1)).mono ?_; rintro e wy ⟨rfl, rfl⟩))
      all_goals
        clear rf rc
        go_wp2
        go_meet
        exact ⟨Lib.hid (by rw [HP.out.2]; exact ⟨_, Blk.set (show Blk wr rb 78 [.string (BA s), .bool false] from H0.out.2.1) 1 (.bool true)⟩), Lib.hid ((Only.set1 wr rb 1 (.bool true)).trans (Only.drew _ _))⟩
  case rest =>
    obtain ⟨HR1, HO1⟩ := hcut
    have cc0 : wc.cell? ⟨P, 0, none⟩ = some (.pointer (some ⟨rb, 0, none⟩)) := HO1.out.cell (by show ¬ P = rb; omega) (H0.out.1.1.ptr.cell 0)
    go_wp2_with fail
    clear cc0
    refine (rtext_o rb (moreL s) _ H0.out.2.2.1 HR1.out).mono ?_
    rintro e w2 ⟨tt, rfl, htx, hr2, ho2⟩
    obtain ⟨tx, htxe⟩ : ∃ tx, (moreL s).bind rtextL = tx := ⟨_, rfl⟩
    rw [htxe] at htx hr2
    have ho3 : Only (fun k => k = rb) wr w2 := HO1.out.trans ho2
    obtain ⟨hb, ov, cs, hN, hr, hVs⟩ := H0.out.1.next ho3
    obtain ⟨op, oc, rfl⟩ := slice_of_own hr
    obtain ⟨cnt, hcnt⟩ : ∃ c, l.length = c := ⟨_, rfl⟩
    have hlen2 : ∀ x, tx.map (·.2) = some x → x.length ≤ 1000000 := fun x hx => by
      cases hm : moreL s with
      | none => rw [hm] at htxe; rw [← htxe] at hx; cases hx
      | some y =>
        rw [hm] at htxe
        have h1 := H0.out.2.2.1 y hm
        cases hq : rtextL y with
        | none => rw [show (some y).bind rtextL = none from hq] at htxe; rw [← htxe] at hx; cases hx
        | some p =>
          rw [show (some y).bind rtextL = some p from hq] at htxe
          rw [← htxe] at hx
          injection hx with hx
          have hx3 : p.2 = x := hx
          have h2 := rtextL_key y p.1 p.2 hq
          rw [h2, List.length_append, hx3] at h1
          omega
    have hih1 := H0.out.2.2.2 w2.drew rb _ hlen2 (hr2.below ((Below.refl _ _).drew))
    have hih2 := H0.out.2.2.2 ((w2.alloc (.cells #[.string ⟨#[]⟩, .int .i64 0, .int .i64 0, .string ⟨#[]⟩, .slice none 0 0, .slice none 0 0] 72)).drew) rb _ hlen2 ((hr2.alloc _).below ((Below.refl _ _).drew))
    have v4 : w2.drew.cell? ⟨N, 4, none⟩ = some (.slice op l.length oc) := hN.cell 4
    have c0 : w2.drew.cell? ⟨P, 0, none⟩ = some (.pointer (some ⟨rb, 0, none⟩)) := hb.ptr.cell 0
    have e0 : w2.drew.cell? ⟨P + 1, 0, none⟩ = some (.int .i64 d) := hb.deep.cell 0
    have c00 := hb.ptr.cell 0
    rw [hcnt] at v4 hr hN hc1 hVs
    have hnw := hb.nlt
    have hcl : cs.length = cnt * 6 := hr.1
    have hzb : Blk ((w2.alloc (.cells #[.string ⟨#[]⟩, .int .i64 0, .int .i64 0, .string ⟨#[]⟩, .slice none 0 0, .slice none 0 0] 72)).drew) w2.heap.size 72 [.string ⟨#[]⟩, .int .i64 0, .int .i64 0, .string ⟨#[]⟩, .slice none 0 0, .slice none 0 0] := heap_alloc_new w2 _
    have H := Lib.hid (And.intro hb (And.intro hN (And.intro hr (And.intro hVs (And.intro htx (And.intro hcnt (And.intro hih1 (And.intro hih2 hzb))))))))
    have HCL := Lib.hid hcl
    have HTX := Lib.hid htxe
    have hcz : (cnt : Int) < (cnt : Int) + 1 := by omega
    clear hb hN hr hVs htx hcnt hih1 hih2 hcl hzb hr2 ho2 ho3 htxe b0 hlen2
    go_wp2_with fail
    clear c00
    refine AnyJ.begin (J := fun j => Nat.ble j 9) (S := fun W => W.cell? ⟨N, 4, none⟩ = some (.slice op cnt oc) ∧ W.cell? ⟨P, 0, none⟩ = some (.pointer (some ⟨rb, 0, none⟩)) ∧ W.cell? ⟨P + 1, 0, none⟩ = some (.int .i64 d)) (by kernel_rfl) rfl rfl ?_
    refine AnyJ.takeL (i := 0) (v := .pointer (some ⟨N, 4, none⟩)) rfl rfl (by kernel_rfl) (by kernel_rfl) (by kernel_rfl) (by kernel_rfl) (fun _ _ _ h => h) (by rfl) ?_ ⟨v4, c0, e0⟩ ?_
    · intro W hW
      obtain ⟨s1, s2, s3⟩ := hW
      go_simp
      try (with_reducible rfl)
    (try simp only [Act.put, List.setIfInBounds_toArray, List.set_cons_zero, List.set_cons_succ])
    refine AnyJ.takeL (i := 1) (v := .slice op cnt oc) rfl rfl (by kernel_rfl) (by kernel_rfl) (by kernel_rfl) (by kernel_rfl) (fun _ _ _ h => h) (by rfl) ?_ ⟨v4, c0, e0⟩ ?_
    · intro W hW
      obtain ⟨s1, s2, s3⟩ := hW
      go_simp
      try (with_reducible rfl)
    (try simp only [Act.put, List.setIfInBounds_toArray, List.set_cons_zero, List.set_cons_succ])
    refine AnyJ.takeL (i := 2) (v := .string tt) rfl rfl (by kernel_rfl) (by kernel_rfl) (by kernel_rfl) (by kernel_rfl) (fun _ _ _ h => h) (by rfl) ?_ ⟨v4, c0, e0⟩ ?_
    · intro W hW
      obtain ⟨s1, s2, s3⟩ := hW
      go_simp
      try (with_reducible rfl)
    (try simp only [Act.put, List.setIfInBounds_toArray, List.set_cons_zero, List.set_cons_succ])
    refine AnyJ.takeL (i := 3) (v := .pointer (some ⟨rb, 0, none⟩)) rfl rfl (by kernel_rfl) (by kernel_rfl) (by kernel_rfl) (by kernel_rfl) (fun _ _ _ h => h) (by rfl) ?_ ⟨v4, c0, e0⟩ ?_
    · intro W hW
      obtain ⟨s1, s2, s3⟩ := hW
      go_simp
      try (with_reducible rfl)
    (try simp only [Act.put, List.setIfInBounds_toArray, List.set_cons_zero, List.set_cons_succ])
    refine AnyJ.takeL (i := 4) (v := .int .i64 d) rfl rfl (by kernel_rfl) (by kernel_rfl) (by kernel_rfl) (by kernel_rfl) (fun _ _ _ h => h) (by rfl) ?_ ⟨v4, c0, e0⟩ ?_
    · intro W hW
      obtain ⟨s1, s2, s3⟩ := hW
      go_simp
      try (with_reducible rfl)
    (try simp only [Act.put, List.setIfInBounds_toArray, List.set_cons_zero, List.set_cons_succ])
    refine AnyJ.takeL (i := 5) (v := .int .i64 (16 - (m : Int))) rfl rfl (by kernel_rfl) (by kernel_rfl) (by kernel_rfl) (by kernel_rfl) (fun _ _ _ h => h) (by rfl) ?_ ⟨v4, c0, e0⟩ ?_
    · intro W hW
      obtain ⟨s1, s2, s3⟩ := hW
      go_simp
      try (with_reducible rfl)
    (try simp only [Act.put, List.setIfInBounds_toArray, List.set_cons_zero, List.set_cons_succ])
    refine AnyJ.takeL (i := 8) (v := .int .i64 (cnt : Int)) rfl rfl (by kernel_rfl) (by kernel_rfl) (by kernel_rfl) (by kernel_rfl) (fun _ _ _ h => h) (by rfl) ?_ ⟨v4, c0, e0⟩ ?_
    · intro W hW
      obtain ⟨s1, s2, s3⟩ := hW
      go_simp
      try (with_reducible rfl)
    (try simp only [Act.put, List.setIfInBounds_toArray, List.set_cons_zero, List.set_cons_succ])
    refine AnyJ.twoL (i := 6) (j := 9) (by kernel_rfl) rfl rfl (fun K hK => ?_) (fun K hK => ?_)
    · (go_simp; go_at_call 44; (with_reducible refine H.out.2.2.2.2.2.2.1.mono ?_); rintro e w4 ⟨qc, rfl, ⟨k0, n0, s0, a1, l1, c1, a2, l2, c2, rfl⟩, hmv, ho⟩; have ho2 : Only (fun k => k = rb) w2 w4 := (Only.drew _ _).trans ho; have hv4 := H.out.2.1.only ho2 (fun e => by omega); have hr4 := own_only H.out.2.2.1 ho2 (fun k hk e => by omega); have w3 := hv4.cell 4; have w3z := (hv4.alloc (.cells #[.string ⟨#[]⟩, .int .i64 0, .int .i64 0, .string ⟨#[]⟩, .slice none 0 0, .slice none 0 0] 72)).cell 4; have HV4 := Lib.hid hv4; have HR4 := Lib.hid hr4; have HO4 := Lib.hid ho2; have HM := Lib.hid (MRes.mono (T := fun b => w2.heap.size ≤ b ∧ b < w4.heap.size) hmv (fun b hb => ⟨by have := hb.1; (try simp at this); omega, hb.2⟩)); have hnz : ∀ (j : Nat) (u : Value), [.string ⟨#[]⟩, .int .i64 0, .int .i64 0, .string ⟨#[]⟩, .slice none 0 0, .slice none 0 0][j]? = some u → (w4.alloc (.cells #[.string ⟨#[]⟩, .int .i64 0, .int .i64 0, .string ⟨#[]⟩, .slice none 0 0, .slice none 0 0] 72)).cell? ((⟨w4.heap.size, 0, none⟩ : Addr).add j) = some u := (fun j u hu => by rw [add_at]; exact ((show Blk (w4.alloc (.cells #[.string ⟨#[]⟩, .int .i64 0, .int .i64 0, .string ⟨#[]⟩, .slice none 0 0, .slice none 0 0] 72)) w4.heap.size 72 [.string ⟨#[]⟩, .int .i64 0, .int .i64 0, .string ⟨#[]⟩, .slice none 0 0, .slice none 0 0] from heap_alloc_new w4 _).cell j).trans hu); have HNZ := Lib.hid hnz; clear hnz; clear hmv ho ho2 hv4 hr4)
      refine hK.out _ _ (fun _ => ⟨HV4.out.cell 4, (H.out.1.ptr.only HO4.out (fun e => by omega)).cell 0, (H.out.1.deep.only HO4.out (fun e => by omega)).cell 0⟩) ?_
      clear hK K
      (try simp only [Act.put, List.setIfInBounds_toArray, List.set_cons_zero, List.set_cons_succ])
      refine AnyJ.takeL (i := 7) (v := .agg #[.string tt, .int .i64 k0, .int .i64 n0, .string s0, .slice a1 l1 c1, .slice a2 l2 c2]) rfl rfl (by kernel_rfl) (by kernel_rfl) (by kernel_rfl) (by kernel_rfl) (fun _ _ _ h => h) (by rfl) ?_ ⟨HV4.out.cell 4, (H.out.1.ptr.only HO4.out (fun e => by omega)).cell 0, (H.out.1.deep.only HO4.out (fun e => by omega)).cell 0⟩ ?_
      · intro W hW
        obtain ⟨s1, s2, s3⟩ := hW
        go_simp
        try (with_reducible rfl)
      (try simp only [Act.put, List.setIfInBounds_toArray, List.set_cons_zero, List.set_cons_succ])
      refine AnyJ.oneL (i := 9) (by kernel_rfl) rfl (fun K hK => ?_)
      go_simp
      refine hK.out _ _ (fun _ => ⟨(HV4.out.alloc _).cell 4, ((H.out.1.ptr.only HO4.out (fun e => by omega)).alloc _).cell 0, ((H.out.1.deep.only HO4.out (fun e => by omega)).alloc _).cell 0⟩) ?_
      clear hK K
      (try simp only [Act.put, List.setIfInBounds_toArray, List.set_cons_zero, List.set_cons_succ])
      refine AnyJ.rest (by kernel_rfl) ?_
      refine AnyJ.oneL (i := 10) (by kernel_rfl) rfl (fun K hK => ?_)
      (refine step_append_own (w := w4.alloc (.cells #[.string ⟨#[]⟩, .int .i64 0, .int .i64 0, .string ⟨#[]⟩, .slice none 0 0, .slice none 0 0] 72)) rfl (.tmp 19) (.tmp 27) 26 rfl (N + 1) 72 i0 _ 6 96 Tryd.underlying26 hi0 hz0 hz1 hz2 rfl (by decide) (.slice op cnt oc) cnt cs rfl (HR4.out.alloc _) ⟨w4.heap.size, 0, none⟩ 1 1 [.string ⟨#[]⟩, .int .i64 0, .int .i64 0, .string ⟨#[]⟩, .slice none 0 0, .slice none 0 0] rfl rfl HNZ.out (nm_cells _ _ _ _ _ _ _ _ _ _) (by unfold maxLen; omega) (by omega) (Nat.le_trans HV4.out.lt (by simp)) ?_; intro vv w5 hown2 hgr hat; obtain ⟨g, cp, rfl⟩ := own_form hown2 (by omega); have hcl := HCL.out; obtain ⟨f0, f1, f2, f3, f4, f5⟩ := six_at cs (.string ⟨#[]⟩) (.int .i64 0) (.int .i64 0) (.string ⟨#[]⟩) (.slice none 0 0) (.slice none 0 0) (cnt * 6) hcl; have y0 := (hown2.cellAt (cnt * 6) (by omega)).trans f0; have y1 := (hown2.cellAt (cnt * 6 + 1) (by omega)).trans f1; have y2 := (hown2.cellAt (cnt * 6 + 2) (by omega)).trans f2; have y3 := (hown2.cellAt (cnt * 6 + 3) (by omega)).trans f3; have y4 := (hown2.cellAt (cnt * 6 + 4) (by omega)).trans f4; have y5 := (hown2.cellAt (cnt * 6 + 5) (by omega)).trans f5; have t0 := hown2.frozenAt (cnt * 6); have t1 := hown2.frozenAt (cnt * 6 + 1); have t2 := hown2.frozenAt (cnt * 6 + 2); have t3 := hown2.frozenAt (cnt * 6 + 3); have t4 := hown2.frozenAt (cnt * 6 + 4); have t5 := hown2.frozenAt (cnt * 6 + 5); have hgN : N < g := (hown2.lt g rfl).1; have hNg1 : ¬ N = g := (by omega); have hNg2 : ¬ g = N := (by omega); have hg5 : Only (fun k => some k = (Value.slice op cnt oc).ownBlock) w4 w5 := ((Only.alloc _ w4 _).trans (Only.ofGrown hgr (fun k e => e.symm))); have hN5 := (HV4.out).only hg5 (fun e => by have := (HR4.out.lt N e.symm).1; omega); have x3 := hN5.cell 4; have xf := hN5.frozen 4; have HG5 := Lib.hid hg5; have HOW := Lib.hid hown2; have HAT := Lib.hid (show some g = (Value.slice op cnt oc).ownBlock ∨ w4.heap.size ≤ g from hat.elim (fun h => .inl h) (fun h => .inr (hat_up h (by simp)))); clear hcl f0 f1 f2 f3 f4 f5 hg5 hN5 hown2 hgr hat hgN)
      refine hK.out _ _ (fun _ => trivial) ?_
      clear hK K
      (try simp only [Act.put, List.setIfInBounds_toArray, List.set_cons_zero, List.set_cons_succ])
      refine AnyJ.takeL (i := 11) (v := .pointer (some ⟨g, cnt * 6, none⟩)) rfl rfl (by kernel_rfl) (by kernel_rfl) (by kernel_rfl) (by kernel_rfl) (fun _ _ _ h => h) (by rfl) ?_ trivial ?_
      · intro W hW
        clear hW
        go_simp
        try (with_reducible rfl)
      (try simp only [Act.put, List.setIfInBounds_toArray, List.set_cons_zero, List.set_cons_succ])
      refine AnyJ.takeL (i := 13) (v := .pointer (some ⟨N, 4, none⟩)) rfl rfl (by kernel_rfl) (by kernel_rfl) (by kernel_rfl) (by kernel_rfl) (fun _ _ _ h => h) (by rfl) ?_ trivial ?_
      · intro W hW
        clear hW
        go_simp
        try (with_reducible rfl)
      (try simp only [Act.put, List.setIfInBounds_toArray, List.set_cons_zero, List.set_cons_succ])
      refine AnyJ.twoL (i := 12) (j := 14) (by kernel_rfl) rfl rfl (fun K hK => ?_) (fun K hK => ?_)
      · go_simp
        refine hK.out _ _ (fun _ => trivial) ?_
        clear hK K
        (try simp only [Act.put, List.setIfInBounds_toArray, List.set_cons_zero, List.set_cons_succ])
        refine AnyJ.oneL (i := 14) (by kernel_rfl) rfl (fun K hK => ?_)
        go_simp
        refine hK.out _ _ (fun _ => trivial) ?_
        clear hK K
        (try simp only [Act.put, List.setIfInBounds_toArray, List.set_cons_zero, List.set_cons_succ])
        refine AnyJ.done (by kernel_rfl) ?_
        go_end0
        rw [HTX.out]
        exact onef_close H.out.1 H.out.2.1 (by rw [H.out.2.2.2.2.2.1]; exact H.out.2.2.1) H.out.2.2.2.1 HO4.out HG5.out H.out.2.2.2.2.2.1 HOW.out HAT.out H.out.2.2.2.2.1 (fun e => by rw [e]; rfl) HM.out (Or.inl rfl)
      · go_simp
        refine hK.out _ _ (fun _ => trivial) ?_
        clear hK K
        (try simp only [Act.put, List.setIfInBounds_toArray, List.set_cons_zero, List.set_cons_succ])
        refine AnyJ.oneL (i := 12) (by kernel_rfl) rfl (fun K hK => ?_)
        go_simp
        refine hK.out _ _ (fun _ => trivial) ?_
        clear hK K
        (try simp only [Act.put, List.setIfInBounds_toArray, List.set_cons_zero, List.set_cons_succ])
        refine AnyJ.done (by kernel_rfl) ?_
        go_end0
        rw [HTX.out]
        exact onef_close H.out.1 H.out.2.1 (by rw [H.out.2.2.2.2.2.1]; exact H.out.2.2.1) H.out.2.2.2.1 HO4.out HG5.out H.out.2.2.2.2.2.1 HOW.out HAT.out H.out.2.2.2.2.1 (fun e => by rw [e]; rfl) HM.out (Or.inr rfl)
    · go_simp
      refine hK.out _ _ (fun _ => ⟨(H.out.2.1.alloc _).cell 4, (H.out.1.ptr.alloc _).cell 0, (H.out.1.deep.alloc _).cell 0⟩) ?_
      clear hK K
      (try simp only [Act.put, List.setIfInBounds_toArray, List.set_cons_zero, List.set_cons_succ])
      refine AnyJ.oneL (i := 6) (by kernel_rfl) rfl (fun K hK => ?_)
      (go_simp; go_at_call 44; (with_reducible refine H.out.2.2.2.2.2.2.2.1.mono ?_); rintro e w4 ⟨qc, rfl, ⟨k0, n0, s0, a1, l1, c1, a2, l2, c2, rfl⟩, hmv, ho⟩; have ho2 : Only (fun k => k = rb) w2 w4 := ((Only.alloc _ w2 _).trans (Only.drew _ _)).trans ho; have hv4 := H.out.2.1.only ho2 (fun e => by omega); have hr4 := own_only H.out.2.2.1 ho2 (fun k hk e => by omega); have w3 := hv4.cell 4; have w3z := (hv4.alloc (.cells #[.string ⟨#[]⟩, .int .i64 0, .int .i64 0, .string ⟨#[]⟩, .slice none 0 0, .slice none 0 0] 72)).cell 4; have HV4 := Lib.hid hv4; have HR4 := Lib.hid hr4; have HO4 := Lib.hid ho2; have HM := Lib.hid (MRes.mono (T := fun b => w2.heap.size ≤ b ∧ b < w4.heap.size) hmv (fun b hb => ⟨by have := hb.1; (try simp at this); omega, hb.2⟩)); have hnb : ∀ (j : Nat) (u : Value), [.string ⟨#[]⟩, .int .i64 0, .int .i64 0, .string ⟨#[]⟩, .slice none 0 0, .slice none 0 0][j]? = some u → w4.cell? ((⟨w2.heap.size, 0, none⟩ : Addr).add j) = some u := (fun j u hu => by rw [add_at]; exact ((H.out.2.2.2.2.2.2.2.2.only ho (by omega)).cell j).trans hu); have HNB := Lib.hid hnb; clear hnb; clear hmv ho ho2 hv4 hr4)
      refine hK.out _ _ (fun _ => ⟨HV4.out.cell 4, (H.out.1.ptr.only HO4.out (fun e => by omega)).cell 0, (H.out.1.deep.only HO4.out (fun e => by omega)).cell 0⟩) ?_
      clear hK K
      (try simp only [Act.put, List.setIfInBounds_toArray, List.set_cons_zero, List.set_cons_succ])
      refine AnyJ.takeL (i := 7) (v := .agg #[.string tt, .int .i64 k0, .int .i64 n0, .string s0, .slice a1 l1 c1, .slice a2 l2 c2]) rfl rfl (by kernel_rfl) (by kernel_rfl) (by kernel_rfl) (by kernel_rfl) (fun _ _ _ h => h) (by rfl) ?_ ⟨HV4.out.cell 4, (H.out.1.ptr.only HO4.out (fun e => by omega)).cell 0, (H.out.1.deep.only HO4.out (fun e => by omega)).cell 0⟩ ?_
      · intro W hW
        obtain ⟨s1, s2, s3⟩ := hW
        go_simp
        try (with_reducible rfl)
      (try simp only [Act.put, List.setIfInBounds_toArray, List.set_cons_zero, List.set_cons_succ])
      refine AnyJ.rest (by kernel_rfl) ?_
      refine AnyJ.oneL (i := 10) (by kernel_rfl) rfl (fun K hK => ?_)
      (refine step_append_own (w := w4) rfl (.tmp 19) (.tmp 27) 26 rfl (N + 1) 72 i0 _ 6 96 Tryd.underlying26 hi0 hz0 hz1 hz2 rfl (by decide) (.slice op cnt oc) cnt cs rfl HR4.out ⟨w2.heap.size, 0, none⟩ 1 1 [.string ⟨#[]⟩, .int .i64 0, .int .i64 0, .string ⟨#[]⟩, .slice none 0 0, .slice none 0 0] rfl rfl HNB.out (nm_cells _ _ _ _ _ _ _ _ _ _) (by unfold maxLen; omega) (by omega) HV4.out.lt ?_; intro vv w5 hown2 hgr hat; obtain ⟨g, cp, rfl⟩ := own_form hown2 (by omega); have hcl := HCL.out; obtain ⟨f0, f1, f2, f3, f4, f5⟩ := six_at cs (.string ⟨#[]⟩) (.int .i64 0) (.int .i64 0) (.string ⟨#[]⟩) (.slice none 0 0) (.slice none 0 0) (cnt * 6) hcl; have y0 := (hown2.cellAt (cnt * 6) (by omega)).trans f0; have y1 := (hown2.cellAt (cnt * 6 + 1) (by omega)).trans f1; have y2 := (hown2.cellAt (cnt * 6 + 2) (by omega)).trans f2; have y3 := (hown2.cellAt (cnt * 6 + 3) (by omega)).trans f3; have y4 := (hown2.cellAt (cnt * 6 + 4) (by omega)).trans f4; have y5 := (hown2.cellAt (cnt * 6 + 5) (by omega)).trans f5; have t0 := hown2.frozenAt (cnt * 6); have t1 := hown2.frozenAt (cnt * 6 + 1); have t2 := hown2.frozenAt (cnt * 6 + 2); have t3 := hown2.frozenAt (cnt * 6 + 3); have t4 := hown2.frozenAt (cnt * 6 + 4); have t5 := hown2.frozenAt (cnt * 6 + 5); have hgN : N < g := (hown2.lt g rfl).1; have hNg1 : ¬ N = g := (by omega); have hNg2 : ¬ g = N := (by omega); have hg5 : Only (fun k => some k = (Value.slice op cnt oc).ownBlock) w4 w5 := (Only.ofGrown hgr (fun k e => e.symm)); have hN5 := (HV4.out).only hg5 (fun e => by have := (HR4.out.lt N e.symm).1; omega); have x3 := hN5.cell 4; have xf := hN5.frozen 4; have HG5 := Lib.hid hg5; have HOW := Lib.hid hown2; have HAT := Lib.hid (show some g = (Value.slice op cnt oc).ownBlock ∨ w4.heap.size ≤ g from hat.elim (fun h => .inl h) (fun h => .inr (hat_up h (Nat.le_refl _)))); clear hcl f0 f1 f2 f3 f4 f5 hg5 hN5 hown2 hgr hat hgN)
      refine hK.out _ _ (fun _ => trivial) ?_
      clear hK K
      (try simp only [Act.put, List.setIfInBounds_toArray, List.set_cons_zero, List.set_cons_succ])
      refine AnyJ.takeL (i := 11) (v := .pointer (some ⟨g, cnt * 6, none⟩)) rfl rfl (by kernel_rfl) (by kernel_rfl) (by kernel_rfl) (by kernel_rfl) (fun _ _ _ h => h) (by rfl) ?_ trivial ?_
      · intro W hW
        clear hW
        go_simp
        try (with_reducible rfl)
      (try simp only [Act.put, List.setIfInBounds_toArray, List.set_cons_zero, List.set_cons_succ])
      refine AnyJ.takeL (i := 13) (v := .pointer (some ⟨N, 4, none⟩)) rfl rfl (by kernel_rfl) (by kernel_rfl) (by kernel_rfl) (by kernel_rfl) (fun _ _ _ h => h) (by rfl) ?_ trivial ?_
      · intro W hW
        clear hW
        go_simp
        try (with_reducible rfl)
      (try simp only [Act.put, List.setIfInBounds_toArray, List.set_cons_zero, List.set_cons_succ])
      refine AnyJ.twoL (i := 12) (j := 14) (by kernel_rfl) rfl rfl (fun K hK => ?_) (fun K hK => ?_)
      · go_simp
        refine hK.out _ _ (fun _ => trivial) ?_
        clear hK K
        (try simp only [Act.put, List.setIfInBounds_toArray, List.set_cons_zero, List.set_cons_succ])
        refine AnyJ.oneL (i := 14) (by kernel_rfl) rfl (fun K hK => ?_)
        go_simp
        refine hK.out _ _ (fun _ => trivial) ?_
        clear hK K
        (try simp only [Act.put, List.setIfInBounds_toArray, List.set_cons_zero, List.set_cons_succ])
        refine AnyJ.done (by kernel_rfl) ?_
        go_end0
        rw [HTX.out]
        exact onef_close H.out.1 H.out.2.1 (by rw [H.out.2.2.2.2.2.1]; exact H.out.2.2.1) H.out.2.2.2.1 HO4.out HG5.out H.out.2.2.2.2.2.1 HOW.out HAT.out H.out.2.2.2.2.1 (fun e => by rw [e]; rfl) HM.out (Or.inl rfl)
      · go_simp
        refine hK.out _ _ (fun _ => trivial) ?_
        clear hK K
        (try simp only [Act.put, List.setIfInBounds_toArray, List.set_cons_zero, List.set_cons_succ])
        refine AnyJ.oneL (i := 12) (by kernel_rfl) rfl (fun K hK => ?_)
        go_simp
        refine hK.out _ _ (fun _ => trivial) ?_
        clear hK K
        (try simp only [Act.put, List.setIfInBounds_toArray, List.set_cons_zero, List.set_cons_succ])
        refine AnyJ.done (by kernel_rfl) ?_
        go_end0
        rw [HTX.out]
        exact onef_close H.out.1 H.out.2.1 (by rw [H.out.2.2.2.2.2.1]; exact H.out.2.2.1) H.out.2.2.2.1 HO4.out HG5.out H.out.2.2.2.2.2.1 HOW.out HAT.out H.out.2.2.2.2.1 (fun e => by rw [e]; rfl) HM.out (Or.inr rfl)
end Go.Proofs.YthlioinmeimhoaaDoor
