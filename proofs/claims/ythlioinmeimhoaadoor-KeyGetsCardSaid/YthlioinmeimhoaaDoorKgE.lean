/- The key reader's value: one of a list. -/
import Derived.Test.YthlioinmeimhoaaDoorJord
namespace Go.Proofs.YthlioinmeimhoaaDoor
open Go.Shelf Go.RowKit Go.Lib

def OneList (w0 : World) (rb P N : Nat) (d : Int) (l : List V) (res : Option (V × BL)) (e : Ending) (w' : World) : Prop := e = .returned (.tuple #[]) ∧ (match res with | some p => ListGood w0 rb P N d (l ++ [p.1]) w' ∧ RS w' rb (some p.2) | none => ListBad w0 rb P N d w' ∧ RS w' rb none)

theorem one_close {w0 wr w4 w5 W : World} {rb P N g cap cnt : Nat} {d : Int} {l : List V} {res : Option (V × BL)} {cs : List Value} {c0 c1 c2 c3 c4 z0 z1 z2 z3 z4 ov : Value}
    (hb : VBase w0 rb P N d wr) (hN : Blk wr N 28 [.int .i64 4, .int .i64 0, .string ⟨#[]⟩, ov, .slice none 0 0]) (hr : wr.ownsRow (N + 1) 28 5 ov l.length cs)
    (hVs : VsAt (fun b => some b ≠ ov.ownBlock ∧ N + 1 ≤ b ∧ b < wr.heap.size) wr l cs)
    (ho4 : Only (fun k => k = rb) wr w4) (h5 : Only (fun k => some k = ov.ownBlock) w4 w5) (hcnt : l.length = cnt)
    (hown : w5.ownsRow (N + 1) 28 5 (.slice (some ⟨g, 0, none⟩) (cnt + 1) cap) (cnt + 1) (cs ++ [z0, z1, z2, z3, z4])) (hat : some g = ov.ownBlock ∨ w4.heap.size ≤ g)
    (hm : MRes (fun b => wr.heap.size ≤ b ∧ b < w4.heap.size) w4 rb res [c0, c1, c2, c3, c4])
    (hW : W = (((((w5.setCell ⟨g, cnt * 5, none⟩ c0).setCell ⟨g, cnt * 5 + 1, none⟩ c1).setCell ⟨g, cnt * 5 + 2, none⟩ c2).setCell ⟨g, cnt * 5 + 3, none⟩ c3).setCell ⟨g, cnt * 5 + 4, none⟩ c4).setCell ⟨N, 3, none⟩ (.slice (some ⟨g, 0, none⟩) (cnt + 1) cap) ∨
      W = (((((w5.setCell ⟨N, 3, none⟩ (.slice (some ⟨g, 0, none⟩) (cnt + 1) cap)).setCell ⟨g, cnt * 5, none⟩ c0).setCell ⟨g, cnt * 5 + 1, none⟩ c1).setCell ⟨g, cnt * 5 + 2, none⟩ c2).setCell ⟨g, cnt * 5 + 3, none⟩ c3).setCell ⟨g, cnt * 5 + 4, none⟩ c4) :
    OneList w0 rb P N d l res (.returned (.tuple #[])) W := by
  subst hcnt
  have hlt : ∀ k, ov.ownBlock = some k → N + 1 ≤ k ∧ k < wr.heap.size := fun k hk => hr.lt k hk
  have hrl := hb.rlt
  have hng := hb.nge
  refine ⟨rfl, ?_⟩
  have hrs : ∀ {v : V} {o : Option BL}, RS w4 rb o → RS W rb o := fun {v o} h => by
    obtain ⟨_, _, hO, hgN⟩ := list_more (v := v) hb hN hr ho4 h5 hown hat hW
    refine h.only hO ?_
    rintro (e | e | e)
    · omega
    · omega
    · have := (hlt rb e.symm).1; omega
  cases res with
  | some p =>
    obtain ⟨_, hG, _, _⟩ := list_more (v := p.1) hb hN hr ho4 h5 hown hat hW
    exact ⟨hG hVs hm.1, hrs (v := p.1) hm.2⟩
  | none => 
    obtain ⟨hB, _, _, _⟩ := list_more (v := .null) hb hN hr ho4 h5 hown hat hW
    exact ⟨hB, hrs (v := .null) hm⟩
theorem own_form {w : World} {B n size : Nat} {e : TypeId} {v : Value} {xs : List Value} (h : w.ownsRow B e size v n xs) (hn : 0 < n) : ∃ g cap, v = .slice (some ⟨g, 0, none⟩) n cap := by
  rcases h.2 with ⟨_, h0⟩ | ⟨g, cap, cur, hv, _⟩
  · omega
  · exact ⟨g, cap, hv⟩

theorem hat_up {g k m : Nat} (h : some g = some k) (hk : m ≤ k) : m ≤ g := by
  have := Option.some.inj h
  omega
theorem nm5 (q0 q1 : Int) (q2 : ByteArray) (q3 q6 : Option Addr) (q4 q5 q7 q8 : Nat) : ∀ x ∈ [Value.int .i64 q0, .int .i64 q1, .string q2, .slice q3 q4 q5, .slice q6 q7 q8], x.oneCell' = true := by
  intro x hx
  simp only [List.mem_cons, List.not_mem_nil, or_false] at hx
  rcases hx with rfl | rfl | rfl | rfl | rfl <;> rfl
theorem five_at (cs : List Value) (z0 z1 z2 z3 z4 : Value) (n : Nat) (h : cs.length = n) :
    (cs ++ [z0, z1, z2, z3, z4])[n]? = some z0 ∧ (cs ++ [z0, z1, z2, z3, z4])[n + 1]? = some z1 ∧ (cs ++ [z0, z1, z2, z3, z4])[n + 2]? = some z2 ∧ (cs ++ [z0, z1, z2, z3, z4])[n + 3]? = some z3 ∧ (cs ++ [z0, z1, z2, z3, z4])[n + 4]? = some z4 := by
  subst h
  refine ⟨?_, ?_, ?_, ?_, ?_⟩
  all_goals
    rw [List.getElem?_append_right (by omega)]
    simp only [Nat.sub_self, Nat.add_sub_cancel_left]
    rfl

set_option maxHeartbeats 0 in
set_option maxRecDepth 100000 in
theorem one_list (m : Nat) (ih : RV m) (w0 wr : World) (rb P N : Nat) (d : Int) (l : List V) (s : BL) (hG : ListGood w0 rb P N d l wr) (hd : d = 15 - (m : Int)) (hm : m ≤ 15) (hR : RS wr rb (some s)) (hs : l.length + s.length ≤ 1000000) :
    Calls Tryd.prog 64 #[.pointer (some ⟨N, 0, none⟩), .pointer (some ⟨P, 0, none⟩), .pointer (some ⟨P + 1, 0, none⟩)] wr (OneList w0 rb P N d l (rvalueL m s)) := by
  obtain ⟨i0, hi0, hz0, hz1, hz2⟩ := value_parts
  obtain ⟨hb, ov, cs, hN, hr, hVs⟩ := hG
  obtain ⟨op, oc, rfl⟩ := slice_of_own hr
  obtain ⟨cnt, hcnt⟩ : ∃ c, l.length = c := ⟨_, rfl⟩
  have hdz : d + 1 = 16 - (m : Int) := by omega
  have hwd : IntKind.i64.wrap (d + 1) = 16 - (m : Int) := by rw [IntWalk.i64_in _ (by omega)]; omega
  have hc1 : cnt ≤ 1000000 := by omega
  have v3 : wr.drew.cell? ⟨N, 3, none⟩ = some (.slice op l.length oc) := hN.cell 3
  have b0 : wr.drew.cell? ⟨P, 0, none⟩ = some (.pointer (some ⟨rb, 0, none⟩)) := hb.ptr.cell 0
  have e0 : wr.drew.cell? ⟨P + 1, 0, none⟩ = some (.int .i64 d) := hb.deep.cell 0
  rw [hcnt] at v3 hr hN hVs
  have hih1 := ih wr.drew rb (some s) (fun x hx => by injection hx with hx; rw [← hx]; omega) hR
  have hih2 := ih ((wr.alloc (.cells #[.int .i64 0, .int .i64 0, .string ⟨#[]⟩, .slice none 0 0, .slice none 0 0] 28)).drew) rb (some s) (fun x hx => by injection hx with hx; rw [← hx]; omega) ((hR.alloc _).below ((Below.refl _ _).drew))
  have hrl := hb.rlt
  have hng := hb.nge
  have hnw := hb.nlt
  have hcl : cs.length = cnt * 5 := hr.1
  have hzb : Blk ((wr.alloc (.cells #[.int .i64 0, .int .i64 0, .string ⟨#[]⟩, .slice none 0 0, .slice none 0 0] 28)).drew) wr.heap.size 28 [.int .i64 0, .int .i64 0, .string ⟨#[]⟩, .slice none 0 0, .slice none 0 0] := heap_alloc_new wr _
  have H := Lib.hid (And.intro hb (And.intro hN (And.intro hr (And.intro hVs (And.intro hR (And.intro hcnt (And.intro hih1 (And.intro hih2 hzb))))))))
  have HCL := Lib.hid hcl
  have hcz : (cnt : Int) < (cnt : Int) + 1 := by omega
  clear hb hN hr hVs hR hs hcnt hih1 hih2 hdz hd hm hcl hzb
  go_enter Tryd.func64, Tryd.ntmps64
  go_wp2_with fail
  refine AnyJ.begin (J := fun j => Nat.ble j 7) (S := fun W => W.cell? ⟨N, 3, none⟩ = some (.slice op cnt oc) ∧ W.cell? ⟨P, 0, none⟩ = some (.pointer (some ⟨rb, 0, none⟩)) ∧ W.cell? ⟨P + 1, 0, none⟩ = some (.int .i64 d)) (by kernel_rfl) rfl rfl ?_
  refine AnyJ.takeL (i := 0) (v := .pointer (some ⟨N, 3, none⟩)) rfl rfl (by kernel_rfl) (by kernel_rfl) (by kernel_rfl) (by kernel_rfl) (fun _ _ _ h => h) (by rfl) ?_ ⟨v3, b0, e0⟩ ?_
  · intro W hW
    obtain ⟨s1, s2, s3⟩ := hW
    go_simp
    try (with_reducible rfl)
  simp only [Act.put, List.setIfInBounds_toArray, List.set_cons_zero, List.set_cons_succ]
  refine AnyJ.takeL (i := 1) (v := .slice op cnt oc) rfl rfl (by kernel_rfl) (by kernel_rfl) (by kernel_rfl) (by kernel_rfl) (fun _ _ _ h => h) (by rfl) ?_ ⟨v3, b0, e0⟩ ?_
  · intro W hW
    obtain ⟨s1, s2, s3⟩ := hW
    go_simp
    try (with_reducible rfl)
  simp only [Act.put, List.setIfInBounds_toArray, List.set_cons_zero, List.set_cons_succ]
  refine AnyJ.takeL (i := 2) (v := .pointer (some ⟨rb, 0, none⟩)) rfl rfl (by kernel_rfl) (by kernel_rfl) (by kernel_rfl) (by kernel_rfl) (fun _ _ _ h => h) (by rfl) ?_ ⟨v3, b0, e0⟩ ?_
  · intro W hW
    obtain ⟨s1, s2, s3⟩ := hW
    go_simp
    try (with_reducible rfl)
  simp only [Act.put, List.setIfInBounds_toArray, List.set_cons_zero, List.set_cons_succ]
  refine AnyJ.takeL (i := 3) (v := .int .i64 d) rfl rfl (by kernel_rfl) (by kernel_rfl) (by kernel_rfl) (by kernel_rfl) (fun _ _ _ h => h) (by rfl) ?_ ⟨v3, b0, e0⟩ ?_
  · intro W hW
    obtain ⟨s1, s2, s3⟩ := hW
    go_simp
    try (with_reducible rfl)
  simp only [Act.put, List.setIfInBounds_toArray, List.set_cons_zero, List.set_cons_succ]
  refine AnyJ.takeL (i := 4) (v := .int .i64 (16 - (m : Int))) rfl rfl (by kernel_rfl) (by kernel_rfl) (by kernel_rfl) (by kernel_rfl) (fun _ _ _ h => h) (by rfl) ?_ ⟨v3, b0, e0⟩ ?_
  · intro W hW
    obtain ⟨s1, s2, s3⟩ := hW
    go_simp
    try (with_reducible rfl)
  simp only [Act.put, List.setIfInBounds_toArray, List.set_cons_zero, List.set_cons_succ]
  refine AnyJ.takeL (i := 6) (v := .int .i64 (cnt : Int)) rfl rfl (by kernel_rfl) (by kernel_rfl) (by kernel_rfl) (by kernel_rfl) (fun _ _ _ h => h) (by rfl) ?_ ⟨v3, b0, e0⟩ ?_
  · intro W hW
    obtain ⟨s1, s2, s3⟩ := hW
    go_simp
    try (with_reducible rfl)
  simp only [Act.put, List.setIfInBounds_toArray, List.set_cons_zero, List.set_cons_succ]
  refine AnyJ.twoL (i := 5) (j := 7) (by kernel_rfl) rfl rfl (fun K hK => ?_) (fun K hK => ?_)
  · (go_simp; go_at_call 44; ((with_reducible refine H.out.2.2.2.2.2.2.1.mono ?_); rintro e w4 ⟨qc, rfl, ⟨k0, n0, s0, a1, l1, c1, a2, l2, c2, rfl⟩, hmv, ho⟩; have ho2 : Only (fun k => k = rb) wr w4 := (Only.drew _ _).trans ho; have hv4 := H.out.2.1.only ho2 (fun e => by omega); have hr4 := own_only H.out.2.2.1 ho2 (fun k hk e => by omega); have w3 := hv4.cell 3; have w3z := (hv4.alloc (.cells #[.int .i64 0, .int .i64 0, .string ⟨#[]⟩, .slice none 0 0, .slice none 0 0] 28)).cell 3; have HV4 := Lib.hid hv4; have HR4 := Lib.hid hr4; have HO4 := Lib.hid ho2; have HM := Lib.hid (MRes.mono (T := fun b => wr.heap.size ≤ b ∧ b < w4.heap.size) hmv (fun b hb => ⟨by have := hb.1; (try simp at this); omega, hb.2⟩)); have hnz : ∀ (j : Nat) (u : Value), [.int .i64 0, .int .i64 0, .string ⟨#[]⟩, .slice none 0 0, .slice none 0 0][j]? = some u → (w4.alloc (.cells #[.int .i64 0, .int .i64 0, .string ⟨#[]⟩, .slice none 0 0, .slice none 0 0] 28)).cell? ((⟨w4.heap.size, 0, none⟩ : Addr).add j) = some u := (fun j u hu => by rw [add_at]; exact ((show Blk (w4.alloc (.cells #[.int .i64 0, .int .i64 0, .string ⟨#[]⟩, .slice none 0 0, .slice none 0 0] 28)) w4.heap.size 28 [.int .i64 0, .int .i64 0, .string ⟨#[]⟩, .slice none 0 0, .slice none 0 0] from heap_alloc_new w4 _).cell j).trans hu); have HNZ := Lib.hid hnz; clear hnz; clear hmv ho ho2 hv4 hr4))
    refine hK.out _ _ (fun _ => ⟨w3, (H.out.1.ptr.only HO4.out (fun e => by omega)).cell 0, (H.out.1.deep.only HO4.out (fun e => by omega)).cell 0⟩) ?_
    clear hK K
    (try simp only [Act.put, List.setIfInBounds_toArray, List.set_cons_zero, List.set_cons_succ])
    refine AnyJ.oneL (i := 7) (by kernel_rfl) rfl (fun K hK => ?_)
    go_simp
    refine hK.out _ _ (fun _ => ⟨w3z, ((H.out.1.ptr.only HO4.out (fun e => by omega)).alloc _).cell 0, ((H.out.1.deep.only HO4.out (fun e => by omega)).alloc _).cell 0⟩) ?_
    clear hK K
    (try simp only [Act.put, List.setIfInBounds_toArray, List.set_cons_zero, List.set_cons_succ])
    refine AnyJ.rest (by kernel_rfl) ?_
    refine AnyJ.oneL (i := 8) (by kernel_rfl) rfl (fun K hK => ?_)
    (refine step_append_own (w := w4.alloc (.cells #[.int .i64 0, .int .i64 0, .string ⟨#[]⟩, .slice none 0 0, .slice none 0 0] 28)) rfl (.tmp 4) (.tmp 10) 25 rfl (N + 1) 28 i0 _ 5 80 Tryd.underlying25 hi0 hz0 hz1 hz2 rfl (by decide) (.slice op cnt oc) cnt cs rfl (HR4.out.alloc _) ⟨w4.heap.size, 0, none⟩ 1 1 [.int .i64 0, .int .i64 0, .string ⟨#[]⟩, .slice none 0 0, .slice none 0 0] rfl rfl HNZ.out (nm5 _ _ _ _ _ _ _ _ _) (by unfold maxLen; omega) (by omega) (Nat.le_trans HV4.out.lt (by simp)) ?_; intro vv w5 hown2 hgr hat; obtain ⟨g, cp, rfl⟩ := own_form hown2 (by omega); have hcl := HCL.out; obtain ⟨f0, f1, f2, f3, f4⟩ := five_at cs (.int .i64 0) (.int .i64 0) (.string ⟨#[]⟩) (.slice none 0 0) (.slice none 0 0) (cnt * 5) hcl; have y0 := (hown2.cellAt (cnt * 5) (by omega)).trans f0; have y1 := (hown2.cellAt (cnt * 5 + 1) (by omega)).trans f1; have y2 := (hown2.cellAt (cnt * 5 + 2) (by omega)).trans f2; have y3 := (hown2.cellAt (cnt * 5 + 3) (by omega)).trans f3; have y4 := (hown2.cellAt (cnt * 5 + 4) (by omega)).trans f4; have t0 := hown2.frozenAt (cnt * 5); have t1 := hown2.frozenAt (cnt * 5 + 1); have t2 := hown2.frozenAt (cnt * 5 + 2); have t3 := hown2.frozenAt (cnt * 5 + 3); have t4 := hown2.frozenAt (cnt * 5 + 4); have hgN : N < g := (hown2.lt g rfl).1; have hNg1 : ¬ N = g := (by omega); have hNg2 : ¬ g = N := (by omega); have hg5 : Only (fun k => some k = (Value.slice op cnt oc).ownBlock) w4 w5 := ((Only.alloc _ w4 _).trans (Only.ofGrown hgr (fun k e => e.symm))); have hN5 := (HV4.out).only hg5 (fun e => by have := (HR4.out.lt N e.symm).1; omega); have x3 := hN5.cell 3; have xf := hN5.frozen 3; have HG5 := Lib.hid hg5; have HOW := Lib.hid hown2; have HAT := Lib.hid (show some g = (Value.slice op cnt oc).ownBlock ∨ w4.heap.size ≤ g from hat.elim (fun h => .inl h) (fun h => .inr (hat_up h (by simp)))); clear hcl f0 f1 f2 f3 f4 hg5 hN5 hown2 hgr hat hgN)
    refine hK.out _ _ (fun _ => trivial) ?_
    clear hK K
    (try simp only [Act.put, List.setIfInBounds_toArray, List.set_cons_zero, List.set_cons_succ])
    refine AnyJ.takeL (i := 9) (v := .pointer (some ⟨g, cnt * 5, none⟩)) rfl rfl (by kernel_rfl) (by kernel_rfl) (by kernel_rfl) (by kernel_rfl) (fun _ _ _ h => h) (by rfl) ?_ trivial ?_
    · intro W hW
      clear hW
      go_simp
      try (with_reducible rfl)
    simp only [Act.put, List.setIfInBounds_toArray, List.set_cons_zero, List.set_cons_succ]
    refine AnyJ.takeL (i := 11) (v := .pointer (some ⟨N, 3, none⟩)) rfl rfl (by kernel_rfl) (by kernel_rfl) (by kernel_rfl) (by kernel_rfl) (fun _ _ _ h => h) (by rfl) ?_ trivial ?_
    · intro W hW
      clear hW
      go_simp
      try (with_reducible rfl)
    simp only [Act.put, List.setIfInBounds_toArray, List.set_cons_zero, List.set_cons_succ]
    refine AnyJ.twoL (i := 10) (j := 12) (by kernel_rfl) rfl rfl (fun K hK => ?_) (fun K hK => ?_)
    · go_simp
      refine hK.out _ _ (fun _ => trivial) ?_
      clear hK K
      (try simp only [Act.put, List.setIfInBounds_toArray, List.set_cons_zero, List.set_cons_succ])
      refine AnyJ.oneL (i := 12) (by kernel_rfl) rfl (fun K hK => ?_)
      go_simp
      refine hK.out _ _ (fun _ => trivial) ?_
      clear hK K
      (try simp only [Act.put, List.setIfInBounds_toArray, List.set_cons_zero, List.set_cons_succ])
      refine AnyJ.done (by kernel_rfl) ?_
      go_end0
      exact one_close H.out.1 H.out.2.1 (by rw [H.out.2.2.2.2.2.1]; exact H.out.2.2.1) H.out.2.2.2.1 HO4.out HG5.out H.out.2.2.2.2.2.1 HOW.out HAT.out HM.out (Or.inl rfl)
    · go_simp
      refine hK.out _ _ (fun _ => trivial) ?_
      clear hK K
      (try simp only [Act.put, List.setIfInBounds_toArray, List.set_cons_zero, List.set_cons_succ])
      refine AnyJ.oneL (i := 10) (by kernel_rfl) rfl (fun K hK => ?_)
      go_simp
      refine hK.out _ _ (fun _ => trivial) ?_
      clear hK K
      (try simp only [Act.put, List.setIfInBounds_toArray, List.set_cons_zero, List.set_cons_succ])
      refine AnyJ.done (by kernel_rfl) ?_
      go_end0
      exact one_close H.out.1 H.out.2.1 (by rw [H.out.2.2.2.2.2.1]; exact H.out.2.2.1) H.out.2.2.2.1 HO4.out HG5.out H.out.2.2.2.2.2.1 HOW.out HAT.out HM.out (Or.inr rfl)
  · go_simp
    refine hK.out _ _ (fun _ => ⟨(H.out.2.1.alloc _).cell 3, (H.out.1.ptr.alloc _).cell 0, (H.out.1.deep.alloc _).cell 0⟩) ?_
    clear hK K
    (try simp only [Act.put, List.setIfInBounds_toArray, List.set_cons_zero, List.set_cons_succ])
    refine AnyJ.oneL (i := 5) (by kernel_rfl) rfl (fun K hK => ?_)
    (go_simp; go_at_call 44; (with_reducible refine H.out.2.2.2.2.2.2.2.1.mono ?_); rintro e w4 ⟨qc, rfl, ⟨k0, n0, s0, a1, l1, c1, a2, l2, c2, rfl⟩, hmv, ho⟩; have ho2 : Only (fun k => k = rb) wr w4 := ((Only.alloc _ wr _).trans (Only.drew _ _)).trans ho; have hv4 := H.out.2.1.only ho2 (fun e => by omega); have hr4 := own_only H.out.2.2.1 ho2 (fun k hk e => by omega); have w3 := hv4.cell 3; have w3z := (hv4.alloc (.cells #[.int .i64 0, .int .i64 0, .string ⟨#[]⟩, .slice none 0 0, .slice none 0 0] 28)).cell 3; have HV4 := Lib.hid hv4; have HR4 := Lib.hid hr4; have HO4 := Lib.hid ho2; have HM := Lib.hid (MRes.mono (T := fun b => wr.heap.size ≤ b ∧ b < w4.heap.size) hmv (fun b hb => ⟨by have := hb.1; (try simp at this); omega, hb.2⟩)); have hnb : ∀ (j : Nat) (u : Value), [.int .i64 0, .int .i64 0, .string ⟨#[]⟩, .slice none 0 0, .slice none 0 0][j]? = some u → w4.cell? ((⟨wr.heap.size, 0, none⟩ : Addr).add j) = some u := (fun j u hu => by rw [add_at]; exact ((H.out.2.2.2.2.2.2.2.2.only ho (by omega)).cell j).trans hu); have HNB := Lib.hid hnb; clear hnb; clear hmv ho ho2 hv4 hr4)
    refine hK.out _ _ (fun _ => ⟨w3, (H.out.1.ptr.only HO4.out (fun e => by omega)).cell 0, (H.out.1.deep.only HO4.out (fun e => by omega)).cell 0⟩) ?_
    clear hK K
    (try simp only [Act.put, List.setIfInBounds_toArray, List.set_cons_zero, List.set_cons_succ])
    refine AnyJ.rest (by kernel_rfl) ?_
    refine AnyJ.oneL (i := 8) (by kernel_rfl) rfl (fun K hK => ?_)
    (refine step_append_own (w := w4) rfl (.tmp 4) (.tmp 10) 25 rfl (N + 1) 28 i0 _ 5 80 Tryd.underlying25 hi0 hz0 hz1 hz2 rfl (by decide) (.slice op cnt oc) cnt cs rfl HR4.out ⟨wr.heap.size, 0, none⟩ 1 1 [.int .i64 0, .int .i64 0, .string ⟨#[]⟩, .slice none 0 0, .slice none 0 0] rfl rfl HNB.out (nm5 _ _ _ _ _ _ _ _ _) (by unfold maxLen; omega) (by omega) HV4.out.lt ?_; intro vv w5 hown2 hgr hat; obtain ⟨g, cp, rfl⟩ := own_form hown2 (by omega); have hcl := HCL.out; obtain ⟨f0, f1, f2, f3, f4⟩ := five_at cs (.int .i64 0) (.int .i64 0) (.string ⟨#[]⟩) (.slice none 0 0) (.slice none 0 0) (cnt * 5) hcl; have y0 := (hown2.cellAt (cnt * 5) (by omega)).trans f0; have y1 := (hown2.cellAt (cnt * 5 + 1) (by omega)).trans f1; have y2 := (hown2.cellAt (cnt * 5 + 2) (by omega)).trans f2; have y3 := (hown2.cellAt (cnt * 5 + 3) (by omega)).trans f3; have y4 := (hown2.cellAt (cnt * 5 + 4) (by omega)).trans f4; have t0 := hown2.frozenAt (cnt * 5); have t1 := hown2.frozenAt (cnt * 5 + 1); have t2 := hown2.frozenAt (cnt * 5 + 2); have t3 := hown2.frozenAt (cnt * 5 + 3); have t4 := hown2.frozenAt (cnt * 5 + 4); have hgN : N < g := (hown2.lt g rfl).1; have hNg1 : ¬ N = g := (by omega); have hNg2 : ¬ g = N := (by omega); have hg5 : Only (fun k => some k = (Value.slice op cnt oc).ownBlock) w4 w5 := (Only.ofGrown hgr (fun k e => e.symm)); have hN5 := (HV4.out).only hg5 (fun e => by have := (HR4.out.lt N e.symm).1; omega); have x3 := hN5.cell 3; have xf := hN5.frozen 3; have HG5 := Lib.hid hg5; have HOW := Lib.hid hown2; have HAT := Lib.hid (show some g = (Value.slice op cnt oc).ownBlock ∨ w4.heap.size ≤ g from hat.elim (fun h => .inl h) (fun h => .inr (hat_up h (Nat.le_refl _)))); clear hcl f0 f1 f2 f3 f4 hg5 hN5 hown2 hgr hat hgN)
    refine hK.out _ _ (fun _ => trivial) ?_
    clear hK K
    (try simp only [Act.put, List.setIfInBounds_toArray, List.set_cons_zero, List.set_cons_succ])
    refine AnyJ.takeL (i := 9) (v := .pointer (some ⟨g, cnt * 5, none⟩)) rfl rfl (by kernel_rfl) (by kernel_rfl) (by kernel_rfl) (by kernel_rfl) (fun _ _ _ h => h) (by rfl) ?_ trivial ?_
    · intro W hW
      clear hW
      go_simp
      try (with_reducible rfl)
    simp only [Act.put, List.setIfInBounds_toArray, List.set_cons_zero, List.set_cons_succ]
    refine AnyJ.takeL (i := 11) (v := .pointer (some ⟨N, 3, none⟩)) rfl rfl (by kernel_rfl) (by kernel_rfl) (by kernel_rfl) (by kernel_rfl) (fun _ _ _ h => h) (by rfl) ?_ trivial ?_
    · intro W hW
      clear hW
      go_simp
      try (with_reducible rfl)
    simp only [Act.put, List.setIfInBounds_toArray, List.set_cons_zero, List.set_cons_succ]
    refine AnyJ.twoL (i := 10) (j := 12) (by kernel_rfl) rfl rfl (fun K hK => ?_) (fun K hK => ?_)
    · go_simp
      refine hK.out _ _ (fun _ => trivial) ?_
      clear hK K
      (try simp only [Act.put, List.setIfInBounds_toArray, List.set_cons_zero, List.set_cons_succ])
      refine AnyJ.oneL (i := 12) (by kernel_rfl) rfl (fun K hK => ?_)
      go_simp
      refine hK.out _ _ (fun _ => trivial) ?_
      clear hK K
      (try simp only [Act.put, List.setIfInBounds_toArray, List.set_cons_zero, List.set_cons_succ])
      refine AnyJ.done (by kernel_rfl) ?_
      go_end0
      exact one_close H.out.1 H.out.2.1 (by rw [H.out.2.2.2.2.2.1]; exact H.out.2.2.1) H.out.2.2.2.1 HO4.out HG5.out H.out.2.2.2.2.2.1 HOW.out HAT.out HM.out (Or.inl rfl)
    · go_simp
      refine hK.out _ _ (fun _ => trivial) ?_
      clear hK K
      (try simp only [Act.put, List.setIfInBounds_toArray, List.set_cons_zero, List.set_cons_succ])
      refine AnyJ.oneL (i := 10) (by kernel_rfl) rfl (fun K hK => ?_)
      go_simp
      refine hK.out _ _ (fun _ => trivial) ?_
      clear hK K
      (try simp only [Act.put, List.setIfInBounds_toArray, List.set_cons_zero, List.set_cons_succ])
      refine AnyJ.done (by kernel_rfl) ?_
      go_end0
      exact one_close H.out.1 H.out.2.1 (by rw [H.out.2.2.2.2.2.1]; exact H.out.2.2.1) H.out.2.2.2.1 HO4.out HG5.out H.out.2.2.2.2.2.1 HOW.out HAT.out HM.out (Or.inr rfl)
end Go.Proofs.YthlioinmeimhoaaDoor
