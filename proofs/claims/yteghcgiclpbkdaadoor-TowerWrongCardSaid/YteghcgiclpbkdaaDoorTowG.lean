/- tower.Free. -/
import Derived.Test.YteghcgiclpbkdaaDoorTowF
import Derived.Test.YteghcgiclpbkdaaDoorPureT
namespace Go.Proofs.YteghcgiclpbkdaaDoor
open Go.RowKit

def untag (tag : Nat → Tag) (i : Int) : Nat → Tag := fun b => match tag b with
  | .c j => if j = i then .free else .c j
  | x => x
theorem untag_q {tag : Nat → Tag} {i : Int} {b : Nat} {x : Thing} : untag tag i b = .q x ↔ tag b = .q x := by
  unfold untag
  cases h : tag b <;> simp
  split <;> simp
theorem untag_c {tag : Nat → Tag} {i j : Int} {b : Nat} (hj : j ≠ i) : untag tag i b = .c j ↔ tag b = .c j := by
  unfold untag
  cases h : tag b <;> simp
  split
  · rename_i k e
    subst e
    simp; exact fun e => hj e.symm
  · simp
theorem untag_free {tag : Nat → Tag} {i : Int} {b : Nat} (h : untag tag i b ≠ .free) : tag b ≠ .free ∧ tag b ≠ .c i := by
  unfold untag at h
  cases ht : tag b <;> simp [ht] at h ⊢
  exact h

section
variable {F : Nat → Prop} {w w2 : World} {t : Nat} {σ : TS} {mq mw : Nat} {tag : Nat → Tag} {qb : Thing → Option Nat} {cb : Int → Option Nat}

theorem TAt.untag (h : TAt F w t σ mq mw tag qb cb) {i : Int} (hi : cb i = none) : TAt (fun b => (F b ∧ tag b ≠ .free) ∧ tag b ≠ .c i) w t σ mq mw (Go.Proofs.YteghcgiclpbkdaaDoor.untag tag i) qb cb := by
  refine ⟨h.blk, h.mapq, h.mapw, ?_, ?_, ?_, h.qn, ?_, h.cn, ?_, fun b hb => ⟨⟨⟨(h.cov b (untag_free hb).1).1, (untag_free hb).1⟩, (untag_free hb).2⟩, (h.cov b (untag_free hb).1).2⟩⟩
  · simp [Go.Proofs.YteghcgiclpbkdaaDoor.untag, h.tagt]
  · simp [Go.Proofs.YteghcgiclpbkdaaDoor.untag, h.tagq]
  · simp [Go.Proofs.YteghcgiclpbkdaaDoor.untag, h.tagw]
  · intro x q hx
    obtain ⟨h1, l1, e, hq⟩ := h.qs x q hx
    exact ⟨h1, l1, e, hq.mono (fun b _ hb => untag_q.2 hb)⟩
  · intro j c hj
    have hne : j ≠ i := fun e => by rw [e, hi] at hj; cases hj
    obtain ⟨cl, e, hc⟩ := h.cs j c hj
    exact ⟨cl, e, hc.mono (fun b _ hb => (untag_c hne).2 hb)⟩
theorem TAt.shrink (h : TAt F w t σ mq mw tag qb cb) : TAt (fun b => F b ∧ b < w.heap.size) w t σ mq mw tag qb cb :=
  ⟨h.blk, h.mapq, h.mapw, h.tagt, h.tagq, h.tagw, h.qn, h.qs, h.cn, h.cs, fun b hb => ⟨h.cov b hb, (h.cov b hb).2⟩⟩
theorem TAt.wide {G : Nat → Prop} (h : TAt F w t σ mq mw tag qb cb) (hG : ∀ b, b < w.heap.size → F b → G b) : TAt G w t σ mq mw tag qb cb :=
  ⟨h.blk, h.mapq, h.mapw, h.tagt, h.tagq, h.tagw, h.qn, h.qs, h.cn, h.cs, fun b hb => ⟨hG b (h.cov b hb).2 (h.cov b hb).1, (h.cov b hb).2⟩⟩

/-- What is told grows: the tower is not touched. -/
theorem tower_out {G H : Nat → Prop} {ov : Value} {wa wb : World} {o : Obj} (h : TAt G wa t σ mq mw tag qb cb) (hG : ∀ b, G b → ov.ownBlock ≠ some b) (hg : (wa.alloc o).grownBy wb ov.ownBlock)
    (hH : ∀ b, b < wa.heap.size → G b → H b) : TAt H wb t σ mq mw tag qb cb := by
  have h1 := h.below (w2 := wa.alloc o) ((Below.refl _ _).alloc (Nat.le_refl _) _)
  have h2 : TAt (fun b => G b ∧ b < wa.heap.size) (wa.alloc o) t σ mq mw tag qb cb := (h.shrink).below ((Below.refl _ _).alloc (Nat.le_refl _) _)
  exact h2.other (T := fun b => ov.ownBlock = some b) (Only.ofGrown hg (fun k hk => hk)) (fun b hb e => hG b hb.1 e) (fun b hb => hH b hb.2 hb.1)

/-- The footprint of a tower while one goes: not its climb, not what is told, not the list that is gone through. -/
def Fo (w : World) (tag : Nat → Tag) (id : Int) (ov xv : Value) : Nat → Prop := fun b => (tag b ≠ .free ∧ tag b ≠ .c id) ∨ (w.heap.size ≤ b ∧ ov.ownBlock ≠ some b ∧ xv.ownBlock ≠ some b)

theorem askfree_q {I : List Int} {σ1 : TS} {id : Int} (wf : WF I σ1) (x : Thing) : QOK I ((freeQ (σ1.getQ x).1 (σ1.getQ x).2 id).1, (freeQ (σ1.getQ x).1 (σ1.getQ x).2 id).2.1) := freeQ_ok (wf.q x) id

/-- What the outer loop of Free holds at its head: n things are still to be left. -/
structure FrAt (w : World) (t mq mw : Nat) (tag : Nat → Tag) (σ : TS) (I : List Int) (id : Int) (c : Nat) (cl : Climb) (n : Nat) (ov : Value) (wr : World) (σ1 : TS) (o : List Int) : Prop where
  rep : ∃ tag1 qb cb, TAt (Fo w tag id ov (.slice none 0 0)) wr t σ1 mq mw tag1 qb cb
  out : wr.ownsRow w.heap.size 2 1 ov o.length (i64s o)
  only : Only (fun b => tag b ≠ .free) w wr
  clm : CRep (fun b => tag b = .c id) wr c cl
  wf : WF I σ1
  wait : WaitIn σ1 (some id)
  res : (freeN id cl.way n σ1).1 = (freeT σ id).1 ∧ o ++ (freeN id cl.way n σ1).2 = (freeT σ id).2
  len : o.length + n * 1000 ≤ 4000
  nk : n ≤ cl.way.length

/-- .. and of the inner one: xs is gone through from i on. -/
structure FiAt (w : World) (t mq mw : Nat) (tag : Nat → Tag) (σ : TS) (I : List Int) (id : Int) (c : Nat) (cl : Climb) (n : Nat) (xv : Value) (xs : List Int) (i : Nat) (ov : Value) (wr : World) (σ1 : TS) (o o' : List Int) : Prop where
  rep : ∃ tag1 qb cb, TAt (Fo w tag id ov xv) wr t σ1 mq mw tag1 qb cb
  out : wr.ownsRow w.heap.size 2 1 ov o.length (i64s o)
  lst : wr.ownsRow w.heap.size 2 1 xv xs.length (i64s xs)
  apart : ∀ g, xv.ownBlock = some g → ov.ownBlock ≠ some g
  only : Only (fun b => tag b ≠ .free) w wr
  clm : CRep (fun b => tag b = .c id) wr c cl
  wf : WF I σ1
  wait : WaitIn σ1 (some id)
  there : ∀ x ∈ xs, (σ1.who x).isSome
  il : i ≤ xs.length
  res : (freeN id cl.way n (onAll (xs.drop i) σ1).1).1 = (freeT σ id).1 ∧ o' ++ ((onAll (xs.drop i) σ1).2 ++ (freeN id cl.way n (onAll (xs.drop i) σ1).1).2) = (freeT σ id).2
  len : o'.length + (xs.length - i) + n * 1000 ≤ 4000
  nk : n ≤ cl.way.length
  tagf : ∀ b, tag b ≠ .free → b < w.heap.size

theorem fi_on {I : List Int} {id : Int} {c : Nat} {cl : Climb} {n : Nat} {xv : Value} {xs : List Int} {i : Nat} {ov : Value} {wr w6 : World} {σ1 : TS} {o : List Int} {tag1 tag6 : Nat → Tag} {qb1 qb6 : Thing → Option Nat} {cb1 : Int → Option Nat}
    (hF : FiAt w t mq mw tag σ I id c cl n xv xs i ov wr σ1 o o) (hi : i < xs.length) (_hT : TAt (Fo w tag id ov xv) wr t σ1 mq mw tag1 qb1 cb1)
    (hT6 : TAt (fun b => Fo w tag id ov xv b ∨ wr.heap.size ≤ b) w6 t (onT σ1 xs[i]).1 mq mw tag6 qb6 cb1) (hO : Only (Fo w tag id ov xv) wr w6) :
    FiAt w t mq mw tag σ I id c cl n xv xs (i + 1) ov w6 (onT σ1 xs[i]).1 o (o ++ (if (onT σ1 xs[i]).2 then [xs[i]] else [])) := by
  obtain ⟨rep, out, lst, apart, only, clm, wf, wait, there, il, res, len, nk, tagf⟩ := hF
  obtain ⟨a1, a2, a3⟩ := onT_ok xs[i] wf wait
  have hw : w.heap.size ≤ wr.heap.size := only.size
  have hdrop : xs.drop i = xs[i] :: xs.drop (i + 1) := by rw [List.drop_eq_getElem_cons hi]
  rw [hdrop] at res
  refine ⟨⟨tag6, qb6, cb1, hT6.wide (fun b _ hb => ?_)⟩, own_only out hO ?_, own_only lst hO ?_, apart, only.trans' hO ?_, clm.only hO ?_, a1, a2, fun x hx => by rw [a3]; exact there x hx, hi, ?_, ?_, nk, tagf⟩
  · rcases hb with hb | hb
    · exact hb
    · exact .inr ⟨by omega, fun e => by have := (out.lt b e).2; omega, fun e => by have := (lst.lt b e).2; omega⟩
  · intro g e hb
    rcases hb with hb | hb
    · have := tagf g hb.1; have := (out.lt g e).1; omega
    · exact hb.2.1 e
  · intro g e hb
    rcases hb with hb | hb
    · have := tagf g hb.1; have := (lst.lt g e).1; omega
    · exact hb.2.2 e
  · intro b hb h
    rcases h with h | h
    · exact h.1
    · omega
  · intro b hb h
    rcases h with h | h
    · exact h.2 hb
    · have := tagf b (by simp [hb]); omega
  · simp only [onAll] at res
    refine ⟨res.1, ?_⟩
    rw [← res.2]; simp [List.append_assoc]
  · simp only [List.length_append]
    split <;> simp <;> omega

theorem fi_out {I : List Int} {id : Int} {c : Nat} {cl : Climb} {n : Nat} {xv : Value} {xs : List Int} {i : Nat} {ov ov2 : Value} {wa wb : World} {σ1 : TS} {o o2 : List Int} {ob : Obj}
    (hF : FiAt w t mq mw tag σ I id c cl n xv xs i ov wa σ1 o o2) (hg : (wa.alloc ob).grownBy wb ov.ownBlock) (hov : wb.ownsRow w.heap.size 2 1 ov2 o2.length (i64s o2))
    (hat : ov2.ownBlock = ov.ownBlock ∨ ov2.ownBlock = some (wa.heap.size + 1)) : FiAt w t mq mw tag σ I id c cl n xv xs i ov2 wb σ1 o2 o2 := by
  obtain ⟨⟨tag1, qb1, cb1, hT⟩, out, lst, apart, only, clm, wf, wait, there, il, res, len, nk, tagf⟩ := hF
  have hog : Only (fun b => ov.ownBlock = some b) wa wb := (Only.alloc _ _ _).trans (Only.ofGrown hg (fun k hk => hk))
  have hw : w.heap.size ≤ wa.heap.size := only.size
  have hGov : ∀ b, Fo w tag id ov xv b → ov.ownBlock ≠ some b := fun b hb e => by
    rcases hb with hb | hb
    · have := tagf b hb.1; have := (out.lt b e).1; omega
    · exact hb.2.1 e
  refine ⟨⟨tag1, qb1, cb1, tower_out hT hGov hg (fun b hb hF => ?_)⟩, hov, own_only lst hog (fun g e e2 => apart g e e2), ?_, only.trans' hog (fun b hb e => by have := (out.lt b e).1; omega), clm.only hog (fun b hb e => by have := tagf b (by simp [hb]); have := (out.lt b e).1; omega), wf, wait, there, il, res, len, nk, tagf⟩
  · rcases hF with h | h
    · exact .inl h
    · refine .inr ⟨h.1, fun e => ?_, h.2.2⟩
      rcases hat with h2 | h2
      · exact h.2.1 (h2 ▸ e)
      · rw [h2] at e; injection e with e; omega
  · intro g e e2
    rcases hat with h2 | h2
    · exact apart g e (h2 ▸ e2)
    · rw [h2] at e2; injection e2 with e2; have := (lst.lt g e).2; omega

theorem fi_start {I : List Int} {id : Int} {c : Nat} {cl : Climb} {n : Nat} {xv : Value} {ov : Value} {wr wz w5 : World} {σ1 : TS} {o : List Int} {x : Thing} {q : Nat} {h1 l1 : List (Int × Int)} {tag1 tag2 : Nat → Tag} {qb1 qb2 : Thing → Option Nat} {cb1 : Int → Option Nat}
    (hx : cl.way.getD n nothing = x) (_hT : TAt (Fo w tag id ov (.slice none 0 0)) wr t σ1 mq mw tag1 qb1 cb1) (out : wr.ownsRow w.heap.size 2 1 ov o.length (i64s o)) (only : Only (fun b => tag b ≠ .free) w wr)
    (clm : CRep (fun b => tag b = .c id) wr c cl) (wf : WF I σ1) (wait : WaitIn σ1 (some id)) (res : (freeN id cl.way (n + 1) σ1).1 = (freeT σ id).1 ∧ o ++ (freeN id cl.way (n + 1) σ1).2 = (freeT σ id).2)
    (len : o.length + (n + 1) * 1000 ≤ 4000) (hI : I.length ≤ 1000) (nk : n + 1 ≤ cl.way.length) (tagf : ∀ b, tag b ≠ .free → b < w.heap.size)
    (hT2 : TAt (fun b => Fo w tag id ov (.slice none 0 0) b ∨ wr.heap.size ≤ b) wz t (σ1.setQ x (σ1.getQ x)) mq mw tag2 qb2 cb1) (hq2 : qb2 x = some q) (hO2 : Only (Fo w tag id ov (.slice none 0 0)) wr wz)
    (hg : (h1, l1) = σ1.getQ x) (hO5 : Only (fun b => tag2 b = .q x) wz w5) (hxo : w5.ownsRow wz.heap.size 2 1 xv (freeQ h1 l1 id).2.2.length (i64s (freeQ h1 l1 id).2.2))
    (hQ5 : QRep (fun b => tag2 b = .q x ∨ (wz.heap.size ≤ b ∧ xv.ownBlock ≠ some b)) w5 q (freeQ h1 l1 id).1 (freeQ h1 l1 id).2.1) :
    FiAt w t mq mw tag σ I id c cl n xv (freeQ h1 l1 id).2.2 0 ov w5 (σ1.setQ x ((freeQ h1 l1 id).1, (freeQ h1 l1 id).2.1)) o o := by
  have s1 : w.heap.size ≤ wr.heap.size := only.size
  have s2 : wr.heap.size ≤ wz.heap.size := hO2.size
  have hT5 := (hT2.shrink).stepQ (N := fun b => xv.ownBlock ≠ some b) hq2 hO5 hQ5
  rw [setQ_setQ] at hT5
  have hxlt := fun g e => hxo.lt g e
  have hsub : ∀ b, tag2 b = .q x → Fo w tag id ov (.slice none 0 0) b ∨ wr.heap.size ≤ b := fun b hb => (hT2.cov b (by simp [hb])).1
  have hfo : ∀ g, ov.ownBlock = some g → ¬ Fo w tag id ov (.slice none 0 0) g := fun g e hb => by
    rcases hb with hb | hb
    · have := tagf g hb.1; have := (out.lt g e).1; omega
    · exact hb.2.1 e
  have hq1 := askfree_q (id := id) wf x
  rw [← hg] at hq1
  dsimp only at hq1
  have hs : (σ1.getQ x).1 = h1 ∧ (σ1.getQ x).2 = l1 := by rw [← hg]; exact ⟨rfl, rfl⟩
  refine ⟨⟨_, _, _, hT5.wide (fun b hb5 hb => ?_)⟩, own_only (own_only out hO2 hfo) hO5 ?_, hxo.mono (by omega), ?_, (only.trans' hO2 ?_).trans' hO5 ?_, (clm.only hO2 ?_).only hO5 ?_, wf.setQ hq1, ?_, ?_, Nat.zero_le _, ?_, ?_, by omega, tagf⟩
  · rcases hb with ⟨hb | hb, hlt⟩ | hb
    · rcases hb with hb | hb
      · exact .inl hb
      · exact .inr ⟨hb.1, hb.2.1, fun e => by have := (hxlt b e).1; omega⟩
    · exact .inr ⟨by omega, fun e => by have := (out.lt b e).2; omega, fun e => by have := (hxlt b e).1; omega⟩
    · exact .inr ⟨by omega, fun e => by have := (out.lt b e).2; omega, hb.2⟩
  · intro g e hb
    rcases hsub g hb with h | h
    · exact hfo g e h
    · have := (out.lt g e).2; omega
  · intro g e e2
    have := (hxlt g e).1; have := (out.lt g e2).2; omega
  · intro b hb h
    rcases h with h | h
    · exact h.1
    · omega
  · intro b hb h
    rcases hsub b h with h | h
    · rcases h with h | h
      · exact h.1
      · omega
    · omega
  · intro b hb h
    rcases h with h | h
    · exact h.2 hb
    · have := tagf b (by simp [hb]); omega
  · intro b hb h
    have hbt := tagf b (by simp [hb])
    rcases hsub b h with h | h
    · rcases h with h | h
      · exact h.2 hb
      · omega
    · omega
  · have := setQ_free_waitIn wait x id
    rw [hs.1, hs.2] at this; exact this
  · intro y hy
    obtain ⟨hne, g, hg2, rfl⟩ := freeQ_out hy
    show (σ1.who g.1).isSome = true
    exact wait x g (by rw [hs.2]; exact hg2) (fun e => hne (by injection e))
  · have h0 := res
    simp only [freeN, hx, hs.1, hs.2] at h0
    simpa using h0
  · have hl := (wf.q x).len
    rw [hs.1, hs.2] at hl
    have := promote_out (stay id l1) (stay id h1)
    have hlen := congrArg List.length this
    have hst : (stay id l1).length ≤ l1.length := List.length_filter_le _ _
    simp only [List.length_append, List.length_map] at hlen
    have : (freeQ h1 l1 id).2.2.length ≤ 1000 := by unfold freeQ; omega
    omega

theorem fi_end {I : List Int} {id : Int} {c : Nat} {cl : Climb} {n : Nat} {xv : Value} {xs : List Int} {ov : Value} {wr : World} {σ1 : TS} {o : List Int}
    (hF : FiAt w t mq mw tag σ I id c cl n xv xs xs.length ov wr σ1 o o) : FrAt w t mq mw tag σ I id c cl n ov wr σ1 o := by
  obtain ⟨⟨tag1, qb1, cb1, hT⟩, out, lst, apart, only, clm, wf, wait, there, il, res, len, nk, tagf⟩ := hF
  simp only [List.drop_length, onAll, List.nil_append] at res
  refine ⟨⟨tag1, qb1, cb1, hT.wide (fun b _ hb => ?_)⟩, out, only, clm, wf, wait, res, by omega, nk⟩
  rcases hb with hb | hb
  · exact .inl hb
  · exact .inr ⟨hb.1, hb.2.1, by simp [Value.ownBlock]⟩

set_option maxHeartbeats 4000000 in
theorem tfree_any (id : Int) (I : List Int) (hI : I.length ≤ 1000) (h : TAt F w t σ mq mw tag qb cb) (hwf : WF I σ) (hwt : WaitIn σ none) :
    Calls Tryd.prog 35 #[ptrV t, .int .i64 id] w fun e w' => ∃ v, e = .returned v ∧ w'.ownsRow w.heap.size 2 1 v (freeT σ id).2.length (i64s (freeT σ id).2) ∧
      TRep (fun b => F b ∨ w.heap.size ≤ b) w' t (freeT σ id).1 ∧ Only F w w' := by
  have hc0 : w.cell? ⟨t, 1, none⟩ = some (.map (some mw)) := h.blk.cell 1
  have hl := h.mapw.lookup keyI64 Tryd.underlying101 (zeroClimb w) id
  simp only [i64V] at hl
  unfold ptrV at hl ⊢
  cases hi : cb id with
  | none =>
    have hs : freeT σ id = (σ, []) := by simp [freeT, h.cn id hi]
    rw [hi] at hl
    rw [hs]
    simp only [Option.map_none, Option.getD_none] at hl
    have HH := Lib.hid h
    clear h hi hs
    go_enter Tryd.func35, Tryd.ntmps35
    go_wp2
    go_ret
    exact ⟨_, rfl, ⟨rfl, .inl ⟨rfl, rfl⟩⟩, ⟨mq, mw, tag, qb, cb, HH.out.wide (fun _ _ h => .inl h)⟩, Only.refl _ _⟩
  | some c =>
    obtain ⟨cl, e, hcr⟩ := h.cs id c hi
    rw [hi] at hl
    simp only [Option.map_some, Option.getD_some] at hl
    obtain ⟨w2, hdel, hm2, ho2⟩ := h.mapw.delete (ut := 2) (ty := 0) keyI64 Tryd.underlying101 id
    simp only [i64V] at hdel
    have hT2 := (h.delC hm2 ho2).untag (i := id) (by simp)
    have HT2 := Lib.hid hT2
    have hcne : ∀ b, tag b = .c id → ¬ (b = mw) := fun b hb e => by rw [e, h.tagw] at hb; cases hb
    have hcr2 := hcr.only ho2 hcne
    have HCR := Lib.hid hcr2
    have HH := Lib.hid h
    have HE := Lib.hid e
    have HO2 := Lib.hid ho2
    obtain ⟨wv, a1, a2, a3, a4⟩ := hcr2
    have k2 : w2.cell? ⟨c, 2, none⟩ = some (.int .i64 cl.asked) := a2.cell 2
    have hca : (0 : Int) ≤ (cl.asked : Int) := by omega
    have hcb : (cl.asked : Int) ≤ 3 := by have := hwf.c id cl e; omega
    have HW := Lib.hid (And.intro hwf hwt)
    clear h hi e hcr hm2 ho2 hT2 a1 a2 a3 a4 hcne hwf hwt
    go_enter Tryd.func35, Tryd.ntmps35
    go_wp2
    go_loopg [6, 7] cl.asked (fun n ov kv wr => ∃ σ1 o, kv = .int .i64 ((n : Int) - 1) ∧ FrAt w t mq mw tag σ I id c cl n ov wr σ1 o)
    case atStart =>
      refine ⟨σ.setC id none, [], rfl, ⟨⟨_, _, _, HT2.out.wide (fun b _ hb => .inl ⟨hb.1.2, hb.2⟩)⟩, ⟨rfl, .inl ⟨rfl, rfl⟩⟩, HO2.out.mono (fun b _ e => by rw [e]; simp [HH.out.tagw]), HCR.out, HW.out.1.delC id, ?_, ?_, by simp; omega, (HW.out.1.c id cl HE.out).2.1⟩⟩
      · intro x g hg hne
        have := HW.out.2 x g hg (by simp)
        have h2 : g.1 ≠ id := fun e => hne (by rw [e])
        simpa [TS.setC, h2] using this
      · unfold freeT; rw [HE.out]; simp
    case round =>
      obtain ⟨σ1, o, rfl, hF⟩ := hrel
      clear hdel k2 hl hc0
      obtain ⟨⟨tag1, qb1, cb1, hT⟩, out, only, clm, wf, wait, res, len, nk⟩ := hF
      cases gk with
      | zero =>
        have HX := Lib.hid (And.intro hT (And.intro out (And.intro only res)))
        clear hT out only clm wf wait res
        go_wp2
        go_ret
        simp only [freeN, List.append_nil] at HX
        have hw0 : w.heap.size ≤ wr.heap.size := HX.out.2.2.1.size
        have hT9 : TAt (fun b => F b ∨ w.heap.size ≤ b) wr t σ1 mq mw tag1 qb1 cb1 := HX.out.1.wide (fun b _ hb => by
          rcases hb with hb | hb
          · exact .inl (HH.out.cov b hb.1).1
          · exact .inr hb.1)
        rw [HX.out.2.2.2.1] at hT9
        exact ⟨u6, rfl, by rw [← HX.out.2.2.2.2]; exact HX.out.2.1, ⟨_, _, _, _, _, hT9⟩, HX.out.2.2.1.mono (fun b _ hb => (HH.out.cov b hb).1)⟩
      | succ n =>
        have hk : (((n + 1 : Nat) : Int) - 1) = (n : Int) := by omega
        rw [hk]
        have hnl : n < cl.way.length := by omega
        obtain ⟨wv, a1, a2, a3, a4⟩ := clm
        obtain ⟨gw, wc, rfl⟩ : ∃ gw wc, wv = .slice (some ⟨gw, 0, none⟩) cl.way.length wc := by
          rcases ownsRow_cases a3 with ⟨_, h0, _⟩ | h
          · omega
          · exact h
        obtain ⟨rest, hBw, _, _, hcw, hcm⟩ := blk_of_ownsRow a3
        obtain ⟨e0, e1, e2⟩ := tcells_at cl.way n hnl
        have hcl3 := tcells_length cl.way
        have x0 : wr.cell? ⟨gw, n * 3, none⟩ = some (.int .i64 cl.way[n].n) := by rw [hBw.cell, List.getElem?_append_left (by omega)]; exact e0
        have x1 : wr.cell? ⟨gw, n * 3 + 1, none⟩ = some (.string cl.way[n].a) := by rw [hBw.cell, List.getElem?_append_left (by omega)]; exact e1
        have x2 : wr.cell? ⟨gw, n * 3 + 2, none⟩ = some (.string cl.way[n].b) := by rw [hBw.cell, List.getElem?_append_left (by omega)]; exact e2
        have k0 : wr.cell? ⟨c, 0, none⟩ = some (.slice (some ⟨gw, 0, none⟩) cl.way.length wc) := a2.cell 0
        have HCL := Lib.hid (show CRep (fun b => tag b = .c id) wr c cl from ⟨_, a1, a2, a3, a4⟩)
        have HT := Lib.hid hT
        have HX := Lib.hid (And.intro out (And.intro only (And.intro wf (And.intro wait res))))
        have hn0 : (0 : Int) ≤ (n : Int) := by omega
        have hnl2 : (n : Int) < (cl.way.length : Int) := by omega
        have hway : cl.way.length ≤ 9223372036854775807 := by unfold maxLen at hcm; omega
        clear a1 a2 a3 a4 hBw e0 e1 e2 hcl3 hT out only wf wait res hk
        go_wp2_with fail
        refine (at_any cl.way[n] HT.out).mono ?_
        rintro e wz ⟨q, tag2, qb2, rfl, hT2, hq2, hO2⟩
        obtain ⟨h1, l1, e1, hQ2⟩ := hT2.qs _ q hq2
        have hgq : (h1, l1) = σ1.getQ cl.way[n] := by
          simp only [TS.setQ, if_true, Option.some.injEq] at e1
          exact e1.symm
        have hln : h1.length + l1.length ≤ 1048576 := by
          have := (HX.out.2.2.1.q cl.way[n]).len
          rw [← hgq] at this
          dsimp only at this
          omega
        have hS : ∀ b, tag2 b = .q cl.way[n] → b < wz.heap.size := fun b hb => (hT2.cov b (by simp [hb])).2
        have HT2b := Lib.hid (And.intro hT2 (And.intro hq2 (And.intro hO2 hgq)))
        clear hT2 hq2 hO2 e1 hgq x0 x1 x2 k0
        go_wp2_with fail
        refine (free_any id hQ2 hln hS).mono ?_
        rintro e w5 ⟨xv, rfl, hxo, hQ5, hO5⟩
        have hfi := fi_start (xv := xv) (x := cl.way[n]) (by simp [List.getD, hnl]) HT.out HX.out.1 HX.out.2.1 HCL.out HX.out.2.2.1 HX.out.2.2.2.1 HX.out.2.2.2.2 len hI nk (fun b hb => (HH.out.cov b hb).2) HT2b.out.1 HT2b.out.2.1 HT2b.out.2.2.1 HT2b.out.2.2.2 hO5 hxo hQ5
        obtain ⟨xa, xc, hxv⟩ : ∃ xa xc, xv = .slice xa (freeQ h1 l1 id).2.2.length xc := by
          rcases ownsRow_cases hxo with ⟨h, h0, _⟩ | ⟨g, cap, h⟩
          · exact ⟨none, 0, by rw [h, h0]⟩
          · exact ⟨_, _, h⟩
        have hxl : (freeQ h1 l1 id).2.2.length ≤ 4000 := by have := hfi.len; omega
        generalize hxs : (freeQ h1 l1 id).2.2 = xs at hfi hxv hxl
        subst hxv
        have HFI := Lib.hid hfi
        clear hfi hxo hQ5 hO5 hQ2 hS hln hxs
        go_wp2
        obtain ⟨wo, hwo⟩ : ∃ wo : World, wo = wr := ⟨_, rfl⟩
        clear hwo
        go_loopg [6, 44] xs.length (fun m ov iv wr2 => ∃ i σ2 o2, iv = .int .i64 ((i : Nat) : Int) ∧ i + m = xs.length ∧ FiAt w t mq mw tag σ I id c cl n (.slice xa xs.length xc) xs i ov wr2 σ2 o2 o2)
        case atStart => exact ⟨0, _, o, rfl, by omega, HFI.out⟩
        case round =>
          obtain ⟨i, σ2, o2, rfl, him, hfi⟩ := hrel
          have HG := Lib.hid hfi
          clear HFI HT2b HX HT HCL HT2 HCR HO2 HE HW
          cases gk with
          | zero =>
            have hie : i = xs.length := by omega
            subst hie
            have hlx : ¬ ((xs.length : Int) < (xs.length : Int)) := by omega
            clear hfi
            go_wp2
            go_roundg n
            case measure => omega
            case rel => exact ⟨σ2, o2, rfl, fi_end HG.out⟩
          | succ m =>
            have hil : i < xs.length := by omega
            obtain ⟨⟨tag5, qb5, cb5, hT5⟩, out5, lst5, _, _, _, wf5, wait5, there5, _, _, len5, _, _⟩ := hfi
            obtain ⟨gx, hxa⟩ : ∃ gx, xa = some ⟨gx, 0, none⟩ := by
              rcases ownsRow_cases lst5 with ⟨h, h0, _⟩ | ⟨g, cap, h⟩
              · omega
              · injection h with h1; exact ⟨g, h1⟩
            subst hxa
            obtain ⟨restx, hBx, hlx, _, hcx, hcmx⟩ := blk_of_ownsRow lst5
            have x0 : wr.cell? ⟨gx, i, none⟩ = some (.int .i64 xs[i]) := by
              rw [hBx.cell, List.getElem?_append_left (by simpa [i64s] using hil)]; simp [i64s, hil]
            have hltI : (i : Int) < (xs.length : Int) := by omega
            have hxl2 : xs.length ≤ 9223372036854775807 := by omega
            obtain ⟨clx, hclx⟩ : ∃ clx, σ2.who xs[i] = some clx := Option.isSome_iff_exists.1 (there5 _ (List.getElem_mem hil))
            obtain ⟨_, hcl1, hcl2⟩ := wf5.c _ _ hclx
            have hbd5 : ∀ x, (σ2.getQ x).1.length + (σ2.getQ x).2.length + clx.way.length ≤ 1048576 := fun x => by have := (wf5.q x).len; omega
            have hw5 : clx.way.length ≤ 1048576 := by omega
            have ho2l : o2.length ≤ 4000 := by omega
            have hw0 : w.heap.size ≤ wr.heap.size := HG.out.only.size
            have HOut := Lib.hid out5
            have HBD := Lib.hid (And.intro hclx (And.intro hcl1 (And.intro hw5 hbd5)))
            have HT5 := Lib.hid hT5
            clear hT5 out5 lst5 wf5 wait5 there5 len5 hBx hlx hclx hcl1 hcl2 hbd5 hw5
            go_wp2_with fail
            refine (on_any xs[i] HT5.out HBD.out.1 HBD.out.2.1 HBD.out.2.2.1 HBD.out.2.2.2).mono ?_
            rintro e w6 ⟨tag6, qb6, rfl, hT6, hO6⟩
            have hf6 := fi_on HG.out hil HT5.out hT6 hO6
            cases hb6 : (onT σ2 xs[i]).2 with
            | false =>
              rw [hb6] at hf6
              simp only [Bool.false_eq_true, if_false, List.append_nil] at hf6
              have HF6 := Lib.hid hf6
              clear hf6 hb6 hT6 hO6 x0
              go_wp2
              go_roundg m
              case measure => omega
              case rel => exact ⟨i + 1, _, o2, by go_num, by omega, HF6.out⟩
            | true =>
              rw [hb6] at hf6
              simp only [if_true] at hf6
              have hof := hf6.out
              have hsz6 : w.heap.size ≤ w6.heap.size := hf6.only.size
              obtain ⟨i1, hi1, hy0, hy1, hy2⟩ := info_parts infoI64
              have HI := Lib.hid (And.intro hi1 (And.intro hy0 (And.intro hy1 hy2)))
              have HF6 := Lib.hid hf6
              have HOF := Lib.hid hof
              clear hf6 hb6 hT6 hO6 x0 hof hi1 hy0 hy1 hy2
              go_wp2_with (at_builtin; refine wpList_append_own_at _ rfl (.tmp 51) (.tmp 53) 44 rfl w.heap.size 2 i1 (.int .i64 0) 1 8 Tryd.underlying44 HI.out.1 HI.out.2.1 HI.out.2.2.1 HI.out.2.2.2 rfl (by decide) u6 o2.length (i64s o2) rfl (HOF.out.alloc _) ⟨w6.heap.size, 0, none⟩ 1 1 [.int .i64 xs[i]] rfl rfl (cell_one_new _ _ _) (by simp [Value.oneCell']) (by unfold maxLen; omega) (by omega) (by simp; omega) ?_)
              intro ov wb hownb hgrowb _ hatb
              have hf7 := fi_out (ov2 := ov) HF6.out hgrowb (by simpa [i64s] using hownb) hatb
              have HF7 := Lib.hid hf7
              clear hf7 hownb hgrowb hatb
              go_wp2
              go_roundg m
              case measure => omega
              case rel => exact ⟨i + 1, _, _, by go_num, by omega, HF7.out⟩
end
end Go.Proofs.YteghcgiclpbkdaaDoor
