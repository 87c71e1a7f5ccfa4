/- A tower in memory. -/
import Derived.Test.YteghcgiclpbkdaaDoorQueD
import Derived.Test.YteghcgiclpbkdaaDoorTowB
namespace Go.Proofs.YteghcgiclpbkdaaDoor
open Go.RowKit

inductive Tag where
  | free | tw | mq | mw
  | q (x : Thing)
  | c (i : Int)

def ptrV (b : Nat) : Value := .pointer (some ⟨b, 0, none⟩)
/-- The cells of things, one behind the other. -/
def tcells (l : List Thing) : List Value := l.flatMap fun x => [.int .i64 x.n, .string x.a, .string x.b]
theorem tcells_length (l : List Thing) : (tcells l).length = l.length * 3 := by
  induction l with
  | nil => rfl
  | cons g l ih => simp [tcells] at ih ⊢; omega
theorem tcells_at (l : List Thing) : ∀ i (h : i < l.length), (tcells l)[i * 3]? = some (.int .i64 l[i].n) ∧ (tcells l)[i * 3 + 1]? = some (.string l[i].a) ∧ (tcells l)[i * 3 + 2]? = some (.string l[i].b) := by
  induction l with
  | nil => intro i h; simp at h
  | cons g l ih =>
    intro i h
    cases i with
    | zero => exact ⟨rfl, rfl, rfl⟩
    | succ i =>
      have := ih i (by simpa using h)
      rw [show (i + 1) * 3 = i * 3 + 3 by omega]
      exact this

/-- Block c is a climb; what it leads to lies in S. -/
def CRep (S : Nat → Prop) (w : World) (c : Nat) (cl : Climb) : Prop :=
  ∃ wv, S c ∧ Blk w c 107 [wv, .int .i64 cl.mode, .int .i64 cl.asked, .bool cl.whole] ∧ w.ownsRow 0 110 3 wv cl.way.length (tcells cl.way) ∧ (∀ g, wv.ownBlock = some g → S g ∧ g ≠ c)
theorem CRep.only {S T : Nat → Prop} {w w2 : World} {c : Nat} {cl : Climb} (hq : CRep S w c cl) (ho : Only T w w2) (hd : ∀ b, S b → ¬ T b) : CRep S w2 c cl := by
  obtain ⟨wv, h1, h2, h3, h4⟩ := hq
  exact ⟨wv, h1, h2.only ho (hd _ h1), own_only h3 ho (fun g hg => hd g (h4 g hg).1), h4⟩
theorem CRep.mono {S T : Nat → Prop} {w : World} {c : Nat} {cl : Climb} (hq : CRep S w c cl) (hd : ∀ b, b < w.heap.size → S b → T b) : CRep T w c cl := by
  obtain ⟨wv, h1, h2, h3, h4⟩ := hq
  exact ⟨wv, hd _ h2.lt h1, h2, h3, fun g hg => ⟨hd g (h3.lt g hg).2 (h4 g hg).1, (h4 g hg).2⟩⟩

/-- Block t is a tower that holds σ; its blocks are tagged, and lie in F. -/
structure TAt (F : Nat → Prop) (w : World) (t : Nat) (σ : TS) (mq mw : Nat) (tag : Nat → Tag) (qb : Thing → Option Nat) (cb : Int → Option Nat) : Prop where
  blk : Blk w t 103 [.map (some mq), .map (some mw)]
  mapq : MapRep thingV w mq (fun x => (qb x).map ptrV)
  mapw : MapRep i64V w mw (fun i => (cb i).map ptrV)
  tagt : tag t = .tw
  tagq : tag mq = .mq
  tagw : tag mw = .mw
  qn : ∀ x, qb x = none → σ.queue x = none
  qs : ∀ x q, qb x = some q → ∃ h l, σ.queue x = some (h, l) ∧ QRep (fun b => tag b = .q x) w q h l
  cn : ∀ i, cb i = none → σ.who i = none
  cs : ∀ i c, cb i = some c → ∃ cl, σ.who i = some cl ∧ CRep (fun b => tag b = .c i) w c cl
  cov : ∀ b, tag b ≠ .free → F b ∧ b < w.heap.size

section
variable {F : Nat → Prop} {w w2 : World} {t : Nat} {σ : TS} {mq mw : Nat} {tag : Nat → Tag} {qb : Thing → Option Nat} {cb : Int → Option Nat}

theorem TAt.other {T G : Nat → Prop} (h : TAt F w t σ mq mw tag qb cb) (ho : Only T w w2) (hd : ∀ b, F b → ¬ T b) (hG : ∀ b, F b → G b) : TAt G w2 t σ mq mw tag qb cb := by
  have hd2 : ∀ b, tag b ≠ .free → ¬ T b := fun b hb => hd b (h.cov b hb).1
  refine ⟨h.blk.only ho (hd2 _ (by simp [h.tagt])), h.mapq.only ho (hd2 _ (by simp [h.tagq])), h.mapw.only ho (hd2 _ (by simp [h.tagw])), h.tagt, h.tagq, h.tagw, h.qn, ?_, h.cn, ?_, fun b hb => ⟨hG b (h.cov b hb).1, Nat.lt_of_lt_of_le (h.cov b hb).2 ho.size⟩⟩
  · intro x q hx
    obtain ⟨h1, l1, e, hq⟩ := h.qs x q hx
    exact ⟨h1, l1, e, hq.only ho (fun b hb => hd2 b (by simp [hb]))⟩
  · intro i c hi
    obtain ⟨cl, e, hc⟩ := h.cs i c hi
    exact ⟨cl, e, hc.only ho (fun b hb => hd2 b (by simp [hb]))⟩
theorem TAt.below (h : TAt F w t σ mq mw tag qb cb) (hb : Below w.heap.size w w2) : TAt F w2 t σ mq mw tag qb cb :=
  h.other (Only.ofBelow hb (fun _ => False)) (fun _ _ h => h) (fun _ h => h)

/-- The tags behind a step that made new blocks, some of which belong to k. -/
def newTag (tag : Nat → Tag) (a b : Nat) (N : Nat → Prop) [DecidablePred N] (k : Tag) : Nat → Tag := fun i => if i < a then tag i else if i < b ∧ N i then k else .free

theorem TAt.stepQ {N : Nat → Prop} [DecidablePred N] (h : TAt F w t σ mq mw tag qb cb) {x : Thing} {q : Nat} (hx : qb x = some q) {h2 l2 : List (Int × Int)} (ho : Only (fun b => tag b = .q x) w w2)
    (hq : QRep (fun b => tag b = .q x ∨ (w.heap.size ≤ b ∧ N b)) w2 q h2 l2) :
    TAt (fun b => F b ∨ (w.heap.size ≤ b ∧ N b)) w2 t (σ.setQ x (h2, l2)) mq mw (newTag tag w.heap.size w2.heap.size N (.q x)) qb cb := by
  have hlt : ∀ b, tag b ≠ .free → b < w.heap.size := fun b hb => (h.cov b hb).2
  have hsame : ∀ b, b < w.heap.size → newTag tag w.heap.size w2.heap.size N (.q x) b = tag b := fun b hb => by simp [newTag, hb]
  have hsz := ho.size
  refine ⟨h.blk.only ho (by simp [h.tagt]), h.mapq.only ho (by simp [h.tagq]), h.mapw.only ho (by simp [h.tagw]), ?_, ?_, ?_, ?_, ?_, h.cn, ?_, ?_⟩
  · rw [hsame _ (hlt _ (by simp [h.tagt]))]; exact h.tagt
  · rw [hsame _ (hlt _ (by simp [h.tagq]))]; exact h.tagq
  · rw [hsame _ (hlt _ (by simp [h.tagw]))]; exact h.tagw
  · intro y hy
    have : y ≠ x := fun e => by rw [e, hx] at hy; cases hy
    simp [TS.setQ, this, h.qn y hy]
  · intro y p hy
    by_cases e : y = x
    · subst e
      rw [hx] at hy; cases hy
      refine ⟨h2, l2, by simp [TS.setQ], hq.mono (fun b hb hbq => ?_)⟩
      rcases hbq with hbq | hbq
      · show newTag _ _ _ _ _ b = _
        rw [hsame _ (hlt _ (by simp [hbq]))]; exact hbq
      · simp [newTag, hb, hbq.2, Nat.not_lt.2 hbq.1]
    · obtain ⟨h1, l1, e1, hq1⟩ := h.qs y p hy
      refine ⟨h1, l1, by simp [TS.setQ, e, e1], (hq1.only ho (fun b hb hb2 => by rw [hb] at hb2; injection hb2 with hb2; exact e hb2)).mono (fun b hb hbq => ?_)⟩
      show newTag _ _ _ _ _ b = _
      rw [hsame _ (hlt _ (by simp [hbq]))]; exact hbq
  · intro i c hi
    obtain ⟨cl, e1, hc⟩ := h.cs i c hi
    refine ⟨cl, e1, (hc.only ho (fun b hb hb2 => by rw [hb] at hb2; cases hb2)).mono (fun b hb hbq => ?_)⟩
    show newTag _ _ _ _ _ b = _
    rw [hsame _ (hlt _ (by simp [hbq]))]; exact hbq
  · intro b hb
    by_cases h1 : b < w.heap.size
    · rw [hsame b h1] at hb
      exact ⟨.inl (h.cov b hb).1, by omega⟩
    · by_cases h2 : b < w2.heap.size ∧ N b
      · exact ⟨.inr ⟨by omega, h2.2⟩, h2.1⟩
      · simp [newTag, h1, h2] at hb

theorem TAt.stepC (h : TAt F w t σ mq mw tag qb cb) {i : Int} {c : Nat} (hi : cb i = some c) {cl : Climb} (ho : Only (fun b => tag b = .c i) w w2) (hc : CRep (fun b => tag b = .c i) w2 c cl) :
    TAt F w2 t (σ.setC i (some cl)) mq mw tag qb cb := by
  refine ⟨h.blk.only ho (by simp [h.tagt]), h.mapq.only ho (by simp [h.tagq]), h.mapw.only ho (by simp [h.tagw]), h.tagt, h.tagq, h.tagw, h.qn, ?_, ?_, ?_, fun b hb => ⟨(h.cov b hb).1, Nat.lt_of_lt_of_le (h.cov b hb).2 ho.size⟩⟩
  · intro y p hy
    obtain ⟨h1, l1, e1, hq1⟩ := h.qs y p hy
    exact ⟨h1, l1, e1, hq1.only ho (fun b hb hb2 => by rw [hb] at hb2; cases hb2)⟩
  · intro j hj
    have : j ≠ i := fun e => by rw [e, hi] at hj; cases hj
    simp [TS.setC, this, h.cn j hj]
  · intro j d hj
    by_cases e : j = i
    · subst e
      rw [hi] at hj; cases hj
      exact ⟨cl, by simp [TS.setC], hc⟩
    · obtain ⟨cl1, e1, hc1⟩ := h.cs j d hj
      exact ⟨cl1, by simp [TS.setC, e, e1], hc1.only ho (fun b hb hb2 => by rw [hb] at hb2; injection hb2 with hb2; exact e hb2)⟩

theorem TAt.newQ (h : TAt F w t σ mq mw tag qb cb) {x : Thing} (hx : qb x = none) {w1 : World} {q : Nat} (hb : Below w.heap.size w w1) (hq : QRep (fun b => w.heap.size ≤ b) w1 q [] [])
    (hm : MapRep thingV w2 mq (fun y => if y = x then some (ptrV q) else (qb y).map ptrV)) (ho : Only (fun b => b = mq) w1 w2) :
    TAt (fun b => F b ∨ w.heap.size ≤ b) w2 t (σ.setQ x ([], [])) mq mw (newTag tag w.heap.size w2.heap.size (fun _ => True) (.q x)) (fun y => if y = x then some q else qb y) cb := by
  have hmq := (h.cov mq (by simp [h.tagq])).2
  have ho1 : Only (fun b => b = mq) w w2 := (Only.ofBelow hb _).trans ho
  have hlt : ∀ b, tag b ≠ .free → b < w.heap.size := fun b hb => (h.cov b hb).2
  have hsame : ∀ b, b < w.heap.size → newTag tag w.heap.size w2.heap.size (fun _ => True) (.q x) b = tag b := fun b hb => by simp [newTag, hb]
  have hsz := ho1.size
  have hne : ∀ b, tag b ≠ .mq → b ≠ mq := fun b hb e => hb (e ▸ h.tagq)
  refine ⟨h.blk.only ho1 (hne _ (by simp [h.tagt])), hm.congr (fun y => by by_cases e : y = x <;> simp [e]), h.mapw.only ho1 (hne _ (by simp [h.tagw])), ?_, ?_, ?_, ?_, ?_, h.cn, ?_, ?_⟩
  · rw [hsame _ (hlt _ (by simp [h.tagt]))]; exact h.tagt
  · rw [hsame _ (hlt _ (by simp [h.tagq]))]; exact h.tagq
  · rw [hsame _ (hlt _ (by simp [h.tagw]))]; exact h.tagw
  · intro y hy
    by_cases e : y = x
    · simp [e] at hy
    · simp only [e, if_false] at hy; simp [TS.setQ, e, h.qn y hy]
  · intro y p hy
    by_cases e : y = x
    · subst e
      simp only [if_true, Option.some.injEq] at hy
      subst hy
      refine ⟨[], [], by simp [TS.setQ], (hq.only ho (fun b hb hb2 => by omega)).mono (fun b hb hbq => ?_)⟩
      simp [newTag, hb, Nat.not_lt.2 hbq]
    · simp only [e, if_false] at hy
      obtain ⟨h1, l1, e1, hq1⟩ := h.qs y p hy
      refine ⟨h1, l1, by simp [TS.setQ, e, e1], (hq1.only ho1 (fun b hb => hne b (by simp [hb]))).mono (fun b hb hbq => ?_)⟩
      show newTag _ _ _ _ _ b = _
      rw [hsame _ (hlt _ (by simp [hbq]))]; exact hbq
  · intro i c hi
    obtain ⟨cl, e1, hc⟩ := h.cs i c hi
    refine ⟨cl, e1, (hc.only ho1 (fun b hb => hne b (by simp [hb]))).mono (fun b hb hbq => ?_)⟩
    show newTag _ _ _ _ _ b = _
    rw [hsame _ (hlt _ (by simp [hbq]))]; exact hbq
  · intro b hb
    by_cases h1 : b < w.heap.size
    · rw [hsame b h1] at hb
      exact ⟨.inl (h.cov b hb).1, by omega⟩
    · by_cases h2 : b < w2.heap.size
      · exact ⟨.inr (by omega), h2⟩
      · simp [newTag, h1, h2] at hb

theorem TAt.newC (h : TAt F w t σ mq mw tag qb cb) {i : Int} {w1 : World} {c : Nat} {cl : Climb} (hb : Below w.heap.size w w1) (hc : CRep (fun b => w.heap.size ≤ b) w1 c cl)
    (hm : MapRep i64V w2 mw (fun j => if j = i then some (ptrV c) else (cb j).map ptrV)) (ho : Only (fun b => b = mw) w1 w2) :
    TAt (fun b => F b ∨ w.heap.size ≤ b) w2 t (σ.setC i (some cl)) mq mw (newTag tag w.heap.size w2.heap.size (fun _ => True) (.c i)) qb (fun j => if j = i then some c else cb j) := by
  have hmq := (h.cov mw (by simp [h.tagw])).2
  have ho1 : Only (fun b => b = mw) w w2 := (Only.ofBelow hb _).trans ho
  have hlt : ∀ b, tag b ≠ .free → b < w.heap.size := fun b hb => (h.cov b hb).2
  have hsame : ∀ b, b < w.heap.size → newTag tag w.heap.size w2.heap.size (fun _ => True) (.c i) b = tag b := fun b hb => by simp [newTag, hb]
  have hsz := ho1.size
  have hne : ∀ b, tag b ≠ .mw → b ≠ mw := fun b hb e => hb (e ▸ h.tagw)
  refine ⟨h.blk.only ho1 (hne _ (by simp [h.tagt])), h.mapq.only ho1 (hne _ (by simp [h.tagq])), hm.congr (fun y => by by_cases e : y = i <;> simp [e]), ?_, ?_, ?_, h.qn, ?_, ?_, ?_, ?_⟩
  · rw [hsame _ (hlt _ (by simp [h.tagt]))]; exact h.tagt
  · rw [hsame _ (hlt _ (by simp [h.tagq]))]; exact h.tagq
  · rw [hsame _ (hlt _ (by simp [h.tagw]))]; exact h.tagw
  · intro y p hy
    obtain ⟨h1, l1, e1, hq1⟩ := h.qs y p hy
    refine ⟨h1, l1, e1, (hq1.only ho1 (fun b hb => hne b (by simp [hb]))).mono (fun b hb hbq => ?_)⟩
    show newTag _ _ _ _ _ b = _
    rw [hsame _ (hlt _ (by simp [hbq]))]; exact hbq
  · intro j hj
    by_cases e : j = i
    · simp [e] at hj
    · simp only [e, if_false] at hj; simp [TS.setC, e, h.cn j hj]
  · intro j d hj
    by_cases e : j = i
    · subst e
      simp only [if_true, Option.some.injEq] at hj
      subst hj
      refine ⟨cl, by simp [TS.setC], (hc.only ho (fun b hb hb2 => by omega)).mono (fun b hb hbq => ?_)⟩
      simp [newTag, hb, Nat.not_lt.2 hbq]
    · simp only [e, if_false] at hj
      obtain ⟨cl1, e1, hc1⟩ := h.cs j d hj
      refine ⟨cl1, by simp [TS.setC, e, e1], (hc1.only ho1 (fun b hb => hne b (by simp [hb]))).mono (fun b hb hbq => ?_)⟩
      show newTag _ _ _ _ _ b = _
      rw [hsame _ (hlt _ (by simp [hbq]))]; exact hbq
  · intro b hb
    by_cases h1 : b < w.heap.size
    · rw [hsame b h1] at hb
      exact ⟨.inl (h.cov b hb).1, by omega⟩
    · by_cases h2 : b < w2.heap.size
      · exact ⟨.inr (by omega), h2⟩
      · simp [newTag, h1, h2] at hb

theorem TAt.delC (h : TAt F w t σ mq mw tag qb cb) {i : Int} (hm : MapRep i64V w2 mw (fun j => if j = i then none else (cb j).map ptrV)) (ho : Only (fun b => b = mw) w w2) :
    TAt F w2 t (σ.setC i none) mq mw tag qb (fun j => if j = i then none else cb j) := by
  have hne : ∀ b, tag b ≠ .mw → b ≠ mw := fun b hb e => hb (e ▸ h.tagw)
  refine ⟨h.blk.only ho (hne _ (by simp [h.tagt])), h.mapq.only ho (hne _ (by simp [h.tagq])), hm.congr (fun y => by by_cases e : y = i <;> simp [e]), h.tagt, h.tagq, h.tagw, h.qn, ?_, ?_, ?_, fun b hb => ⟨(h.cov b hb).1, Nat.lt_of_lt_of_le (h.cov b hb).2 ho.size⟩⟩
  · intro y p hy
    obtain ⟨h1, l1, e1, hq1⟩ := h.qs y p hy
    exact ⟨h1, l1, e1, hq1.only ho (fun b hb => hne b (by simp [hb]))⟩
  · intro j hj
    by_cases e : j = i
    · simp [TS.setC, e]
    · simp only [e, if_false] at hj; simp [TS.setC, e, h.cn j hj]
  · intro j d hj
    by_cases e : j = i
    · simp [e] at hj
    · simp only [e, if_false] at hj
      obtain ⟨cl1, e1, hc1⟩ := h.cs j d hj
      exact ⟨cl1, by simp [TS.setC, e, e1], hc1.only ho (fun b hb => hne b (by simp [hb]))⟩

/-- Somewhere at t there is a tower that holds σ. -/
def TRep (F : Nat → Prop) (w : World) (t : Nat) (σ : TS) : Prop := ∃ mq mw tag qb cb, TAt F w t σ mq mw tag qb cb
theorem TRep.other {T G : Nat → Prop} (h : TRep F w t σ) (ho : Only T w w2) (hd : ∀ b, F b → ¬ T b) (hG : ∀ b, F b → G b) : TRep G w2 t σ := by
  obtain ⟨mq, mw, tag, qb, cb, h⟩ := h
  exact ⟨mq, mw, tag, qb, cb, h.other ho hd hG⟩
theorem TRep.below (h : TRep F w t σ) (hb : Below w.heap.size w w2) : TRep F w2 t σ := by
  obtain ⟨mq, mw, tag, qb, cb, h⟩ := h
  exact ⟨mq, mw, tag, qb, cb, h.below hb⟩
theorem TRep.mono {G : Nat → Prop} (h : TRep F w t σ) (hG : ∀ b, b < w.heap.size → F b → G b) : TRep G w t σ := by
  obtain ⟨mq, mw, tag, qb, cb, h⟩ := h
  exact ⟨mq, mw, tag, qb, cb, ⟨h.blk, h.mapq, h.mapw, h.tagt, h.tagq, h.tagw, h.qn, h.qs, h.cn, h.cs, fun b hb => ⟨hG b (h.cov b hb).2 (h.cov b hb).1, (h.cov b hb).2⟩⟩⟩
end
end Go.Proofs.YteghcgiclpbkdaaDoor
