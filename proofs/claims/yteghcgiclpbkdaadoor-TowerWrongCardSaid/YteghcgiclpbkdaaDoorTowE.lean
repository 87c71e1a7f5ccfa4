/- tower.at. -/
import Derived.Test.YteghcgiclpbkdaaDoorTowD
namespace Go.Proofs.YteghcgiclpbkdaaDoor
open Go.RowKit

section
variable {F : Nat → Prop} {w : World} {t : Nat} {σ : TS} {mq mw : Nat} {tag : Nat → Tag} {qb : Thing → Option Nat} {cb : Int → Option Nat}

theorem pwDrewN {B : Nat} {w W : World} (h : Below B w W) (n : Nat) : Below B w (W.drewN n) := ⟨h.os, h.tape, h.output, h.size, h.block⟩
theorem undrew {w W : World} (h : Below w.drew.heap.size w.drew W) : Below w.heap.size w W := ⟨h.os, h.tape, h.output, h.size, h.block⟩
theorem setQ_same {σ : TS} {x : Thing} {q : List (Int × Int) × List (Int × Int)} (h : σ.queue x = some q) : σ.setQ x (σ.getQ x) = σ := by
  unfold TS.setQ TS.getQ
  rw [h]
  cases σ with
  | mk qu wh =>
    simp only [Option.getD_some, TS.mk.injEq, and_true]
    funext y
    by_cases e : y = x
    · subst e; simp; exact h.symm
    · simp [e]

set_option maxHeartbeats 1000000 in
theorem at_some (x : Thing) (h : TAt F w t σ mq mw tag qb cb) {q : Nat} (hq : qb x = some q) :
    Calls Tryd.prog 59 #[ptrV t, thingV x] w fun e w' => e = .returned (ptrV q) ∧ Below w.heap.size w w' := by
  have hb0 : Below w.heap.size w (w.alloc (.cells #[.int .i64 x.n, .string x.a, .string x.b] 110)) := (Below.refl _ _).alloc (Nat.le_refl _) _
  have h1 := h.below hb0
  have hc0 : (w.alloc (.cells #[.int .i64 x.n, .string x.a, .string x.b] 110)).cell? ⟨t, 0, none⟩ = some (.map (some mq)) := h1.blk.cell 0
  have hl : ∀ n, (Instr.lookup 100 (.map (some mq)) (.agg #[.int .i64 x.n, .string x.a, .string x.b]) false).run Tryd.prog ((w.alloc (.cells #[.int .i64 x.n, .string x.a, .string x.b] 110)).drewN n) = .ok (.pointer (some ⟨q, 0, none⟩)) ((w.alloc (.cells #[.int .i64 x.n, .string x.a, .string x.b] 110)).drewN n) := by
    intro n
    have := (h1.mapq.only (Only.drewN (fun _ => False) _ n) (fun h => h)).lookup keyThing Tryd.underlying100 (zeroQueue _) x
    rw [hq] at this
    exact this
  clear h h1 hq
  unfold ptrV thingV
  go_enter Tryd.func59, Tryd.ntmps59
  go_wp2
  go_quiet (fail)
  go_wp2
  go_quiet (fail)
  go_wp2
  go_ret
  exact ⟨rfl, pwDrewN (pwDrewN hb0 _) _⟩

set_option maxHeartbeats 1000000 in
theorem at_none (x : Thing) (h : TAt F w t σ mq mw tag qb cb) (hq : qb x = none) :
    Calls Tryd.prog 59 #[ptrV t, thingV x] w fun e w' => ∃ q tag', e = .returned (ptrV q) ∧ TAt (fun b => F b ∨ w.heap.size ≤ b) w' t (σ.setQ x ([], [])) mq mw tag' (fun y => if y = x then some q else qb y) cb ∧ Only F w w' := by
  have hb0 : Below w.heap.size w (w.alloc (.cells #[.int .i64 x.n, .string x.a, .string x.b] 110)) := (Below.refl _ _).alloc (Nat.le_refl _) _
  have h1 := h.below hb0
  have hFmq : F mq := (h.cov mq (by simp [h.tagq])).1
  have hc0 : (w.alloc (.cells #[.int .i64 x.n, .string x.a, .string x.b] 110)).cell? ⟨t, 0, none⟩ = some (.map (some mq)) := h1.blk.cell 0
  have hl : ∀ n, (Instr.lookup 100 (.map (some mq)) (.agg #[.int .i64 x.n, .string x.a, .string x.b]) false).run Tryd.prog ((w.alloc (.cells #[.int .i64 x.n, .string x.a, .string x.b] 110)).drewN n) = .ok (.pointer none) ((w.alloc (.cells #[.int .i64 x.n, .string x.a, .string x.b] 110)).drewN n) := by
    intro n
    have := (h1.mapq.only (Only.drewN (fun _ => False) _ n) (fun h => h)).lookup keyThing Tryd.underlying100 (zeroQueue _) x
    rw [hq] at this
    exact this
  have HH := Lib.hid h
  have HQ := Lib.hid hq
  have n0 : (w.alloc (.cells #[.int .i64 x.n, .string x.a, .string x.b] 110)).cell? ⟨w.heap.size, 0, none⟩ = some (.int .i64 x.n) := by simp
  have n1 : (w.alloc (.cells #[.int .i64 x.n, .string x.a, .string x.b] 110)).cell? ⟨w.heap.size, 1, none⟩ = some (.string x.a) := by simp
  have n2 : (w.alloc (.cells #[.int .i64 x.n, .string x.a, .string x.b] 110)).cell? ⟨w.heap.size, 2, none⟩ = some (.string x.b) := by simp
  clear h h1 hq
  unfold ptrV thingV
  go_enter Tryd.func59, Tryd.ntmps59
  go_wp2
  go_quiet (fail)
  go_wp2
  obtain ⟨w1, hw1⟩ : ∃ w1, w1 = (w.alloc (.cells #[.int .i64 x.n, .string x.a, .string x.b] 110)).drewN nq := ⟨_, rfl⟩
  rw [← hw1]
  have hb1 : Below w.heap.size w w1 := by rw [hw1]; exact pwDrewN hb0 _
  have hc1 : w1.cell? ⟨t, 0, none⟩ = some (.map (some mq)) := by rw [hw1]; exact hc0
  have m0 : w1.cell? ⟨w.heap.size, 0, none⟩ = some (.int .i64 x.n) := by rw [hw1]; exact n0
  have m1 : w1.cell? ⟨w.heap.size, 1, none⟩ = some (.string x.a) := by rw [hw1]; exact n1
  have m2 : w1.cell? ⟨w.heap.size, 2, none⟩ = some (.string x.b) := by rw [hw1]; exact n2
  clear hw1 hl hc0 n0 n1 n2
  go_region_with (go_at_call 18; refine (lockNew_any _).mono ?_; rintro e w2 ⟨rfl, hqr, hb2⟩; have hc2 : w2.cell? ⟨t, 0, none⟩ = some (.map (some mq)) := bcell hb2 hc1; have p0 : w2.cell? ⟨w.heap.size, 0, none⟩ = some (.int .i64 x.n) := bcell hb2 m0; have p1 : w2.cell? ⟨w.heap.size, 1, none⟩ = some (.string x.a) := bcell hb2 m1; have p2 : w2.cell? ⟨w.heap.size, 2, none⟩ = some (.string x.b) := bcell hb2 m2; obtain ⟨w3, hrun, hm3, ho3⟩ := ((HH.out.below hb1).below (w2 := w2) (undrew hb2)).mapq.update keyThing Tryd.underlying100 x (ptrV w1.heap.size); simp only [thingV, ptrV] at hrun)
  all_goals
    have hlw : mq < w.heap.size := (HH.out.cov mq (by simp [HH.out.tagq])).2
    have htm : t ≠ mq := fun e => by have := HH.out.tagt; rw [e, HH.out.tagq] at this; cases this
    have hbT : Below w.heap.size w w2 := hb1.trans ((undrew hb2).mono hb1.size)
    have hsz1 : w1.heap.size ≤ w2.heap.size := hb2.size
    have hT := HH.out.newQ (w2 := w3) (x := x) (q := w1.heap.size) HQ.out hbT (hqr.mono (fun b _ hb => Nat.le_trans hb1.size hb)) hm3 ho3
    have hOn : Only F w w3 := ((Only.ofBelow hbT F).trans' ho3 (fun i _ e => e ▸ hFmq))
    have hc3 : w3.cell? ⟨t, 0, none⟩ = some (.map (some mq)) := hT.blk.cell 0
    have r0 : w3.cell? ⟨w.heap.size, 0, none⟩ = some (.int .i64 x.n) := ho3.cell (p := ⟨w.heap.size, 0, none⟩) (fun e => by simp only at e; omega) p0
    have r1 : w3.cell? ⟨w.heap.size, 1, none⟩ = some (.string x.a) := ho3.cell (p := ⟨w.heap.size, 1, none⟩) (fun e => by simp only at e; omega) p1
    have r2 : w3.cell? ⟨w.heap.size, 2, none⟩ = some (.string x.b) := ho3.cell (p := ⟨w.heap.size, 2, none⟩) (fun e => by simp only at e; omega) p2
    have hl : ∀ n, (Instr.lookup 100 (.map (some mq)) (.agg #[.int .i64 x.n, .string x.a, .string x.b]) false).run Tryd.prog (w3.drewN n) = .ok (.pointer (some ⟨w1.heap.size, 0, none⟩)) (w3.drewN n) := by
      intro n
      have := (hm3.only (Only.drewN (fun _ => False) w3 n) (fun h => h)).lookup keyThing Tryd.underlying100 (zeroQueue _) x
      simp only [if_true, Option.getD_some] at this
      exact this
    have HT := Lib.hid hT
    have HO := Lib.hid hOn
    clear hrun hm3 ho3 hT hOn hqr hb2 hc2 p0 p1 p2 hc1 m0 m1 m2 hlw htm hbT
    go_wp2
    go_quiet (fail)
    go_wp2
    go_ret
    exact ⟨_, _, rfl, HT.out.other (T := fun _ => False) (Only.drewN _ _ _) (fun _ _ h => h) (fun _ h => h), HO.out.trans (Only.drewN _ _ _)⟩

theorem at_any (x : Thing) (h : TAt F w t σ mq mw tag qb cb) :
    Calls Tryd.prog 59 #[ptrV t, thingV x] w fun e w' => ∃ q tag' qb', e = .returned (ptrV q) ∧ TAt (fun b => F b ∨ w.heap.size ≤ b) w' t (σ.setQ x (σ.getQ x)) mq mw tag' qb' cb ∧ qb' x = some q ∧ Only F w w' := by
  cases hq : qb x with
  | none =>
    have hg : σ.getQ x = ([], []) := by simp [TS.getQ, h.qn x hq]
    rw [hg]
    refine (at_none x h hq).mono ?_
    rintro e w2 ⟨q, tag', rfl, hT, hO⟩
    exact ⟨q, tag', _, rfl, hT, by simp, hO⟩
  | some q =>
    obtain ⟨h1, l1, e, _⟩ := h.qs x q hq
    rw [setQ_same e]
    refine (at_some x h hq).mono ?_
    rintro e w2 ⟨rfl, hb⟩
    exact ⟨q, tag, qb, rfl, h.other (T := fun _ => False) (Only.ofBelow hb _) (fun _ _ h => h) (fun _ h => .inl h), hq, Only.ofBelow hb F⟩
end
end Go.Proofs.YteghcgiclpbkdaaDoor
