/- awake. -/
import Derived.Test.YteghcgiclpbkdaaDoorLawC
namespace Go.Proofs.YteghcgiclpbkdaaDoor
open Go.RowKit

def w1T : TS := stepD TS.empty ⟨0, 1, 1, 2⟩
def w2T : TS := stepD w1T ⟨0, 2, 3, 3⟩
theorem w1_reach : Reach w1T := Reach.empty.step ⟨by simp, by simp, by simp, by simp⟩
theorem w2_reach : Reach w2T := w1_reach.step ⟨by simp, by simp, by simp, by simp⟩
theorem w1_start : w1T = (startT TS.empty 1 [dS] 3).1 := rfl
theorem w1_there : w1T.there 2 = false := by decide +kernel
theorem w1_two : (startT TS.empty 1 [dS] 3).2 = true := by decide +kernel
theorem w2_start : w2T = (startT w1T 2 [dS, cS] 4).1 := by
  unfold w2T stepD
  rw [if_pos (by decide), show (Deed.id ⟨0, 2, 3, 3⟩) = 2 from rfl, w1_there]
  rfl
theorem w2_two : (startT w1T 2 [dS, cS] 4).2 = false := by decide +kernel
theorem w2_held : w2T.heldL (thingOf []) = [(1, 1), (2, 2)] := by decide +kernel
theorem w2_wait : w2T.waitL (thingOf [dS]) = [(2, 2)] := by decide +kernel
theorem w3_out : (freeT w2T 1).2 = [2] := by decide +kernel
theorem w3_whole : (freeT w2T 1).1.wholeB 2 = true := by decide +kernel
theorem w3_there : (freeT w2T 1).1.there 1 = false := by decide +kernel
theorem sread_nil (w : World) : SRead w (.slice none 0 0) [] := ⟨by simp, none, 0, rfl, by simp, by simp, by simp, fun h => by simp at h⟩
theorem grant_eq (w : World) : (binOp .eql 34 (.agg #[.int .i64 2, .int .i64 2]) (.agg #[.int .i64 2, .int .i64 2])).run Tryd.prog w = .ok (.bool true) w := by kernel_rfl
theorem sread_lit (w : World) (ss : List ByteArray) (hl : ss.length ≤ 100) (hs : ∀ s ∈ ss, s.size ≤ 9223372036854775807) : SRead (w.alloc (.cells (ss.map Value.string).toArray 9)) (.slice (some ⟨w.heap.size, 0, none⟩) ss.length ss.length) ss :=
  sread_blk (heap_alloc_new w _) hl hs

theorem own_ge {w : World} {b : Nat} {e : TypeId} {size n m : Nat} {a : Addr} {cap : Nat} {xs : List Value} (h : w.ownsRow b e size (.slice (some a) m cap) n xs) : b ≤ a.block := by
  obtain ⟨_, h⟩ := h
  rcases h with ⟨h, _⟩ | ⟨g, cap2, cur, h, hb, _⟩
  · simp at h
  · simp only [Value.slice.injEq, Option.some.injEq] at h
    rw [h.1]; exact hb
theorem TRep.shrink {F : Nat → Prop} {w : World} {t : Nat} {σ : TS} (h : TRep F w t σ) : TRep (fun b => F b ∧ b < w.heap.size) w t σ := by
  obtain ⟨_, _, _, _, _, h⟩ := h
  exact ⟨_, _, _, _, _, h.shrink⟩

set_option maxHeartbeats 4000000 in
theorem awake_any (hR : ReachOK) (w : World) : Calls Tryd.prog 32 #[] w fun e w' => e = .returned (.bool true) ∧ Below w.heap.size w w' := by
  have HR := Lib.hid hR
  clear hR
  go_enter Tryd.func32, Tryd.ntmps32
  go_wp2_with fail
  refine (towerNew_any _).mono ?_
  rintro e w1 ⟨t, rfl, hT, hb⟩
  unfold ptrV
  have HT := Lib.hid (And.intro hT hb)
  clear hT hb
  go_wp2_with fail
  have hb1 : Below w1.heap.size w1 (w1.alloc (.cells #[.string dS] 9)) := (Below.refl _ _).alloc (Nat.le_refl _) _
  obtain ⟨mq, mw, tag, qb, cb, hTA⟩ := HT.out.1.below hb1
  refine (task_ok 1 3 (.slice (some ⟨w1.heap.size, 0, none⟩) 1 1) [dS] I12 (by decide) (by decide) (HR.out _ Reach.empty).1 (by decide) (sread_lit w1 [dS] (by simp) (by decide)) (by decide) (by decide +kernel) hTA (by decide +kernel)).mono ?_
  rintro e w2 ⟨rfl, hT2, hO2⟩
  rw [w1_two]
  have HT2 : Hid (TRep (fun b => w.heap.size ≤ b) w2 t w1T ∧ Below w.heap.size w w2) := Lib.hid ⟨by
    rw [w1_start]
    exact hT2.mono (fun b _ hb => by rcases hb with h | h; exact h; have := HT.out.2.size; simp at h; omega), HT.out.2.trans ((hb1.mono HT.out.2.size).trans (hO2.below (by have := HT.out.2.size; simp; omega) (fun k hk h => by omega)))⟩
  clear hTA hb1 hT2 hO2
  go_wp2_with fail
  have hb2 : Below w2.heap.size w2 (w2.alloc (.cells #[.string dS, .string cS] 9)) := (Below.refl _ _).alloc (Nat.le_refl _) _
  obtain ⟨mq, mw, tag, qb, cb, hTA⟩ := HT2.out.1.below hb2
  refine (task_ok 2 4 (.slice (some ⟨w2.heap.size, 0, none⟩) 2 2) [dS, cS] I12 (by decide) (by decide) (HR.out _ w1_reach).1 (by decide) (sread_lit w2 [dS, cS] (by simp) (by decide +kernel)) (by decide) (by decide +kernel) hTA w1_there).mono ?_
  rintro e w3 ⟨rfl, hT3, hO3⟩
  rw [w2_two]
  have HT3 : Hid (TRep (fun b => w.heap.size ≤ b) w3 t w2T ∧ Below w.heap.size w w3) := Lib.hid ⟨by
    rw [w2_start]
    exact hT3.mono (fun b _ hb => by rcases hb with h | h; exact h; have := HT2.out.2.size; simp at h; omega), HT2.out.2.trans ((hb2.mono HT2.out.2.size).trans (hO3.below (by have := HT2.out.2.size; simp; omega) (fun k hk h => by omega)))⟩
  clear hTA hb2 hT3 hO3
  go_wp2_with fail
  obtain ⟨mq, mw, tag, qb, cb, hTA⟩ := HT3.out.1
  refine (held_tower _ [] hTA (sread_nil w3) (by rw [w2_held]; decide)).mono ?_
  rintro e w4 ⟨v6, rfl, hv6, hb4⟩
  rw [w2_held] at hv6
  have HT4 := Lib.hid (And.intro (HT3.out.1.shrink.below hb4) (And.intro (HT3.out.2.trans (hb4.mono HT3.out.2.size)) hv6))
  clear hTA hb4 hv6
  go_wp2_with fail
  have hb5 : Below w4.heap.size w4 (w4.alloc (.cells #[.string dS] 9)) := (Below.refl _ _).alloc (Nat.le_refl _) _
  obtain ⟨mq, mw, tag, qb, cb, hTA⟩ := HT4.out.1.below hb5
  refine (waits_tower (.slice (some ⟨w4.heap.size, 0, none⟩) 1 1) [dS] hTA (sread_lit w4 [dS] (by simp) (by decide +kernel)) (by rw [w2_wait]; decide)).mono ?_
  rintro e w5 ⟨v7, rfl, hv7, hb6⟩
  rw [w2_wait] at hv7
  have hbz : Below w.heap.size w4 (w4.alloc (.cells #[.string dS] 9)) := hb5.mono HT4.out.2.1.size
  obtain ⟨_, a6, c6, rfl, hk6⟩ := (gread_of_ownsRow HT4.out.2.2).below (hb5.trans (hb6.mono (by simp)))
  obtain ⟨b6, o6, rfl, hc6⟩ := hk6 (by decide)
  have hge : w3.heap.size ≤ b6 := own_ge HT4.out.2.2
  have x0 : w5.cell? ⟨b6, o6 + 2, none⟩ = some (.int .i64 2) := (hc6 1 (by decide)).1
  have x1 : w5.cell? ⟨b6, o6 + 2 + 1, none⟩ = some (.int .i64 2) := (hc6 1 (by decide)).2
  obtain ⟨_, a7, c7, rfl, _⟩ := gread_of_ownsRow hv7
  have HT5 := Lib.hid (And.intro (TRep.below ⟨_, _, _, _, _, hTA⟩ hb6) ((HT4.out.2.1.trans hbz).trans (hb6.mono (by have := HT4.out.2.1.size; simp; omega))))
  clear hTA hb5 hb6 hv7 hbz hc6 hk6 HT4
  simp only [List.length_cons, List.length_nil, Nat.zero_add, Nat.reduceAdd]
  go_wp2_with fail
  obtain ⟨mq, mw, tag, qb, cb, hTA⟩ := HT5.out.1
  have hwf := HR.out _ w2_reach
  refine (tfree_any 1 I12 (by decide) hTA hwf.1 hwf.2).mono ?_
  rintro e w6 ⟨v8, rfl, hv8, hT6, hO6⟩
  rw [w3_out] at hv8
  have hbw : Below w.heap.size w w6 := HT5.out.2.trans (hO6.below HT5.out.2.size (fun k hk h => by have := h.1; omega))
  have hi8 : IRead w6 v8 [2] := iread_of_own hv8
  have x0' := hO6.cell (by simp; omega) x0
  have x1' := hO6.cell (by simp; omega) x1
  obtain ⟨mq2, mw2, tag2, qb2, cb2, hTB⟩ := hT6
  have HT6 := Lib.hid (And.intro hTB (And.intro hbw hi8))
  obtain ⟨_, a8, c8, rfl, _⟩ := hi8
  clear hO6 hTA hwf x0 x1 HT5 hv8 hTB hbw hge
  go_wp2_with fail
  have hb7 : Below w6.heap.size w6 (w6.alloc (.cells #[.int .i64 2] 2)) := (Below.refl _ _).alloc (Nat.le_refl _) _
  have hl2 : IRead (w6.alloc (.cells #[.int .i64 2] 2)) (.slice (some ⟨w6.heap.size, 0, none⟩) 1 1) [2] := ⟨by simp, _, _, rfl, fun _ => ⟨_, _, rfl, fun i hi => by
    have : i = 0 := by simp at hi; omega
    subst this
    simp⟩⟩
  refine (same_any _ _ [2] [2] _ (HT6.out.2.2.below hb7) hl2).mono ?_
  rintro e w7 ⟨rfl, hb8⟩
  have hbw : Below w.heap.size w6 w7 := (hb7.mono HT6.out.2.1.size).trans (hb8.mono (by have := HT6.out.2.1.size; simp; omega))
  have HT7 := Lib.hid (And.intro (HT6.out.1.below (hb7.trans (hb8.mono (by simp)))) (HT6.out.2.1.trans hbw))
  clear hb7 hl2 hb8 hbw x0' x1'
  rw [show decide (([2] : List Int) = [2]) = true from rfl]
  go_wp2_with fail
  refine (whole_tower 2 HT7.out.1).mono ?_
  rintro e w8 ⟨rfl, rfl⟩
  rw [w3_whole]
  go_wp2_with fail
  refine (there_tower 1 HT7.out.1).mono ?_
  rintro e w8 ⟨rfl, rfl⟩
  rw [w3_there]
  go_wp2_with fail
  refine (intent_any 4 _).mono ?_
  rintro e w8 ⟨rfl, rfl⟩
  rw [show intentI 4 = 2 from rfl]
  go_wp2
  go_ret
  exact ⟨rfl, HT7.out.2⟩
end Go.Proofs.YteghcgiclpbkdaaDoor
