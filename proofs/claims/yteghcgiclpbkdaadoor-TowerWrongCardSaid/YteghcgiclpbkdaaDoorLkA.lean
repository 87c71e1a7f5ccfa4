/- Locks' laws: a queue behind deeds in memory; Of, awake. -/
import Derived.Test.YteghcgiclpbkdaaDoorQueD
import Derived.Test.YteghcgiclpbkdaaDoorPureN
import Derived.Test.YteghcgiclpbkdaaDoorAsB
import Derived.Test.YteghcgiclpbkdaaDoorLawB
namespace Go.Proofs.YteghcgiclpbkdaaDoor
open Go.RowKit

/-- Block q is the queue s; what it leads to lies between B and T. -/
def LQ (B T : Nat) (w : World) (q : Nat) (s : QS) : Prop := QRep (fun b => B ≤ b ∧ b < T) w q s.1 s.2 ∧ T ≤ w.heap.size
theorem LQ.below {B T q : Nat} {s : QS} {w w2 : World} (h : LQ B T w q s) (hb : Below w.heap.size w w2) : LQ B T w2 q s := ⟨h.1.below hb, Nat.le_trans h.2 hb.size⟩
theorem LQ.keep {B T q : Nat} {s : QS} {w w2 : World} (h : LQ B T w q s) (hb : Below T w w2) : LQ B T w2 q s :=
  ⟨h.1.only (T := fun b => T ≤ b) ⟨hb.os, hb.tape, hb.output, hb.size, fun k hk hs => hb.block k (by omega)⟩ (fun b hb2 h => by omega), Nat.le_trans h.2 hb.size⟩
theorem LQ.wide {B T T2 q : Nat} {s : QS} {w : World} (h : LQ B T w q s) (h1 : T ≤ T2) (h2 : T2 ≤ w.heap.size) : LQ B T2 w q s := ⟨h.1.mono (fun b _ hb => ⟨hb.1, by omega⟩), h2⟩
theorem LQ.full {B T q : Nat} {s : QS} {w : World} (h : LQ B T w q s) : LQ B w.heap.size w q s := h.wide h.2 (Nat.le_refl _)

section
variable {B T q : Nat} {s : QS} {w : World}
theorem lq_ask (id m : Int) (h : LQ B T w q s) (hB : B ≤ w.heap.size) (hlen : s.1.length + s.2.length ≤ 1048576) :
    Calls Tryd.prog 24 #[.pointer (some ⟨q, 0, none⟩), .int .i64 id, .int .i64 m] w fun e w' => ∃ err, e = .returned (.tuple #[.bool (askQ s.1 s.2 id m).1, err]) ∧
      LQ B w'.heap.size w' q (askS s id m) ∧ Below B w w' ∧ AskTold w' s.1 s.2 id m err := by
  refine (ask_any id m h.1 hlen).mono ?_
  rintro e w2 ⟨err, rfl, hq, ho, ht⟩
  have hT := h.2
  exact ⟨err, rfl, ⟨hq.mono (fun b hb h => by rcases h with h | h <;> omega), Nat.le_refl _⟩, ho.below hB (fun k hk h => by omega), ht⟩
theorem lq_free (id : Int) (h : LQ B T w q s) (hlen : s.1.length + s.2.length ≤ 1048576) :
    Calls Tryd.prog 22 #[.pointer (some ⟨q, 0, none⟩), .int .i64 id] w fun e w' => ∃ v, e = .returned v ∧ w'.ownsRow w.heap.size 2 1 v (freeQ s.1 s.2 id).2.2.length (i64s (freeQ s.1 s.2 id).2.2) ∧
      LQ B w'.heap.size w' q (freeS s id) ∧ Only (fun b => B ≤ b ∧ b < T) w w' := by
  have hT := h.2
  have hq := h.1
  refine (free_any id hq hlen (fun b hb => by omega)).mono ?_
  rintro e w2 ⟨v, rfl, hv, hq2, ho⟩
  have hBw : B ≤ w.heap.size := by
    obtain ⟨_, _, h1, _⟩ := hq
    omega
  exact ⟨v, rfl, hv, ⟨hq2.mono (fun b hb h => by rcases h with h | h <;> omega), Nat.le_refl _⟩, ho⟩
theorem LQ.ge (h : LQ B T w q s) : B ≤ w.heap.size := by
  obtain ⟨⟨_, _, h1, _⟩, h2⟩ := h
  omega
theorem Only.lq {w2 : World} (h : Only (fun b => B ≤ b ∧ b < T) w w2) (hB : B ≤ w.heap.size) : Below B w w2 := h.below hB (fun k hk h => by omega)
end

def LDeed.val (a : LDeed) : Value := .agg #[.int .u8 a.k, .int .u8 a.i, .int .u8 a.m]
set_option maxRecDepth 100000 in
set_option maxHeartbeats 1000000 in
theorem lof_any (a : LDeed) (ha : a.OK) (w : World) : Calls Tryd.prog 19 #[a.val] w fun e w' => e = .returned (.tuple #[.int .i64 a.id, .int .i64 a.mode]) ∧ Below w.heap.size w w' := by
  obtain ⟨⟨k0, k1⟩, ⟨i0, i1⟩, ⟨m0, m1⟩⟩ := ha
  obtain ⟨k, i, m⟩ := a
  simp only at k0 k1 i0 i1 m0 m1
  unfold LDeed.val LDeed.id LDeed.mode
  simp only
  have t1 : i.tmod 12 = i % 12 := Int.tmod_eq_emod_of_nonneg i0
  have t3 : m.tmod 4 = m % 4 := Int.tmod_eq_emod_of_nonneg m0
  have u1 : IntKind.i64.wrap (i % 12) = i % 12 := IntWalk.i64_in _ (by omega)
  have u2 : IntKind.i64.wrap (m % 4) = m % 4 := IntWalk.i64_in _ (by omega)
  have u3 : IntKind.i64.wrap (m % 4 + 1) = m % 4 + 1 := IntWalk.i64_in _ (by omega)
  go_enter Tryd.func19, Tryd.ntmps19
  go_wp2
  have f1 : (w.alloc (.cells #[.int .u8 k, .int .u8 i, .int .u8 m] 41)).drew.cell? ⟨w.heap.size, 1, none⟩ = some (.int .u8 i) := by simp
  have f3 : (w.alloc (.cells #[.int .u8 k, .int .u8 i, .int .u8 m] 41)).drew.cell? ⟨w.heap.size, 2, none⟩ = some (.int .u8 m) := by simp
  go_quiet (fail)
  go_wp2
  go_ret2
  exact ⟨rfl, pwDrewN ((Below.refl _ w).alloc (Nat.le_refl _) _) _⟩

set_option maxHeartbeats 400000 in
theorem ask_twice2 {S : Nat → Prop} {w : World} {q : Nat} {h l : List (Int × Int)} (id m : Int) (hm : intentI m ≠ 0) (hq : QRep S w q h l) (ht : thereB h l id = true) : 
    Calls Tryd.prog 24 #[.pointer (some ⟨q, 0, none⟩), .int .i64 id, .int .i64 m] w fun e w' => ∃ b s, e = .returned (.tuple #[.bool false, .iface 117 (.pointer (some ⟨b, 0, none⟩))]) ∧ w.heap.size ≤ b ∧ Blk w' b 119 [.string s, .iface 54 (.int .i64 11)] ∧ Below w.heap.size w w' := by
  have hm' : (intentI m == 0) = false := by simpa using hm
  clear hm
  have HT := Lib.hid ht
  clear ht
  go_enter Tryd.func24, Tryd.ntmps24
  go_wp2_with fail
  refine (intent_any m _).mono ?_
  rintro e w2 ⟨rfl, rfl⟩
  go_wp2_with fail
  refine (there_any id hq).mono ?_
  rintro e w2 ⟨rfl, hb⟩
  rw [HT.out]
  go_wp2_with fail
  refine (faultNew_some 11 _ _ rfl).mono ?_
  rintro e w3 ⟨rfl, rfl⟩
  go_wp2
  go_ret2
  exact ⟨_, _, rfl, hb.size, heap_alloc_new w2 _, hb.alloc hb.size _⟩

theorem law1 : askQ [] [] 1 3 = (true, [(1, 3)], []) := by decide +kernel
theorem law2 : askQ [(1, 3)] [] 2 2 = (false, [(1, 3)], [(2, 2)]) := by decide +kernel
theorem law3 : askQ [(1, 3)] [(2, 2)] 3 3 = (false, [(1, 3)], [(2, 2), (3, 3)]) := by decide +kernel
theorem law5 : freeQ [(1, 3)] [(2, 2), (3, 3)] 2 = ([(1, 3), (3, 3)], [], [3]) := by decide +kernel

set_option maxHeartbeats 4000000 in
theorem lawake_any (w : World) (hg : ErrT w) : Calls Tryd.prog 11 #[] w fun e w' => e = .returned (.bool true) ∧ Below w.heap.size w w' := by
  have hgl : 0 < w.heap.size := Nat.lt_of_le_of_lt (Nat.zero_le _) (World.block_lt_of_cell? w _ hg)
  have HG := Lib.hid hg
  clear hg
  go_enter Tryd.func11, Tryd.ntmps11
  go_wp2_with fail
  refine (lockNew_any _).mono ?_
  rintro e w1 ⟨rfl, hq, hb⟩
  have H1 : Hid (LQ w.heap.size w1.heap.size w1 w.heap.size ([], []) ∧ Below w.heap.size w w1) := Lib.hid ⟨⟨hq.mono (fun b h1 h2 => ⟨h2, h1⟩), Nat.le_refl _⟩, hb⟩
  clear hq hb
  go_wp2_with fail
  refine (lq_ask 1 3 H1.out.1 H1.out.2.size (by decide)).mono ?_
  rintro e w2 ⟨err, rfl, hq, hb, ht⟩
  unfold AskTold askS at *
  rw [law1] at *
  have H2 := Lib.hid (And.intro hq (H1.out.2.trans hb))
  rw [if_neg (by decide), if_neg (by decide)] at ht
  subst ht
  clear hq hb
  go_wp2_with fail
  refine (lq_ask 2 2 H2.out.1 H2.out.2.size (by decide)).mono ?_
  rintro e w3 ⟨err, rfl, hq, hb, ht⟩
  unfold AskTold askS at *
  rw [law2] at *
  have H3 := Lib.hid (And.intro hq (H2.out.2.trans hb))
  rw [if_neg (by decide), if_neg (by decide)] at ht
  subst ht
  clear hq hb
  go_wp2_with fail
  refine (lq_ask 3 3 H3.out.1 H3.out.2.size (by decide)).mono ?_
  rintro e w4 ⟨err, rfl, hq, hb, ht⟩
  unfold AskTold askS at *
  rw [law3] at *
  have H4 := Lib.hid (And.intro hq (H3.out.2.trans hb))
  rw [if_neg (by decide), if_neg (by decide)] at ht
  subst ht
  clear hq hb
  go_wp2_with fail
  refine (ask_twice2 3 3 (by decide) H4.out.1.1 (by decide)).mono ?_
  rintro e w5 ⟨b5, s5, rfl, hb5, hf5, hbl⟩
  have H5 := Lib.hid (And.intro (H4.out.1.below hbl) (And.intro (H4.out.2.trans (hbl.mono H4.out.2.size)) (And.intro hb5 hf5)))
  clear hb5 hf5 hbl
  go_wp2_with fail
  refine (lq_free 2 H5.out.1 (by decide)).mono ?_
  rintro e w6 ⟨v6, rfl, hv6, _, hO6⟩
  simp only [law5] at hv6
  have hi6 := iread_of_own (l := [3]) hv6
  have hb6 := H5.out.2.1.trans (hO6.lq H5.out.1.ge)
  have hf6 := H5.out.2.2.2.only hO6 (fun h => by have := H5.out.2.2.1; omega)
  obtain ⟨_, a6, c6, rfl, _⟩ := id hi6
  have H6 := Lib.hid (And.intro hi6 hb6)
  have HC : Hid (Chain w6 1 (.iface 117 (.pointer (some ⟨b5, 0, none⟩))) 11 ∧ ErrT w6) := Lib.hid ⟨⟨_, _, _, rfl, hf6, rfl⟩, HG.out.below hb6⟩
  clear hv6 hO6 hi6 hb6 hf6
  go_wp2_with fail
  refine (code_chain 1 _ 11 w6 HC.out.1 HC.out.2).mono ?_
  rintro e w7 ⟨rfl, hb7⟩
  have hb8 : Below w7.heap.size w7 (w7.alloc (.cells #[.int .i64 3] 2)) := (Below.refl _ _).alloc (Nat.le_refl _) _
  have hl2 : IRead (w7.alloc (.cells #[.int .i64 3] 2)) (.slice (some ⟨w7.heap.size, 0, none⟩) 1 1) [3] := ⟨by simp, _, _, rfl, fun _ => ⟨_, _, rfl, fun i hi => by
    have : i = 0 := by simp at hi; omega
    subst this
    simp⟩⟩
  have H7 := Lib.hid (And.intro ((H6.out.1.below hb7).below hb8) (And.intro hl2 ((H6.out.2.trans (hb7.mono H6.out.2.size)).trans (hb8.mono (by have := H6.out.2.size; have := hb7.size; omega)))))
  clear hb7 hb8 hl2
  go_wp2_with fail
  refine (same_any _ _ [3] [3] _ H7.out.1 H7.out.2.1).mono ?_
  rintro e w9 ⟨rfl, hb9⟩
  have H9 := Lib.hid (H7.out.2.2.trans (hb9.mono H7.out.2.2.size))
  clear hb9
  rw [show decide (([3] : List Int) = [3]) = true from rfl]
  go_wp2
  go_ret
  exact ⟨rfl, H9.out⟩
end Go.Proofs.YteghcgiclpbkdaaDoor
