/- LockActs: a queue beside what the document says of it. -/
import Derived.Test.YteghcgiclpbkdaaDoorLkY
namespace Go.Proofs.YteghcgiclpbkdaaDoor
open Go.RowKit

/-- What v leads to is there. -/
def Up (w : World) (v : Value) : Prop := ∀ a k c, v = .slice (some a) k c → a.block < w.heap.size
theorem Up.le {w w2 : World} {v : Value} (h : Up w v) (hs : w.heap.size ≤ w2.heap.size) : Up w2 v := fun a k c e => Nat.lt_of_lt_of_le (h a k c e) hs
theorem up_own {w : World} {b n size : Nat} {e : TypeId} {v : Value} {xs : List Value} (h : w.ownsRow b e size v n xs) : Up w v := fun _ _ _ e2 => (own_addr h e2).2
/-- What v leads to lies below w, and in no block that v1 or v2 doesn't lie in. -/
def Near (w : World) (v v1 v2 : Value) : Prop := ∀ g, g < w.heap.size → NotIn v1 g → NotIn v2 g → NotIn v g
theorem near_own {w : World} {b n size : Nat} {e : TypeId} {v v1 v2 : Value} {xs : List Value} {w' : World} (h : w'.ownsRow b e size v n xs) (hb : w.heap.size ≤ b) : Near w v v1 v2 := fun g hg _ _ a k c e2 e3 => by
  have := own_addr h e2; omega

theorem lask_any (v1 v2 : Value) (l1 l2 : List (Int × Int)) (id mm : Int) (w : World) (h1 : GRead w v1 l1) (h2 : GRead w v2 l2) (u1 : Up w v1) (u2 : Up w v2) (hl : l1.length + l2.length ≤ 100000) (hm : intentI mm ≠ 0) (ht : thereB l1 l2 id = false) :
    Calls Tryd.prog 26 #[.agg #[v1, v2], .int .i64 id, .int .i64 mm] w fun e w' => ∃ a b, e = .returned (.tuple #[.agg #[a, b], .bool (askQ l1 l2 id mm).1]) ∧ GRead w' a (askQ l1 l2 id mm).2.1 ∧ GRead w' b (askQ l1 l2 id mm).2.2 ∧ Near w a v1 v2 ∧ Near w b v1 v2 ∧ Up w' a ∧ Up w' b ∧ Below w.heap.size w w' := by
  rcases Nat.eq_zero_or_pos l2.length with h0 | h0
  · have h0' : l2 = [] := List.eq_nil_of_length_eq_zero h0
    cases hmay : mayB l1 mm with
    | true =>
      have ha : askQ l1 l2 id mm = (true, l1 ++ [(id, mm)], l2) := by unfold askQ; rw [if_neg (by simp [hm, ht]), if_pos ⟨h0', hmay⟩]
      rw [ha]
      refine (lask_yes v1 v2 l1 l2 id mm w h1 h2 h0' hmay (by omega)).mono ?_
      rintro e w2 ⟨v', rfl, ho, hb⟩
      exact ⟨_, _, rfl, gread_of_ownsRow ho, h2.below hb, near_own ho (Nat.le_refl _), fun g _ _ h => h, up_own ho, u2.le hb.size, hb⟩
    | false =>
      have ha : askQ l1 l2 id mm = (false, l1, l2 ++ [(id, mm)]) := by unfold askQ; rw [if_neg (by simp [hm, ht]), if_neg (by simp [hmay])]
      rw [ha]
      refine (lask_no1 v1 v2 l1 l2 id mm w h1 h2 h0' hmay (by omega)).mono ?_
      rintro e w2 ⟨v', rfl, ho, hb⟩
      exact ⟨_, _, rfl, h1.below hb, gread_of_ownsRow ho, fun g _ h _ => h, near_own ho (Nat.le_refl _), u1.le hb.size, up_own ho, hb⟩
  · have ha : askQ l1 l2 id mm = (false, l1, l2 ++ [(id, mm)]) := by unfold askQ; rw [if_neg (by simp [hm, ht]), if_neg (by intro h; rw [h.1] at h0; simp at h0)]
    rw [ha]
    refine (lask_no2 v1 v2 l1 l2 id mm w h1 h2 h0 (by omega)).mono ?_
    rintro e w2 ⟨v', rfl, ho, hb⟩
    exact ⟨_, _, rfl, h1.below hb, gread_of_ownsRow ho, fun g _ h _ => h, near_own ho (Nat.le_refl _), u1.le hb.size, up_own ho, hb⟩

/-- Block q is the queue s, block n what the document says: m. -/
structure LA (S : Nat → Prop) (v1 v2 : Value) (B n : Nat) (w : World) (q : Nat) (s m : QS) : Prop where
  q : QRep S w q s.1 s.2
  lt : ∀ b, S b → B ≤ b ∧ b < w.heap.size
  blk : Blk w n 39 [v1, v2]
  r1 : GRead w v1 m.1
  r2 : GRead w v2 m.2
  ns : ¬ S n
  n1 : ∀ b, S b → NotIn v1 b
  n2 : ∀ b, S b → NotIn v2 b
  m1 : NotIn v1 n
  m2 : NotIn v2 n
  hn : B ≤ n
  b1 : Up w v1
  b2 : Up w v2
section
variable {S : Nat → Prop} {v1 v2 : Value} {B n q : Nat} {w : World} {s m : QS}
theorem LA.below {w2 : World} (h : LA S v1 v2 B n w q s m) (hb : Below w.heap.size w w2) : LA S v1 v2 B n w2 q s m :=
  ⟨h.q.below hb, fun b hs => ⟨(h.lt b hs).1, Nat.lt_of_lt_of_le (h.lt b hs).2 hb.size⟩, h.blk.below hb, h.r1.below hb, h.r2.below hb, h.ns, h.n1, h.n2, h.m1, h.m2, h.hn, h.b1.le hb.size, h.b2.le hb.size⟩
/-- The queue has done a deed. -/
theorem LA.step {S2 : Nat → Prop} {w2 : World} {s2 : QS} (h : LA S v1 v2 B n w q s m) (hB : B ≤ w.heap.size) (hq : QRep S2 w2 q s2.1 s2.2) (hS : ∀ b, S2 b → S b ∨ w.heap.size ≤ b) (ho : Only S w w2) : LA (fun b => S2 b ∧ b < w2.heap.size) v1 v2 B n w2 q s2 m := by
  have hnl := h.blk.lt
  have l1 := h.b1
  have l2 := h.b2
  refine ⟨hq.mono (fun b hb hs => ⟨hs, hb⟩), fun b hs => ⟨?_, hs.2⟩, h.blk.only ho h.ns, h.r1.only ho (fun a k c e e2 => h.n1 _ e2 a k c e rfl), h.r2.only ho (fun a k c e e2 => h.n2 _ e2 a k c e rfl), fun hs => ?_, fun b hs a k c e e2 => ?_, fun b hs a k c e e2 => ?_, h.m1, h.m2, h.hn, h.b1.le ho.size, h.b2.le ho.size⟩
  · rcases hS b hs.1 with h1 | h1
    · exact (h.lt b h1).1
    · omega
  · rcases hS n hs.1 with h1 | h1
    · exact h.ns h1
    · omega
  · rcases hS b hs.1 with h1 | h1
    · exact h.n1 b h1 a k c e e2
    · have := l1 a k c e; omega
  · rcases hS b hs.1 with h1 | h1
    · exact h.n2 b h1 a k c e e2
    · have := l2 a k c e; omega
/-- What the document says has changed. -/
theorem LA.set {w0 : World} {a b : Value} {m2 : QS} (h : LA S v1 v2 B n w q s m) (h0 : ∀ x, S x ∨ x = n → x < w0.heap.size) (ha : GRead w a m2.1) (hb : GRead w b m2.2) (na : Near w0 a v1 v2) (nb : Near w0 b v1 v2) (ua : Up w a) (ub : Up w b) :
    LA S a b B n ((w.setCell ⟨n, 0, none⟩ a).setCell ⟨n, 1, none⟩ b) q s m2 ∧ Only (fun x => x = n) w ((w.setCell ⟨n, 0, none⟩ a).setCell ⟨n, 1, none⟩ b) := by
  have ho : Only (fun x => x = n) w ((w.setCell ⟨n, 0, none⟩ a).setCell ⟨n, 1, none⟩ b) := (Only.set1 w n 0 _).trans (Only.set1 _ n 1 _)
  have ka : NotIn a n := na n (h0 n (.inr rfl)) h.m1 h.m2
  have kb : NotIn b n := nb n (h0 n (.inr rfl)) h.m1 h.m2
  have hsz := ho.size
  exact ⟨⟨h.q.only ho (fun x hs e => h.ns (e ▸ hs)), fun x hs => ⟨(h.lt x hs).1, Nat.lt_of_lt_of_le (h.lt x hs).2 hsz⟩, (h.blk.set 0 a).set 1 b, ha.only ho (fun x k c e e2 => ka x k c e e2), hb.only ho (fun x k c e e2 => kb x k c e e2), h.ns,
    fun x hs => na x (h0 x (.inl hs)) (h.n1 x hs) (h.n2 x hs), fun x hs => nb x (h0 x (.inl hs)) (h.n1 x hs) (h.n2 x hs), ka, kb, h.hn, ua.le hsz, ub.le hsz⟩, ho⟩
end
end Go.Proofs.YteghcgiclpbkdaaDoor
