/- A queue in memory; lock.New, Held, Waits, may, there. -/
import Derived.Test.YteghcgiclpbkdaaDoorLockA
import Derived.Test.YteghcgiclpbkdaaDoorSlD
namespace Go.Proofs.YteghcgiclpbkdaaDoor
open Go.RowKit

/-- Block q is a queue; what it leads to lies in S. -/
def QRep (S : Nat → Prop) (w : World) (q : Nat) (h l : List (Int × Int)) : Prop :=
  ∃ hv wv, S q ∧ Blk w q 91 [hv, wv] ∧ w.ownsRow 0 34 2 hv h.length (gcells h) ∧ w.ownsRow 0 34 2 wv l.length (gcells l) ∧
    (∀ g, hv.ownBlock = some g → S g ∧ g ≠ q ∧ wv.ownBlock ≠ some g) ∧ (∀ g, wv.ownBlock = some g → S g ∧ g ≠ q)

theorem own_only {S : Nat → Prop} {w w1 : World} {base : Nat} {e : TypeId} {size n : Nat} {v : Value} {xs : List Value} (h : w.ownsRow base e size v n xs) (ho : Only S w w1) (hs : ∀ g, v.ownBlock = some g → ¬ S g) : w1.ownsRow base e size v n xs := by
  rcases h with ⟨hx, h0 | ⟨g, cap, cur, rfl, hb, hg, hr⟩⟩
  · exact ⟨hx, .inl h0⟩
  · exact ⟨hx, .inr ⟨g, cap, cur, rfl, hb, (ho.block g (Array.getElem?_eq_some_iff.1 hg).1 (hs g rfl)).trans hg, hr⟩⟩

theorem QRep.only {S T : Nat → Prop} {w w2 : World} {q : Nat} {h l : List (Int × Int)} (hq : QRep S w q h l) (ho : Only T w w2) (hd : ∀ b, S b → ¬ T b) : QRep S w2 q h l := by
  obtain ⟨hv, wv, h1, h2, h3, h4, h5, h6⟩ := hq
  exact ⟨hv, wv, h1, h2.only ho (hd _ h1), own_only h3 ho (fun g hg => hd g (h5 g hg).1), own_only h4 ho (fun g hg => hd g (h6 g hg).1), h5, h6⟩
theorem QRep.below {S : Nat → Prop} {w w2 : World} {q : Nat} {h l : List (Int × Int)} (hq : QRep S w q h l) (hb : Below w.heap.size w w2) : QRep S w2 q h l :=
  hq.only (Only.ofBelow hb (fun _ => False)) (fun _ _ h => h)
theorem QRep.mono {S T : Nat → Prop} {w : World} {q : Nat} {h l : List (Int × Int)} (hq : QRep S w q h l) (hd : ∀ b, b < w.heap.size → S b → T b) : QRep T w q h l := by
  obtain ⟨hv, wv, h1, h2, h3, h4, h5, h6⟩ := hq
  exact ⟨hv, wv, hd _ h2.lt h1, h2, h3, h4, fun g hg => ⟨hd g (h3.lt g hg).2 (h5 g hg).1, (h5 g hg).2⟩, fun g hg => ⟨hd g (h4.lt g hg).2 (h6 g hg).1, (h6 g hg).2⟩⟩

set_option maxHeartbeats 400000 in
theorem lockNew_any (w : World) : Calls Tryd.prog 18 #[] w fun e w' => e = .returned (.pointer (some ⟨w.heap.size, 0, none⟩)) ∧ QRep (fun b => w.heap.size ≤ b) w' w.heap.size [] [] ∧ Below w.heap.size w w' := by
  go_enter Tryd.func18, Tryd.ntmps18
  go_wp2
  go_ret
  refine ⟨rfl, ⟨.slice none 0 0, .slice none 0 0, Nat.le_refl _, ?_, ⟨rfl, .inl ⟨rfl, rfl⟩⟩, ⟨rfl, .inl ⟨rfl, rfl⟩⟩, by simp [Value.ownBlock], by simp [Value.ownBlock]⟩, (Below.refl _ _).alloc (Nat.le_refl _) _⟩
  unfold Blk
  exact heap_alloc_new w _

section
variable {S : Nat → Prop} {w : World} {q : Nat} {h l : List (Int × Int)}
set_option maxHeartbeats 400000 in
theorem held_any (hq : QRep S w q h l) (hlen : h.length ≤ 1048576) :
    Calls Tryd.prog 17 #[.pointer (some ⟨q, 0, none⟩)] w fun e w' => ∃ v', e = .returned v' ∧ w'.ownsRow w.heap.size 34 2 v' h.length (gcells h) ∧ Below w.heap.size w w' := by
  obtain ⟨hv, wv, h1, h2, h3, h4, h5, h6⟩ := hq
  have c0 : w.cell? ⟨q, 0, none⟩ = some hv := h2.cell 0
  clear h1 h2 h4 h5 h6
  go_enter Tryd.func17, Tryd.ntmps17
  go_wp2_with fail
  refine (clone_any _ h _ h3 hlen).mono ?_
  rintro e w2 ⟨v2, rfl, ho, hb⟩
  have H := Lib.hid ho
  clear ho
  go_wp2
  go_ret
  exact ⟨_, rfl, H.out, hb⟩
set_option maxHeartbeats 400000 in
theorem waits_any (hq : QRep S w q h l) (hlen : l.length ≤ 1048576) :
    Calls Tryd.prog 28 #[.pointer (some ⟨q, 0, none⟩)] w fun e w' => ∃ v', e = .returned v' ∧ w'.ownsRow w.heap.size 34 2 v' l.length (gcells l) ∧ Below w.heap.size w w' := by
  obtain ⟨hv, wv, h1, h2, h3, h4, h5, h6⟩ := hq
  have c0 : w.cell? ⟨q, 1, none⟩ = some wv := h2.cell 1
  clear h1 h2 h3 h5 h6
  go_enter Tryd.func28, Tryd.ntmps28
  go_wp2_with fail
  refine (clone_any _ l _ h4 hlen).mono ?_
  rintro e w2 ⟨v2, rfl, ho, hb⟩
  have H := Lib.hid ho
  clear ho
  go_wp2
  go_ret
  exact ⟨_, rfl, H.out, hb⟩

/-! ### the closures -/
theorem enter_may1 (args : Array Value) (w : World) : (callFunc 66 args).run Tryd.prog w = .ok (.enter 66 args) w := by kernel_rfl
theorem enter_there1 (args : Array Value) (w : World) : (callFunc 68 args).run Tryd.prog w = .ok (.enter 68 args) w := by kernel_rfl
theorem enter_free1 (args : Array Value) (w : World) : (callFunc 52 args).run Tryd.prog w = .ok (.enter 52 args) w := by kernel_rfl

set_option maxHeartbeats 400000 in
theorem may1_any (g : Int × Int) (b : Nat) (m : Int) (w : World) (hc : w.cell? ⟨b, 0, none⟩ = some (.int .i64 m)) :
    Calls Tryd.prog 66 #[.agg #[.int .i64 g.1, .int .i64 g.2], .pointer (some ⟨b, 0, none⟩)] w fun e w' => e = .returned (.bool (!fitsB g.2 m)) ∧ Below w.heap.size w w' := by
  have hlt := World.block_lt_of_cell? w _ hc
  have hc2 : ∀ o, (w.alloc o).cell? ⟨b, 0, none⟩ = some (.int .i64 m) := fun o => by rw [World.cell?_alloc_past _ _ _ hlt]; exact hc
  go_enter Tryd.func66, Tryd.ntmps66
  go_wp2_with fail
  refine (compat_any g.2 m _).mono ?_
  rintro e w2 ⟨rfl, rfl⟩
  go_wp2
  go_ret
  exact ⟨rfl, (Below.refl _ _).alloc (Nat.le_refl _) _⟩
set_option maxHeartbeats 400000 in
theorem there1_any (g : Int × Int) (b : Nat) (m : Int) (w : World) (hc : w.cell? ⟨b, 0, none⟩ = some (.int .i64 m)) :
    Calls Tryd.prog 68 #[.agg #[.int .i64 g.1, .int .i64 g.2], .pointer (some ⟨b, 0, none⟩)] w fun e w' => e = .returned (.bool (g.1 == m)) ∧ Below w.heap.size w w' := by
  have hlt := World.block_lt_of_cell? w _ hc
  have hc2 : ∀ o, (w.alloc o).cell? ⟨b, 0, none⟩ = some (.int .i64 m) := fun o => by rw [World.cell?_alloc_past _ _ _ hlt]; exact hc
  go_enter Tryd.func68, Tryd.ntmps68
  go_wp2
  go_ret
  exact ⟨rfl, (Below.refl _ _).alloc (Nat.le_refl _) _⟩
set_option maxHeartbeats 400000 in
theorem free1_any (g : Int × Int) (b : Nat) (m : Int) (w : World) (hc : w.cell? ⟨b, 0, none⟩ = some (.int .i64 m)) :
    Calls Tryd.prog 52 #[.agg #[.int .i64 g.1, .int .i64 g.2], .pointer (some ⟨b, 0, none⟩)] w fun e w' => e = .returned (.bool (g.1 == m)) ∧ Below w.heap.size w w' := by
  have hlt := World.block_lt_of_cell? w _ hc
  have hc2 : ∀ o, (w.alloc o).cell? ⟨b, 0, none⟩ = some (.int .i64 m) := fun o => by rw [World.cell?_alloc_past _ _ _ hlt]; exact hc
  go_enter Tryd.func52, Tryd.ntmps52
  go_wp2
  go_ret
  exact ⟨rfl, (Below.refl _ _).alloc (Nat.le_refl _) _⟩

theorem asks_may (T : Nat → Prop) (b : Nat) (m : Int) (hT : ¬ T b) (hc : w.cell? ⟨b, 0, none⟩ = some (.int .i64 m)) : Asks T w (.func (.func 66) #[] #[.pointer (some ⟨b, 0, none⟩)]) (fun g => !fitsB g.2 m) :=
  ⟨_, _, rfl, enter_may1, fun g w1 ho => may1_any g b m w1 (ho.cell hT hc)⟩
theorem asks_there (T : Nat → Prop) (b : Nat) (m : Int) (hT : ¬ T b) (hc : w.cell? ⟨b, 0, none⟩ = some (.int .i64 m)) : Asks T w (.func (.func 68) #[] #[.pointer (some ⟨b, 0, none⟩)]) (fun g => g.1 == m) :=
  ⟨_, _, rfl, enter_there1, fun g w1 ho => there1_any g b m w1 (ho.cell hT hc)⟩
theorem asks_free (T : Nat → Prop) (b : Nat) (m : Int) (hT : ¬ T b) (hc : w.cell? ⟨b, 0, none⟩ = some (.int .i64 m)) : Asks T w (.func (.func 52) #[] #[.pointer (some ⟨b, 0, none⟩)]) (fun g => g.1 == m) :=
  ⟨_, _, rfl, enter_free1, fun g w1 ho => free1_any g b m w1 (ho.cell hT hc)⟩

theorem may_eq (h : List (Int × Int)) (m : Int) : (!h.any fun g => !fitsB g.2 m) = mayB h m := by
  unfold mayB
  induction h with
  | nil => rfl
  | cons g h ih => simp [ih]

set_option maxHeartbeats 400000 in
theorem may_any (m : Int) (hq : QRep S w q h l) :
    Calls Tryd.prog 54 #[.pointer (some ⟨q, 0, none⟩), .int .i64 m] w fun e w' => e = .returned (.bool (mayB h m)) ∧ Below w.heap.size w w' := by
  have hb0 : Below w.heap.size w (w.alloc (.cells #[.int .i64 m] 23)) := (Below.refl _ _).alloc (Nat.le_refl _) _
  obtain ⟨hv, wv, h1, h2, h3, h4, h5, h6⟩ := hq.below hb0
  have hlt := hq.choose_spec.choose_spec.2.1.lt
  have c0 : (w.alloc (.cells #[.int .i64 m] 23)).cell? ⟨q, 0, none⟩ = some hv := h2.cell 0
  have ha : Asks (fun _ => False) (w.alloc (.cells #[.int .i64 m] 23)) _ _ := asks_may (fun _ => False) w.heap.size m (fun h => h) (by simp)
  have HG := Lib.hid (gread_of_ownsRow h3)
  have HA := Lib.hid ha
  clear h1 h2 h3 h4 h5 h6 ha
  go_enter Tryd.func54, Tryd.ntmps54
  go_wp2_with fail
  refine (containsFunc_any _ _ h _ _ HG.out _ HA.out).mono ?_
  rintro e w2 ⟨rfl, hb⟩
  go_wp2
  go_ret
  exact ⟨ret_bool (may_eq h m), hb0.trans (hb.mono (by simp))⟩
end
end Go.Proofs.YteghcgiclpbkdaaDoor
