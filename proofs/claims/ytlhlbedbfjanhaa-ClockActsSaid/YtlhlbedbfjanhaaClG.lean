/- The clock's list sorted. -/
import Derived.Test.YtlhlbedbfjanhaaClF
import Derived.Test.YtlhlbedbfjanhaaShelf
import Derived.Sort.OwnSortedInts
namespace Go.Proofs.Ytlhlbedbfjanhaa
open Go.RowKit Go.Sort

theorem sortedOnly {w : World} {g m : Nat} {os : Array Obj} (dk : Array Int) : Only (fun x => x = g) w (sortWorld (Value.int .i64) w g 0 m dk os) :=
  Only.ofGrown (grownBy_sortedI dk) (fun k hk => by cases hk; rfl)
theorem ownsRow_form {w : World} {base : Nat} {e : TypeId} {size n : Nat} {v : Value} {xs : List Value} (h : w.ownsRow base e size v n xs) : (v = .slice none 0 0 ∧ n = 0) ∨ ∃ g cap, v = .slice (some ⟨g, 0, none⟩) n cap := by
  rcases h.2 with h | ⟨g, cap, cur, rfl, _⟩
  · exact .inl h
  · exact .inr ⟨g, cap, rfl⟩
theorem wsort_any (base pb b p mb : Nat) (c : Clk) (v : Value) (l : List Int) (w : World) (hown : w.ownsRow base 2 1 v l.length (i64s l)) (hlen : l.length ≤ 1000000) (hp : w.cell? ⟨pb, 0, none⟩ = some (.pointer (some ⟨p, 0, none⟩))) (h : WRep w b p mb c) (hpb : v.ownBlock ≠ some pb) (hbb : b + 66 ≤ base) :
    Calls Try.prog 19 #[v, .func (.func 20) #[] #[.pointer (some ⟨pb, 0, none⟩)]] w fun e w' => e = .returned (.tuple #[]) ∧ w'.ownsRow base 2 1 v (sortC c.at_ l).length (i64s (sortC c.at_ l)) ∧ Only (fun x => v.ownBlock = some x) w w' := by
  have hsl := sortC_length c.at_ l
  rcases hown.2 with ⟨rfl, h0⟩ | ⟨g, cap, cur, rfl, hbg, hblk, hnc, hcm, hcs, htk⟩
  · obtain rfl : l = [] := List.eq_nil_of_length_eq_zero h0
    refine (Try.slices_SortFunc_none (α := Int) none 0 _ w).mono ?_
    rintro e w' ⟨rfl, rfl⟩
    refine ⟨rfl, ?_, Only.refl _ _⟩
    have e1 : sortC c.at_ [] = [] := List.eq_nil_of_length_eq_zero (by rw [hsl]; rfl)
    rw [e1]; exact hown
  · have hg : g < w.heap.size := (Array.getElem?_eq_some_iff.1 hblk).1
    have htk2 : cur.toList.take l.length = l.map (Value.int .i64) := by rw [Nat.mul_one] at htk; exact htk
    have hH := holds_of_blockI hblk htk2
    have hgp : g ≠ pb := fun e => hpb (by rw [e]; rfl)
    have hps := h.ps
    have hms := h.ms
    have hcmp : CmpLays1 Try.prog 20 #[.pointer (some ⟨pb, 0, none⟩)] (Value.int .i64) (cmpC c.at_) g 0 l.toArray.size w := by
      intro m os dk hs x y
      have ho := sortedOnly (w := w) (g := g) (m := m) (os := os) dk
      have h2 := h.only ho (fun x hx e => by unfold InW at hx; omega)
      refine (show Calls _ _ _ _ _ from tcmp_any pb p mb c x y _ (ho.cell (fun e => hgp e.symm) hp) h2.at1 h2.map).mono ?_
      rintro e w' ⟨he, o, hw⟩
      refine ⟨he, 1, #[o], ?_⟩
      rw [hw, alloc_eq_grow]; rfl
    have hcon := Try.slices_SortFunc_total (α := Int) (Value.int .i64) (fun _ => rfl) (cmpC c.at_) (swoC c.at_) 20 #[.pointer (some ⟨pb, 0, none⟩)] g 0 cap l.toArray w (enters_of Try.func20 (by kernel_rfl) rfl) hcmp hH hg (by simp; omega) (totC c.at_)
    refine (show Calls _ _ _ _ _ from hcon).mono ?_
    rintro e w' ⟨rfl, n, os, rfl⟩
    refine ⟨rfl, ?_, (sortedOnly _).mono (fun x _ e => by rw [e]; rfl)⟩
    have := ownsRow_sortedI (w := w) (base := base) (g := g) (cap := cap) (n := n) (os := os) (ss := l) (ts := sortC c.at_ l) hsl hbg hblk hnc hcm hcs
    rw [hsl]
    exact this
end Go.Proofs.Ytlhlbedbfjanhaa
