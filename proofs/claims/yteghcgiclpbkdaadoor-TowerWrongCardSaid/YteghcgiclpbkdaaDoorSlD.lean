/- slices.Clone over grants; the methods Held, Waits of a queue's own rows come by it. -/
import Derived.Test.YteghcgiclpbkdaaDoorSlC
namespace Go.Proofs.YteghcgiclpbkdaaDoor
open Go.RowKit

set_option maxHeartbeats 1000000 in
theorem clone_any (v : Value) (l : List (Int × Int)) (w : World) (hv : w.ownsRow 0 34 2 v l.length (gcells l)) (hlen : l.length ≤ 1048576) :
    Calls Tryd.prog 49 #[v] w fun e w' => ∃ v', e = .returned v' ∧ w'.ownsRow w.heap.size 34 2 v' l.length (gcells l) ∧ Below w.heap.size w w' := by
  have hen := fun (wx : World) (ax : Option Addr) (n c : Nat) => Go.Lib.run_eql_slice_nil (P := Tryd.prog) wx 31 34 ax n c 0 0 Tryd.underlying31
  rcases ownsRow_cases hv with ⟨rfl, h0, _⟩ | ⟨g, cap, rfl⟩
  · obtain rfl : l = [] := by cases l <;> simp_all
    go_enter Tryd.func49, Tryd.ntmps49
    go_wp2
    go_ret
    exact ⟨_, rfl, ⟨by simp [gcells], .inl ⟨rfl, rfl⟩⟩, Below.refl _ _⟩
  · obtain ⟨rest, hB, _, hcl, hcap, hmax⟩ := blk_of_ownsRow hv
    obtain ⟨i0, hi, hz0, hz1, hz2⟩ := info_parts infoGrant
    have hown : (w.alloc (.cells #[] 34)).ownsRow w.heap.size 34 2 (.slice (some ⟨w.heap.size, 0, none⟩) 0 0) 0 [] := World.ownsRow_lit w #[] 0 (Nat.le_refl _) (by simp [maxLen]) rfl
    have hcells : ∀ j u, (gcells l)[j]? = some u → (w.alloc (.cells #[] 34)).cell? ((⟨g, 0, none⟩ : Addr).add j) = some u := by
      intro j u h
      rw [Addr.add_lit, (hB.alloc _).cell, Nat.zero_add, List.getElem?_append_left (List.getElem?_eq_some_iff.1 h).1]; exact h
    have hcl2 : (gcells l).length = l.length * 2 := by simp; omega
    have H1 := Lib.hid hcells
    have H2 := Lib.hid hown
    have H3 := Lib.hid hcl2
    have H4 := Lib.hid (And.intro hi (And.intro hz0 (And.intro hz1 hz2)))
    clear hcells hown hcl2 hcl hB hv hi hz0 hz1 hz2
    go_enter Tryd.func49, Tryd.ntmps49
    go_wp2_with (at_builtin; refine wpList_append_own_at _ rfl (.tmp 5) (.tmp 6) 31 rfl w.heap.size 34 i0 (.agg #[.int .i64 0, .int .i64 0]) 2 16 Tryd.underlying31 H4.out.1 H4.out.2.1 H4.out.2.2.1 H4.out.2.2.2 rfl (by decide) _ 0 [] rfl H2.out ⟨g, 0, none⟩ l.length cap (gcells l) rfl H3.out H1.out gcells_one ?c3 ?c4 ?c5 ?_)
    case c3 => unfold maxLen; omega
    case c4 => omega
    case c5 => simp
    intro v2 w2 hown2 hgr _ _
    have hown3 : w2.ownsRow w.heap.size 34 2 v2 l.length (gcells l) := by simpa using hown2
    have hb : Below w.heap.size w w2 := ((Below.refl _ _).alloc (Nat.le_refl _) _).grown hgr (by simp) (fun k hk => by simp [Value.ownBlock] at hk; omega)
    have H5 := Lib.hid hown3
    clear hown2 hown3 hgr
    go_wp2
    go_ret
    exact ⟨_, rfl, H5.out, hb⟩
end Go.Proofs.YteghcgiclpbkdaaDoor
