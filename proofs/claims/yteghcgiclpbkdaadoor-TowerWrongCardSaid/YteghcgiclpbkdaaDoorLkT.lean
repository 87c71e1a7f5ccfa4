/- Locks' laws: Queue.There. -/
import Derived.Test.YteghcgiclpbkdaaDoorLkN
import Derived.Test.YteghcgiclpbkdaaDoorApp
namespace Go.Proofs.YteghcgiclpbkdaaDoor
open Go.RowKit

theorem GRead.news {w : World} {b off n cap : Nat} {l : List (Int × Int)} (h : GRead w (.slice (some ⟨b, off, none⟩) n cap) l) : ∀ j u, (gcells l)[j]? = some u → w.cell? ((⟨b, off, none⟩ : Addr).add j) = some u := by
  intro j u hu
  obtain ⟨_, a, c, e, h⟩ := h
  simp only [Value.slice.injEq] at e
  obtain ⟨rfl, rfl, rfl⟩ := e
  have hj : j < (gcells l).length := (List.getElem?_eq_some_iff.1 hu).1
  rw [gcells_length] at hj
  obtain ⟨b2, o2, e2, hc⟩ := h (by omega)
  simp only [Option.some.injEq, Addr.mk.injEq, and_true] at e2
  obtain ⟨rfl, rfl⟩ := e2
  have h2 := gcells_at l (j / 2) (by omega)
  have h3 := hc (j / 2) (by omega)
  have ea : (⟨b, off, none⟩ : Addr).add j = ⟨b, off + j, none⟩ := by
    unfold Addr.add; split <;> simp_all
  rw [ea]
  rcases Nat.mod_two_eq_zero_or_one j with e | e
  · have : j / 2 * 2 = j := by omega
    rw [this] at h2 h3
    rw [h2.1] at hu
    rw [h3.1]; exact hu
  · have : j / 2 * 2 + 1 = j := by omega
    rw [show off + j = off + j / 2 * 2 + 1 by omega, h3.2]
    rw [this] at h2
    rw [h2.2] at hu
    exact hu

theorem run_append_grants {b1 : Nat} {w : World} {v1 v2 : Value} {l1 l2 : List (Int × Int)} (h1 : w.ownsRow b1 34 2 v1 l1.length (gcells l1)) (h2 : GRead w v2 l2)
    (hb : b1 ≤ w.heap.size) (hl : l1.length + l2.length ≤ 4000000) :
    ∃ v w', (∀ ty, (Builtin.append_ #[31, 31] ty #[v1, v2]).run Tryd.prog w = .ok v w') ∧ w'.ownsRow b1 34 2 v (l1 ++ l2).length (gcells (l1 ++ l2)) ∧ w.grownBy w' v1.ownBlock ∧ (v.ownBlock = v1.ownBlock ∨ v.ownBlock = some w.heap.size) := by
  obtain ⟨i, hi, hii⟩ := Option.map_eq_some_iff.1 infoGrant
  simp only [Prod.mk.injEq] at hii
  obtain ⟨i1, i2, i3⟩ := hii
  have h2' := h2
  obtain ⟨_, a, cap, rfl, hc⟩ := h2'
  cases a with
  | none =>
    have h0 : l2 = [] := by
      rcases Nat.eq_zero_or_pos l2.length with h | h
      · exact List.eq_nil_of_length_eq_zero h
      · obtain ⟨b, o, e, _⟩ := hc h; simp at e
    subst h0
    refine ⟨v1, w, fun ty => ?_, by simpa using h1, ⟨rfl, rfl, rfl, Nat.le_refl _, fun _ _ _ => rfl⟩, .inl rfl⟩
    have ht := Tryd.underlying31
    rcases h1.2 with ⟨rfl, h0⟩ | ⟨g, cap2, cur, rfl, _, _, hnc, _⟩
    · simp [Builtin.append_, run_underlying ht, sizeOf, typeInfo, hi, Builtin.lenOf, Builtin.firstCells]
    · simp [Builtin.append_, run_underlying ht, sizeOf, typeInfo, hi, Builtin.lenOf, Builtin.firstCells, hnc, storeCells]
  | some a =>
    have hnews : ∀ j u, (gcells l2)[j]? = some u → w.cell? (a.add j) = some u := by
      rcases Nat.eq_zero_or_pos l2.length with h | h
      · have := List.eq_nil_of_length_eq_zero h
        subst this
        intro j u hu; simp [gcells] at hu
      · obtain ⟨b, o, e, _⟩ := hc h
        obtain rfl := Option.some.inj e
        exact h2.news
    have key := fun ty => run_append_own_at (P := Tryd.prog) w b1 31 ty 34 i (.agg #[.int .i64 0, .int .i64 0]) 2 16 Tryd.underlying31 hi i1 i2 i3 rfl (by decide) v1 l1.length (gcells l1) h1
      a l2.length cap (gcells l2) (by rw [gcells_length]; omega) hnews gcells_one (by unfold maxLen; omega) (by omega) hb
    obtain ⟨v, w', hr, ho, hg, _, hat⟩ := key 0
    refine ⟨v, w', fun ty => hr, ?_, hg, hat⟩
    rw [gcells_append, List.length_append]; exact ho

/-- At a step of a region that draws: append of what reads as grants, to what one has. -/
theorem step_append_grants {ops : Array Oper} {o : Oper} {a : Act} {w : World} {K : Act → World → Prop} {Q : Exit → Act → World → Prop} {E : Prop}
    (hg : o.guard = none) (s x : Operand) (hop : o.op = Op.call { callee := Callee.builtin Builtin.append, args := #[s, x], argTypes := #[31, 31] })
    (v1 v2 : Value) (hs : a.eval s = v1) (hx : a.eval x = v2) (b1 : Nat) (l1 l2 : List (Int × Int)) (h1 : w.ownsRow b1 34 2 v1 l1.length (gcells l1)) (h2 : GRead w v2 l2) (hb : b1 ≤ w.heap.size) (hl : l1.length + l2.length ≤ 4000000)
    (hK : ∀ v w', w'.ownsRow b1 34 2 v (l1 ++ l2).length (gcells (l1 ++ l2)) → w.grownBy w' v1.ownBlock → (v.ownBlock = v1.ownBlock ∨ v.ownBlock = some w.heap.size) → K (a.put o.dst v) w') : if Region.wanted o (yielded ops a.tmps) = true then Oper.wp Tryd.prog o a w K Q else E := by
  obtain ⟨v, w', hr, ho, hgr, hat⟩ := run_append_grants h1 h2 hb hl
  exact step_append_run hg s x _ hop v1 v2 hs hx v w' hr (hK v w' ho hgr hat)
theorem own_empty (w : World) (e : TypeId) (size : Nat) : (w.alloc (.cells #[] e)).ownsRow w.heap.size e size (.slice (some ⟨w.heap.size, 0, none⟩) 0 0) 0 [] :=
  ⟨by simp, .inr ⟨w.heap.size, 0, #[], rfl, Nat.le_refl _, heap_alloc_new w _, Nat.le_refl _, by decide, by simp, by simp⟩⟩

theorem own_blk_ge {w : World} {b : Nat} {e : TypeId} {size n : Nat} {v : Value} {xs : List Value} (h : w.ownsRow b e size v n xs) {k : Nat} (hk : v.ownBlock = some k) : b ≤ k := by
  obtain ⟨_, h⟩ := h
  rcases h with ⟨h, _⟩ | ⟨g, cap2, cur, h, hb, _⟩
  · rw [h] at hk; simp [Value.ownBlock] at hk
  · rw [h] at hk
    simp only [Value.ownBlock, Option.some.injEq] at hk
    omega
set_option maxHeartbeats 4000000 in
theorem lthere_any (v1 v2 : Value) (l1 l2 : List (Int × Int)) (id : Int) (w : World) (h1 : GRead w v1 l1) (h2 : GRead w v2 l2) (hl : l1.length + l2.length ≤ 2000000) :
    Calls Tryd.prog 23 #[.agg #[v1, v2], .int .i64 id] w fun e w' => e = .returned (.bool (thereB l1 l2 id)) ∧ Below w.heap.size w w' := by
  have HG := Lib.hid (And.intro h1 h2)
  clear h1 h2
  have hbW : Below w.heap.size w (((w.alloc (.cells #[v1, v2] 39)).alloc (.cells #[] 34)).drew) := pwDrewN (((Below.refl _ _).alloc (Nat.le_refl _) _).alloc (by simp) _) 1
  have hE : (((w.alloc (.cells #[v1, v2] 39)).alloc (.cells #[] 34)).drew).ownsRow (w.heap.size + 1) 34 2 (.slice (some ⟨w.heap.size + 1, 0, none⟩) 0 0) 0 [] := by
    have := (own_empty (w.alloc (.cells #[v1, v2] 39)) 34 2).drew
    simpa using this
  have hS : w.heap.size + 1 ≤ (((w.alloc (.cells #[v1, v2] 39)).alloc (.cells #[] 34)).drew).heap.size := by simp
  have hc1 : (((w.alloc (.cells #[v1, v2] 39)).alloc (.cells #[] 34)).drew).cell? ⟨w.heap.size, 1, none⟩ = some v2 := by simp
  have HW := Lib.hid (And.intro hbW (And.intro hE (And.intro hS hc1)))
  clear hbW hE hS hc1
  obtain ⟨LL, hLL⟩ : ∃ LL, LL = l1 ++ l2 := ⟨_, rfl⟩
  have HLL := Lib.hid hLL
  have hth : thereB l1 l2 id = LL.any (fun g => g.1 == id) := by rw [hLL, List.any_append]; rfl
  rw [hth]
  clear hLL hth
  go_enter Tryd.func23, Tryd.ntmps23
  go_wp2
  go_cut [13, 14, 15] from 7 to 15 (fun s n i wx => ∃ a c, s = .slice a LL.length c ∧ n = .int .i64 (LL.length : Int) ∧ i = .int .i64 0 ∧ GRead wx (.slice a LL.length c) LL ∧ Below w.heap.size w wx)
  case first =>
    go_region_law (first
      | (refine step_append_grants rfl (.tmp 7) (.tmp 9) rfl (.slice (some ⟨w.heap.size + 1, 0, none⟩) 0 0) v1 (by simp [Act.eval]) (by simp [Act.eval]) (w.heap.size + 1) [] l1 HW.out.2.1 (HG.out.1.below HW.out.1) HW.out.2.2.1 (by simp; omega) ?_; intro v3 w3 ho3 hg3 hat3; have k1 : w3.cell? ⟨w.heap.size, 1, none⟩ = some v2 := (Only.ofGrown (S := fun k => k = w.heap.size + 1) hg3 (fun k e => by simp [Value.ownBlock] at e; omega)).cell (by simp) HW.out.2.2.2; have hb3 : Below w.heap.size w w3 := HW.out.1.trans ((Only.ofGrown (S := fun k => k = w.heap.size + 1) hg3 (fun k e => by simp [Value.ownBlock] at e; omega)).below (by have := HW.out.2.2.1; omega) (fun k hk e => by omega)); have hs3 : w.heap.size + 1 ≤ w3.heap.size := Nat.le_trans HW.out.2.2.1 hg3.size)
      | (refine step_append_grants rfl (.tmp 10) (.tmp 12) rfl v3 v2 (by simp [Act.eval]) (by simp [Act.eval]) (w.heap.size + 1) l1 l2 (by first | exact ho3 | exact ho3.drew) (by first | exact HG.out.2.below hb3 | exact HG.out.2.below (pwDrewN hb3 1)) (by first | exact hs3) (by omega) ?_; intro v4 w4 ho4 hg4 hat4; have hr4 := gread_of_ownsRow ho4; rw [← HLL.out] at hr4; have HR4 := Lib.hid hr4; obtain ⟨_, a4, c4, rfl, _⟩ := hr4))
    all_goals
      have hge : ∀ k, v3.ownBlock = some k → w.heap.size + 1 ≤ k := fun k e => own_blk_ge ho3 e
      have hb4 : Below w.heap.size w w4 := hb3.trans ((Only.ofGrown (S := fun k => w.heap.size ≤ k) (w := w3) hg4 (fun k e => by have := hge k e; omega)).below (by omega) (fun k hk e => by omega))
      have HB4 := Lib.hid hb4
      clear hge hb4 ho3 hg3 hat3 k1 hb3 hs3 ho4 hg4 hat4 HW
      go_wp2
      go_meet
      exact ⟨_, _, rfl, rfl, rfl, HR4.out, HB4.out⟩
  case rest =>
    obtain ⟨a4, c4, rfl, rfl, rfl, hr4, hb4⟩ := hcut
    have HB4 := Lib.hid hb4
    obtain ⟨_, _, _, e4, hc4⟩ := hr4
    simp only [Value.slice.injEq, true_and] at e4
    obtain ⟨rfl, rfl⟩ := e4
    clear hb4
    go_wp2
    go_loopg [15] LL.length (fun m kv wr => ∃ k : Nat, kv = .int .i64 (k : Int) ∧ k + m = LL.length ∧ (∀ j (h : j < LL.length), j < k → (LL[j].1 == id) = false) ∧ Below wc.heap.size wc wr)
    case atStart => exact ⟨0, rfl, by omega, fun j _ h => by omega, Below.refl _ _⟩
    case round =>
      obtain ⟨k, rfl, hkm, hno, hbr⟩ := hrel
      have HN := Lib.hid (And.intro hno hbr)
      clear hno hbr
      cases gk with
      | zero =>
        have hkn : ¬ ((k : Int) < (LL.length : Int)) := by omega
        have hany : LL.any (fun g => g.1 == id) = false := by
          rw [List.any_eq_false]
          intro g hg
          obtain ⟨j, hj, rfl⟩ := List.getElem_of_mem hg
          simpa using HN.out.1 j hj (by omega)
        have HA := Lib.hid hany
        clear hany
        go_wp2
        go_ret
        exact ⟨ret_bool HA.out.symm, HB4.out.trans (HN.out.2.mono HB4.out.size)⟩
      | succ m =>
        have hkn : (k : Int) < (LL.length : Int) := by omega
        have hk0 : (0 : Int) ≤ (k : Int) := by omega
        have hkl : k < LL.length := by omega
        obtain ⟨b, o, rfl, hc⟩ := hc4 (by omega)
        have y0 : wr.cell? ⟨b, o + k * 2, none⟩ = some (.int .i64 LL[k].1) := bcell HN.out.2 (hc k hkl).1
        have y1 : wr.cell? ⟨b, o + k * 2 + 1, none⟩ = some (.int .i64 LL[k].2) := bcell HN.out.2 (hc k hkl).2
        cases he : (LL[k].1 == id) with
        | true =>
          have hany : LL.any (fun g => g.1 == id) = true := List.any_eq_true.2 ⟨LL[k], List.getElem_mem hkl, he⟩
          have HA := Lib.hid hany
          clear hany hc hc4
          go_wp2
          go_ret
          exact ⟨ret_bool HA.out.symm, HB4.out.trans ((HN.out.2.alloc HN.out.2.size _).mono HB4.out.size)⟩
        | false =>
          have HE := Lib.hid he
          clear hc
          go_wp2
          go_roundg m
          case measure => omega
          case rel => exact ⟨k + 1, by go_num, by omega, step_no (l := LL) (p := fun g => g.1 == id) HN.out.1 HE.out, HN.out.2.alloc HN.out.2.size _⟩
end Go.Proofs.YteghcgiclpbkdaaDoor
