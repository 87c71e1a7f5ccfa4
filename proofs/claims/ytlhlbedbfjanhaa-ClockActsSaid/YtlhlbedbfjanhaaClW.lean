/- The law's due: the walk. -/
import Derived.Test.YtlhlbedbfjanhaaClV
namespace Go.Proofs.Ytlhlbedbfjanhaa
open Go.RowKit

/-- the range in due: what has been seen, the best of it. -/
structure LI (w wr wi : World) (mB r0 : Nat) (c : Clk) (now : Int) (ov : Value) (l : List Int) (left : Int → Bool) (st : Option Int) (cnt : Nat) : Prop where
  rg : RgS i64V wi mB r0 (minusF c l) left cnt
  best : BestOf c now (fun k => (minusF c l k).isSome = true ∧ left k = false) st
  only : Only (fun k => k = r0) wr wi
theorem LI.next {w wr wi w2 : World} {mB r0 : Nat} {c : Clk} {now : Int} {ov : Value} {l : List Int} {left : Int → Bool} {st st2 : Option Int} {cnt cnt2 : Nat} {id : Int} (h : LI w wr wi mB r0 c now ov l left st cnt) (hg : RgS i64V w2 mB r0 (minusF c l) (fun x => left x && !decide (x = id)) cnt2) (ho : Only (fun x => x = r0) wi w2)
    (hb : ∀ V' : Int → Prop, (∀ k, V' k ↔ (((minusF c l k).isSome = true ∧ left k = false) ∨ k = id)) → BestOf c now V' st2) (hs : (minusF c l id).isSome = true) : LI w wr w2 mB r0 c now ov l (fun x => left x && !decide (x = id)) st2 cnt2 := by
  refine ⟨hg, hb _ fun k => ?_, h.only.trans ho⟩
  by_cases e : k = id
  · subst e; simp [hs]
  · simp [e]
theorem LI.end {w wr wi : World} {mB r0 : Nat} {c : Clk} {now : Int} {ov : Value} {l : List Int} {left : Int → Bool} {st : Option Int} {cnt : Nat} (h : LI w wr wi mB r0 c now ov l left st cnt) (hl : ∀ k, left k = false) : BestOf c now (fun k => (minusF c l k).isSome = true) st := by
  have h2 := h.best
  have e : (fun k => (minusF c l k).isSome = true ∧ left k = false) = fun k => (minusF c l k).isSome = true := by
    funext k
    rw [hl k]
    simp
  rw [e] at h2
  exact h2

set_option maxHeartbeats 8000000 in
set_option maxRecDepth 100000 in
theorem ldue_any (mB : Nat) (c : Clk) (now : Int) (N : Nat) (w : World) (hm : MapS i64V w mB (atF c)) (hF : Few c N) (hN : N ≤ 400000) :
    Calls Try.prog 15 #[.map (some mB), .int .i64 now] w fun e w' => ∃ v l, e = .returned v ∧ w'.ownsRow w.heap.size 2 1 v l.length (i64s l) ∧ DueL c.at_ now l ∧ MapS i64V w' mB (atF ⟨now, fun k => if isDue now (c.at_ k) then none else c.at_ k⟩) ∧ Only (fun x => x = mB) w w' := by
  obtain ⟨i0, hi0, hii⟩ := Option.map_eq_some_iff.1 infoI64
  simp only [Prod.mk.injEq] at hii
  obtain ⟨hz0, hz1, hz2⟩ := hii
  have hst : LD w w mB c now (.slice none 0 0) [] := ⟨⟨rfl, .inl ⟨rfl, rfl⟩⟩, hm.congr (fun k => by unfold minusF; simp), List.Pairwise.nil, by simp, by simp, Only.refl _ _, hm.lt⟩
  have H0 := Lib.hid (And.intro hst (And.intro hF hN))
  clear hst hF hN hm
  go_enter Try.func15, Try.ntmps15
  go_wp2_with fail
  go_loopg [5] N (fun gk ov wr => ∃ (l : List Int), gk + l.length = N ∧ Hid (LD w wr mB c now ov l))
  case atStart => exact ⟨[], by simp, Lib.hid H0.out.1⟩
  case round =>
    obtain ⟨l, hg, HD⟩ := hrel
    obtain ⟨w1, cnt0, hrange, hrg0, hb0, hs0⟩ := HD.out.map.range keyI64 Try.underlying35
    obtain ⟨r0, hr0⟩ : ∃ r0, wr.heap.size = r0 := ⟨_, rfl⟩
    rw [hr0] at hrange hrg0
    have hli : LI w wr w1 mB r0 c now u5 l (fun id => (minusF c l id).isSome) none cnt0 := ⟨hrg0, fun k hk => absurd (hk.1.symm.trans hk.2) (by simp), Only.ofBelow hb0 _⟩
    have H1 := Lib.hid (And.intro hli (And.intro hr0 hs0))
    obtain ⟨GK, hGK⟩ : ∃ x, gk = x := ⟨_, rfl⟩
    have HGK := Lib.hid hGK
    rw [hGK] at hg
    have HG := Lib.hid hg
    clear hrg0 hb0 hs0 hr0 hGK hli hg
    go_wp2_with fail
    clear hrange
    go_loopg [6, 7, 8] cnt0 (fun gk bv av kv wi => ∃ (left : Int → Bool) (st : Option Int), bv = .int .i64 (st.getD 0) ∧ av = .int .i64 ((st.bind c.at_).getD 0) ∧ kv = .bool st.isSome ∧ Hid (LI w wr wi mB r0 c now u5 l left st gk))
    case atStart => exact ⟨_, none, rfl, rfl, rfl, Lib.hid H1.out.1⟩
    case round =>
      obtain ⟨left, st, rfl, rfl, rfl, HI⟩ := hrel
      have hrb : r0 ≠ mB := by have := HD.out.map.lt; have := H1.out.2.1; omega
      rcases HI.out.rg.next (P := Try.prog) i64V_inj hrb 0 with ⟨hl0, hnx⟩ | ⟨id, vx, w2, cnt2, hl, hmv, hnx, hrg1, hlt, ho1, hsz1, hen⟩
      · have hbe := HI.out.end hl0
        have HL := Lib.hid hbe
        clear hl0 hbe hrb
        cases st with
        | none =>
          simp only [Option.isSome_none]
          go_wp2
          go_ret
          obtain ⟨hdl, hmp⟩ := HD.out.done HI.out.rg.map HL.out
          have hor := own_only HD.out.own HI.out.only (fun g hg e => by have := (own_lt HD.out.own hg).2; have := H1.out.2.1; omega)
          have hon := HD.out.only.trans' HI.out.only (fun k hk e => by have := HD.out.only.size; have := H1.out.2.1; omega)
          first
            | exact ⟨_, l, rfl, hor, hdl, hmp, hon⟩
            | exact ⟨_, rfl, l, hor, hdl, hmp, hon⟩
        | some x =>
          simp only [Option.isSome_some, Option.getD_some]
          obtain ⟨tx, htx⟩ : ∃ t, ((some x).bind c.at_).getD 0 = t := ⟨_, rfl⟩
          rw [htx]
          clear htx
          have hor := (own_only HD.out.own HI.out.only (fun g hg e => by have := (own_lt HD.out.own hg).2; have := H1.out.2.1; omega))
          have HO := Lib.hid (own_only hor (Only.alloc NoneS wr (.cells #[.int .i64 x] 2)) (fun _ _ e => e))
          have hle := HD.out.len H0.out.2.1
          have hN := H0.out.2.2
          have hbW : w.heap.size ≤ wr.heap.size := Nat.le_trans HD.out.only.size HI.out.only.size
          clear hor
          go_wp2_with (at_builtin; refine wpList_append_own_at _ rfl _ _ 30 rfl w.heap.size 2 i0 (.int .i64 0) 1 8 Try.underlying30 hi0 hz0 hz1 hz2 rfl (by decide) _ _ _ rfl HO.out ⟨wr.heap.size, 0, none⟩ 1 1 [.int .i64 x] rfl rfl ?c0 ?c1 ?c2 ?c3 ?c4 ?_)
          case c0 =>
            intro j u hu
            rw [add_off, Nat.zero_add]
            have h := heap_alloc_new wr (.cells #[.int .i64 x] 2)
            exact ((show Blk _ wr.heap.size 2 [.int .i64 x] from h).cell j).trans hu
          case c1 => intro u hu; rw [List.mem_singleton] at hu; rw [hu]; rfl
          case c2 => unfold maxLen; omega
          case c3 => omega
          case c4 => simp; omega
          intro v2 w3 hown2 hgr _ _
          have hob : ∀ k, Value.ownBlock u5 = some k → w.heap.size ≤ k := fun k hk => (own_lt HD.out.own hk).1
          have hmi := (HI.out.rg.map.only (Only.alloc NoneS wr (.cells #[.int .i64 x] 2)) (fun e => e)).only (Only.ofGrown hgr (S := fun k => Value.ownBlock u5 = some k) (fun k hk => hk)) (fun e => by have := hob _ e; have := HD.out.lt; omega)
          obtain ⟨w4, hdel, hm4, ho4, _⟩ := hmi.delete (ut := 2) (ty := 0) keyI64 Try.underlying35 x
          simp only [i64V] at hdel
          have hnew := HD.out.more HL.out (Nat.le_of_eq H1.out.2.1) HI.out.only ((Below.refl _ wr).alloc (Nat.le_refl _) (.cells #[.int .i64 x] 2)) hown2 hgr hm4 ho4
          have HNEW := Lib.hid hnew
          have hlen2 := hnew.len H0.out.2.1
          rw [List.length_append, List.length_singleton] at hlen2
          have hgg := HG.out
          clear hnx hown2 hgr hob hmi hm4 ho4 hnew
          go_wp2
          go_roundg (GK - 1)
          case rel => exact ⟨l ++ [x], by rw [List.length_append, List.length_singleton]; omega, HNEW⟩
          case measure => have := HGK.out; omega
      · obtain ⟨hidl, t, ht, rfl⟩ := minusF_some hmv
        have hsome : (minusF c l id).isSome = true := by rw [hmv]; rfl
        have HX := Lib.hid (And.intro hrg1 (And.intro ho1 (And.intro hsome (And.intro ht hlt))))
        simp only [i64V] at hnx hen
        clear hl hmv hrg1 hlt ho1 hsz1 hidl hsome hrb
        by_cases htn : t ≤ now
        · have hdue : isDue now (c.at_ id) = true := by rw [ht]; simpa [isDue] using htn
          have HDUE := Lib.hid hdue
          clear hdue
          cases st with
          | none =>
            simp only [Option.isSome_none, Option.getD_none, Option.bind_none]
            clear ht
            go_wp2
            go_roundg cnt2
            case rel => exact ⟨_, some id, rfl, by rw [Option.bind_some, HX.out.2.2.2.1]; first | rfl | (simp; omega), rfl, Lib.hid (HI.out.next HX.out.1 HX.out.2.1 (fun V' hV => HI.out.best.take id hV HDUE.out (fun x e => by cases e)) HX.out.2.2.1)⟩
            case measure => exact HX.out.2.2.2.2
          | some x =>
            have hbx := HI.out.best
            have hdx := hbx.2.1
            obtain ⟨tx, htx⟩ : ∃ t, c.at_ x = some t := by
              cases hq : c.at_ x with
              | none => rw [hq] at hdx; cases hdx
              | some t => exact ⟨t, rfl⟩
            have HTX := Lib.hid htx
            simp only [Option.isSome_some, Option.getD_some, Option.bind_some]
            rw [htx]
            simp only [Option.getD_some]
            have hax : ahead c.at_ id x ↔ (t < tx ∨ (t = tx ∧ id < x)) := by unfold ahead; rw [ht, htx]; rfl
            have hxa : (id = x ∨ ahead c.at_ x id) ↔ ¬ (t < tx ∨ (t = tx ∧ id < x)) := by
              unfold ahead
              rw [ht, htx]
              simp only [Option.getD_some]
              constructor
              · rintro (rfl | h)
                · rw [ht] at htx
                  have := Option.some.inj htx
                  omega
                · omega
              · intro h
                omega
            have HAX := Lib.hid (And.intro hax hxa)
            clear hbx hdx htx ht hax hxa
            by_cases h1 : t < tx
            · go_wp2
              go_roundg cnt2
              case rel => exact ⟨_, some id, rfl, by rw [Option.bind_some, HX.out.2.2.2.1]; first | rfl | (simp; omega), rfl, Lib.hid (HI.out.next HX.out.1 HX.out.2.1 (fun V' hV => HI.out.best.take id hV HDUE.out (fun y e => by cases e; exact HAX.out.1.2 (.inl h1))) HX.out.2.2.1)⟩
              case measure => exact HX.out.2.2.2.2
            · by_cases h2 : t = tx
              · by_cases h3 : id < x
                · go_wp2
                  go_roundg cnt2
                  case rel => exact ⟨_, some id, rfl, by rw [Option.bind_some, HX.out.2.2.2.1]; first | rfl | (simp; omega), rfl, Lib.hid (HI.out.next HX.out.1 HX.out.2.1 (fun V' hV => HI.out.best.take id hV HDUE.out (fun y e => by cases e; exact HAX.out.1.2 (.inr ⟨h2, h3⟩))) HX.out.2.2.1)⟩
                  case measure => exact HX.out.2.2.2.2
                · go_wp2
                  go_roundg cnt2
                  case rel => exact ⟨_, some x, rfl, by rw [Option.bind_some, HTX.out]; rfl, rfl, Lib.hid (HI.out.next HX.out.1 HX.out.2.1 (fun V' hV => HI.out.best.keep id hV (HAX.out.2.2 (by omega))) HX.out.2.2.1)⟩
                  case measure => exact HX.out.2.2.2.2
              · go_wp2
                go_roundg cnt2
                case rel => exact ⟨_, some x, rfl, by rw [Option.bind_some, HTX.out]; rfl, rfl, Lib.hid (HI.out.next HX.out.1 HX.out.2.1 (fun V' hV => HI.out.best.keep id hV (HAX.out.2.2 (by omega))) HX.out.2.2.1)⟩
                case measure => exact HX.out.2.2.2.2
        · have hdue : isDue now (c.at_ id) = false := by rw [ht]; simp [isDue]; omega
          have HDUE := Lib.hid hdue
          clear hdue ht
          go_wp2
          go_roundg cnt2
          case rel => exact ⟨_, st, rfl, rfl, rfl, Lib.hid (HI.out.next HX.out.1 HX.out.2.1 (fun V' hV => HI.out.best.skip id hV HDUE.out) HX.out.2.2.1)⟩
          case measure => exact HX.out.2.2.2.2
end Go.Proofs.Ytlhlbedbfjanhaa
