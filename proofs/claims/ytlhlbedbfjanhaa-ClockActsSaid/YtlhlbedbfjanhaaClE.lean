/- The clock's due: the walk. -/
import Derived.Test.YtlhlbedbfjanhaaClD
namespace Go.Proofs.Ytlhlbedbfjanhaa
open Go.RowKit

set_option maxHeartbeats 4000000 in
set_option maxRecDepth 100000 in
theorem wdue_any (b p mb base k : Nat) (c : Clk) (v : Value) (l : List Int) (n : Nat) (w : World) (h : WRep w b p mb c) (hk : k < 64) (hown : w.ownsRow base 2 1 v l.length (i64s l)) (hbase : b + 66 ≤ base) (hb : base ≤ w.heap.size) (hF : Few c n) (hn : l.length + n ≤ 1000000) :
    Calls Try.prog 18 #[.pointer (some ⟨p, 0, none⟩), v, .int .i64 k] w fun e w' => ∃ v' r, e = .returned v' ∧ w'.ownsRow base 2 1 v' (l ++ r).length (i64s (l ++ r)) ∧ r.Nodup ∧
      (∀ id, id ∈ r ↔ (slotF c k id).isSome = true ∧ isDue c.now (c.at_ id) = true) ∧ WRep w' b p mb c ∧ Only (fun x => base ≤ x) w w' := by
  obtain ⟨i0, hi0, hii⟩ := Option.map_eq_some_iff.1 infoI64
  simp only [Prod.mk.injEq] at hii
  obtain ⟨hz0, hz1, hz2⟩ := hii
  obtain ⟨w0, cnt0, hrange, hrg0, hb0, hs0⟩ := (h.slot k hk).range keyI64 Try.underlying46
  have hc2 := h.slot2 k hk
  have hkz : (k : Int) < 64 := by omega
  have hky : (0 : Int) ≤ (k : Int) := by omega
  obtain ⟨r0, hr0⟩ : ∃ r0, w.heap.size = r0 := ⟨_, rfl⟩
  rw [hr0] at hrange hrg0
  have hst : DueAt w w0 b p mb base r0 k c l v [] (fun id => (slotF c k id).isSome) cnt0 := by
    refine ⟨hrg0, ?_, List.nodup_nil, fun id => ?_, (Only.ofBelow hb0 _), h.below hb0, fun e => ?_⟩
    · rw [List.append_nil]; exact own_only hown (Only.ofBelow hb0 NoneS) (fun _ _ e => e)
    · constructor
      · intro e; cases e
      · rintro ⟨h1, h2, _⟩; exact absurd (h1.symm.trans h2) (by simp)
    · have := (own_lt hown e).2; omega
  have H0 := Lib.hid (And.intro hst (And.intro hr0 (And.intro hbase (And.intro hb (And.intro hF hn)))))
  clear hst hr0 hbase hb hF hn hrg0 hb0 hs0 hown h
  go_enter Try.func18, Try.ntmps18
  go_wp2_with fail
  clear hrange hc2
  go_loopg [1] cnt0 (fun gk vv wr => ∃ (r : List Int) (left : Int → Bool), Hid (DueAt w wr b p mb base r0 k c l vv r left gk))
  case atStart => exact ⟨[], _, Lib.hid H0.out.1⟩
  case round =>
    obtain ⟨r, left, HD⟩ := hrel
    have hrb : r0 ≠ b + 2 + k := by have := H0.out.2.1; have := H0.out.2.2.1; have := H0.out.2.2.2.1; omega
    rcases HD.out.rg.next (P := Try.prog) i64V_inj hrb 0 with ⟨hl0, hnx⟩ | ⟨id, vx, w1, cnt1, hl, hm, hnx, hrg1, hlt, ho1, hsz1, hen⟩
    · have HL := Lib.hid hl0
      clear hl0
      go_wp2
      go_ret
      exact ⟨_, r, rfl, HD.out.own, HD.out.nd, fun id => by rw [HD.out.mem id]; simp [HL.out id], HD.out.wrep, HD.out.only⟩
    · obtain ⟨t, ht, htk⟩ := slotF_some.1 (show (slotF c k id).isSome = true by rw [hm]; rfl)
      have hw1 : WRep w1 b p mb c := HD.out.wrep.only ho1 (fun x hx e => by unfold InW at hx; have := H0.out.2.1; have := H0.out.2.2.1; have := H0.out.2.2.2.1; omega)
      have hlk : ∀ n, (Instr.lookup 35 (.map (some mb)) (.int .i64 id) false).run Try.prog (w1.drewN n) = .ok (.int .i64 t) (w1.drewN n) := fun n => by
        have h := (hw1.map.only (Only.drewN NoneS _ n) (fun h => h)).rep.lookup keyI64 Try.underlying35 (zeroInt (w1.drewN n)) id
        rw [atF_get, ht] at h
        exact h
      have k0 := hw1.now0
      have k1 := hw1.at1
      simp only [i64V] at hnx hen
      have HX := Lib.hid (And.intro hl (And.intro hrg1 (And.intro ho1 (And.intro hm (And.intro ht hlt)))))
      have hlr : (l ++ r).length ≤ 1000000 := by
        obtain ⟨L, hL1, hL2⟩ := H0.out.2.2.2.2.1
        have hr : r.length ≤ L.length := sub_len HD.out.nd fun x hx => hL2 x (by
          obtain ⟨t, ht, _⟩ := slotF_some.1 ((HD.out.mem x).1 hx).1
          rw [ht]; rfl)
        have := H0.out.2.2.2.2.2
        rw [List.length_append]; omega
      have HLR := Lib.hid hlr
      clear hl hrg1 ho1 hm ht hlt hw1 hsz1 hlr
      by_cases htn : t ≤ c.now
      · go_wp2
        go_quiet (fail)
        have HQ := Lib.hid (And.intro (HX.out.2.1.only (Only.drewN NoneS w1 nq) (fun h => h) (fun h => h)) (HX.out.2.2.1.trans (Only.drewN _ w1 nq)))
        obtain ⟨W2, hW2⟩ : ∃ W, w1.drewN nq = W := ⟨_, rfl⟩
        rw [hW2] at HQ ⊢
        clear hnx hen hlk k0 k1 hW2
        have HO := Lib.hid ((own_only (own_only HD.out.own HQ.out.2 (fun g hg e => HD.out.ne (by rw [hg, e]))) (Only.alloc NoneS W2 (.cells #[.int .i64 id] 2)) (fun _ _ e => e)))
        have hle := HLR.out
        have hbW : base ≤ W2.heap.size := by have := HQ.out.2.size; have := HD.out.only.size; have := H0.out.2.2.2.1; omega
        go_wp2_with (at_builtin; refine wpList_append_own_at _ rfl _ _ 30 rfl base 2 i0 (.int .i64 0) 1 8 Try.underlying30 hi0 hz0 hz1 hz2 rfl (by decide) _ _ _ rfl HO.out ⟨W2.heap.size, 0, none⟩ 1 1 [.int .i64 id] rfl rfl ?c0 ?c1 ?c2 ?c3 ?c4 ?_)
        case c0 =>
          intro j u hu
          rw [add_off, Nat.zero_add]
          have h := heap_alloc_new W2 (.cells #[.int .i64 id] 2)
          exact ((show Blk _ W2.heap.size 2 [.int .i64 id] from h).cell j).trans hu
        case c1 => intro u hu; rw [List.mem_singleton] at hu; rw [hu]; rfl
        case c2 => unfold maxLen; omega
        case c3 => omega
        case c4 => simp; omega
        intro v2 w3 hown2 hgr _ hat
        rw [← List.length_append] at hown2
        have HN := Lib.hid (HD.out.push H0.out.2.2.1 (by have := H0.out.2.1; have := H0.out.2.2.2.1; omega) HQ.out.1 HQ.out.2 (by rw [HX.out.2.2.2.2.1]; simp [isDue, htn]) (by rw [HX.out.2.2.2.1]; rfl) HX.out.1 hk ((Below.refl _ W2).alloc (Nat.le_refl _) _) hown2 hgr (hat.imp_right (fun h => h.trans (by simp))))
        clear hown2 hgr hat
        go_wp2
        go_roundg cnt1
        case rel => exact ⟨r ++ [id], _, HN⟩
        case measure => exact HX.out.2.2.2.2.2
      · go_wp2
        go_quiet (fail)
        have HQ := Lib.hid (And.intro (HX.out.2.1.only (Only.drewN NoneS w1 nq) (fun h => h) (fun h => h)) (HX.out.2.2.1.trans (Only.drewN _ w1 nq)))
        go_wp2
        go_roundg cnt1
        case rel => exact ⟨r, _, Lib.hid (HD.out.pass H0.out.2.2.1 (by have := H0.out.2.1; have := H0.out.2.2.2.1; omega) HQ.out.1 HQ.out.2 (by rw [HX.out.2.2.2.2.1]; simp [isDue]; omega))⟩
        case measure => exact HX.out.2.2.2.2.2
end Go.Proofs.Ytlhlbedbfjanhaa
