/- Queue.there, Ask. -/
import Derived.Test.YteghcgiclpbkdaaDoorQueA
import Derived.Test.YteghcgiclpbkdaaDoorErr
namespace Go.Proofs.YteghcgiclpbkdaaDoor
open Go.RowKit

theorem news_new (w : World) (g : Int × Int) (t : TypeId) : ∀ j u, (gcells [g])[j]? = some u → (w.alloc (.cells #[.int .i64 g.1, .int .i64 g.2] t)).drew.cell? ((⟨w.heap.size, 0, none⟩ : Addr).add j) = some u :=
  World.news_of_block (heap_alloc_new w _)

theorem blk_grown {w w4 : World} {o : Obj} {q : Nat} {t : TypeId} {xs : List Value} {row : Option Nat} (h : Blk w q t xs) (hg : (w.alloc o).drew.grownBy w4 row) (hne : row ≠ some q) : Blk w4 q t xs :=
  (hg.block q (h.alloc o).lt (fun e => hne e.symm)).trans (h.alloc o)

/-- What the append to one of the two rows, and the store of what comes back, leave. -/
theorem qrep_push_held {S : Nat → Prop} {w3 w4 : World} {o : Obj} {q g cap n N : Nat} {hv wv : Value} {h2 l : List (Int × Int)} (h1 : S q) (hB : Blk w3 q 91 [hv, wv]) (h4 : w3.ownsRow 0 34 2 wv l.length (gcells l))
    (h5 : ∀ g, hv.ownBlock = some g → S g ∧ g ≠ q ∧ wv.ownBlock ≠ some g) (h6 : ∀ g, wv.ownBlock = some g → S g ∧ g ≠ q) (hgrow : (w3.alloc o).drew.grownBy w4 hv.ownBlock)
    (hown : w4.ownsRow 0 34 2 (.slice (some ⟨g, 0, none⟩) n cap) h2.length (gcells h2)) (hat : hv.ownBlock = some g ∨ g = (w3.alloc o).drew.heap.size) (hN : N ≤ w3.heap.size) :
    QRep (fun b => S b ∨ N ≤ b) (w4.setCell ⟨q, 0, none⟩ (.slice (some ⟨g, 0, none⟩) n cap)) q h2 l ∧ Only S w3 (w4.setCell ⟨q, 0, none⟩ (.slice (some ⟨g, 0, none⟩) n cap)) := by
  have hsz : (w3.alloc o).drew.heap.size = w3.heap.size + 1 := by simp
  have hq := hB.lt
  have hgq : g ≠ q := by
    rcases hat with hh | rfl
    · exact (h5 g hh).2.1
    · omega
  have hB4 := blk_grown hB hgrow (fun e => (h5 q e).2.1 rfl)
  have ho1 : Only S w3 w4 := (Only.alloc _ _ _).trans ((Only.drew _ _).trans (Only.ofGrown hgrow (fun k hk => (h5 k hk).1)))
  have ho2 : Only (fun b => b = q) w4 (w4.setCell ⟨q, 0, none⟩ (.slice (some ⟨g, 0, none⟩) n cap)) := Only.set1 _ _ _ _
  refine ⟨⟨.slice (some ⟨g, 0, none⟩) n cap, wv, .inl h1, hB4.set 0 _, own_only hown ho2 (fun g2 e => by simp [Value.ownBlock] at e; omega), own_only (own_only (S := fun b => hv.ownBlock = some b) h4 ?_ ?_) ho2 (fun g2 e => (h6 g2 e).2), ?_, fun g2 e => ⟨.inl (h6 g2 e).1, (h6 g2 e).2⟩⟩, ho1.trans' ho2 (fun i _ e => e ▸ h1)⟩
  · exact (Only.alloc _ _ _).trans ((Only.drew _ _).trans (Only.ofGrown hgrow (fun k hk => hk)))
  · exact fun g2 e e2 => (h5 g2 e2).2.2 e
  · intro g2 e
    obtain rfl : g = g2 := by simpa [Value.ownBlock] using e
    rcases hat with hh | hh
    · exact ⟨.inl (h5 g hh).1, hgq, (h5 g hh).2.2⟩
    · refine ⟨.inr (by omega), hgq, fun e2 => ?_⟩
      have := (h4.lt g e2).2
      omega
theorem qrep_push_wait {S : Nat → Prop} {w3 w4 : World} {o : Obj} {q g cap n N : Nat} {hv wv : Value} {h l2 : List (Int × Int)} (h1 : S q) (hB : Blk w3 q 91 [hv, wv]) (h3 : w3.ownsRow 0 34 2 hv h.length (gcells h))
    (h5 : ∀ g, hv.ownBlock = some g → S g ∧ g ≠ q ∧ wv.ownBlock ≠ some g) (h6 : ∀ g, wv.ownBlock = some g → S g ∧ g ≠ q) (hgrow : (w3.alloc o).drew.grownBy w4 wv.ownBlock)
    (hown : w4.ownsRow 0 34 2 (.slice (some ⟨g, 0, none⟩) n cap) l2.length (gcells l2)) (hat : wv.ownBlock = some g ∨ g = (w3.alloc o).drew.heap.size) (hN : N ≤ w3.heap.size) :
    QRep (fun b => S b ∨ N ≤ b) (w4.setCell ⟨q, 1, none⟩ (.slice (some ⟨g, 0, none⟩) n cap)) q h l2 ∧ Only S w3 (w4.setCell ⟨q, 1, none⟩ (.slice (some ⟨g, 0, none⟩) n cap)) := by
  have hsz : (w3.alloc o).drew.heap.size = w3.heap.size + 1 := by simp
  have hq := hB.lt
  have hgq : g ≠ q := by
    rcases hat with hh | rfl
    · exact (h6 g hh).2
    · omega
  have hB4 := blk_grown hB hgrow (fun e => (h6 q e).2 rfl)
  have ho1 : Only S w3 w4 := (Only.alloc _ _ _).trans ((Only.drew _ _).trans (Only.ofGrown hgrow (fun k hk => (h6 k hk).1)))
  have ho2 : Only (fun b => b = q) w4 (w4.setCell ⟨q, 1, none⟩ (.slice (some ⟨g, 0, none⟩) n cap)) := Only.set1 _ _ _ _
  refine ⟨⟨hv, .slice (some ⟨g, 0, none⟩) n cap, .inl h1, hB4.set 1 _, own_only (own_only (S := fun b => wv.ownBlock = some b) h3 ?_ ?_) ho2 (fun g2 e => (h5 g2 e).2.1), own_only hown ho2 (fun g2 e => by simp [Value.ownBlock] at e; omega), ?_, ?_⟩, ho1.trans' ho2 (fun i _ e => e ▸ h1)⟩
  · exact (Only.alloc _ _ _).trans ((Only.drew _ _).trans (Only.ofGrown hgrow (fun k hk => hk)))
  · exact fun g2 e e2 => (h5 g2 e).2.2 e2
  · intro g2 e
    refine ⟨.inl (h5 g2 e).1, (h5 g2 e).2.1, fun e2 => ?_⟩
    obtain rfl : g = g2 := by simpa [Value.ownBlock] using e2
    rcases hat with hh | hh
    · exact (h5 g e).2.2 hh
    · have := (h3.lt g e).2
      omega
  · intro g2 e
    obtain rfl : g = g2 := by simpa [Value.ownBlock] using e
    rcases hat with hh | hh
    · exact ⟨.inl (h6 g hh).1, hgq⟩
    · exact ⟨.inr (by omega), hgq⟩

/-- v is an error of fault.New's make, of code c. -/
def IsFault (w : World) (v : Value) (c : Int) : Prop :=
  ∃ b s, v = .iface 117 (.pointer (some ⟨b, 0, none⟩)) ∧ Blk w b 119 [.string s, .iface 54 (.int .i64 c)]

section
variable {S : Nat → Prop} {w : World} {q : Nat} {h l : List (Int × Int)}

set_option maxHeartbeats 400000 in
theorem there_any (id : Int) (hq : QRep S w q h l) :
    Calls Tryd.prog 57 #[.pointer (some ⟨q, 0, none⟩), .int .i64 id] w fun e w' => e = .returned (.bool (thereB h l id)) ∧ Below w.heap.size w w' := by
  have hmf : ∀ (fn : Fn) (first cap : Array Value) (w : World), (Instr.makeFunc fn first cap).run Tryd.prog w = .ok (.func fn first cap) w := fun _ _ _ _ => rfl
  have hb0 : Below w.heap.size w (w.alloc (.cells #[.int .i64 id] 2)) := (Below.refl _ _).alloc (Nat.le_refl _) _
  obtain ⟨hv, wv, h1, h2, h3, h4, h5, h6⟩ := hq.below hb0
  have c0 : (w.alloc (.cells #[.int .i64 id] 2)).cell? ⟨q, 0, none⟩ = some hv := h2.cell 0
  have ha : Asks (fun _ => False) (w.alloc (.cells #[.int .i64 id] 2)) _ _ := asks_there (fun _ => False) w.heap.size id (fun h => h) (by simp)
  have HG := Lib.hid (gread_of_ownsRow h3)
  have HA := Lib.hid ha
  have H2 := Lib.hid h2
  have H4 := Lib.hid h4
  clear h1 h2 h3 h4 h5 h6 ha
  go_enter Tryd.func57, Tryd.ntmps57
  go_wp2_with fail
  refine (containsFunc_any _ _ h _ _ HG.out _ HA.out).mono ?_
  rintro e w2 ⟨rfl, hb⟩
  cases hh : h.any (fun g => g.1 == id) with
  | true =>
    go_wp2
    go_ret
    exact ⟨ret_bool (by simp [thereB, hh]), hb0.trans (hb.mono (by simp))⟩
  | false =>
    have c1 : w2.cell? ⟨q, 1, none⟩ = some wv := bcell hb (H2.out.cell 1)
    have H4' := Lib.hid (own_below H4.out hb)
    have HH := Lib.hid hh
    have HB := Lib.hid hb
    have n0 : w2.cell? ⟨w.heap.size, 0, none⟩ = some (.int .i64 id) := bcell hb (by simp)
    have ha2 : Asks (fun _ => False) w2 _ _ := asks_there (fun _ => False) w.heap.size id (fun h => h) n0
    have HA2 := Lib.hid ha2
    clear hh hb n0 ha2 c0
    go_wp2_with fail
    refine (containsFunc_any _ _ l _ _ (gread_of_ownsRow H4'.out) _ HA2.out).mono ?_
    rintro e w3 ⟨rfl, hb3⟩
    go_wp2
    go_ret
    exact ⟨ret_bool (by simp [thereB, HH.out]), hb0.trans ((HB.out.mono (by simp)).trans (hb3.mono (by have := HB.out.size; simp at this; omega)))⟩

set_option maxHeartbeats 400000 in
theorem ask_mode (id m : Int) (hm : intentI m = 0) : 
    Calls Tryd.prog 24 #[.pointer (some ⟨q, 0, none⟩), .int .i64 id, .int .i64 m] w fun e w' => ∃ err, e = .returned (.tuple #[.bool false, err]) ∧ IsFault w' err 13 ∧ Below w.heap.size w w' := by
  have HM := Lib.hid hm
  clear hm
  go_enter Tryd.func24, Tryd.ntmps24
  go_wp2_with fail
  refine (intent_any m _).mono ?_
  rintro e w2 ⟨rfl, rfl⟩
  rw [HM.out]
  go_wp2_with fail
  refine (faultNew_some 13 _ _ rfl).mono ?_
  rintro e w2 ⟨rfl, rfl⟩
  go_wp2
  go_ret2
  exact ⟨_, rfl, ⟨_, _, rfl, heap_alloc_new w _⟩, (Below.refl _ _).alloc (Nat.le_refl _) _⟩

set_option maxHeartbeats 400000 in
theorem ask_twice (id m : Int) (hm : intentI m ≠ 0) (hq : QRep S w q h l) (ht : thereB h l id = true) : 
    Calls Tryd.prog 24 #[.pointer (some ⟨q, 0, none⟩), .int .i64 id, .int .i64 m] w fun e w' => ∃ err, e = .returned (.tuple #[.bool false, err]) ∧ IsFault w' err 11 ∧ Below w.heap.size w w' := by
  have hm' : (intentI m == 0) = false := by simpa using hm
  clear hm
  have HT := Lib.hid ht
  clear ht
  go_enter Tryd.func24, Tryd.ntmps24
  go_wp2_with fail
  refine (intent_any m _).mono ?_
  rintro e w2 ⟨rfl, rfl⟩
  go_wp2_with fail
  refine (there_any id hq).mono ?_
  rintro e w2 ⟨rfl, hb⟩
  rw [HT.out]
  go_wp2_with fail
  refine (faultNew_some 11 _ _ rfl).mono ?_
  rintro e w3 ⟨rfl, rfl⟩
  go_wp2
  go_ret2
  exact ⟨_, rfl, ⟨_, _, rfl, heap_alloc_new w2 _⟩, hb.alloc hb.size _⟩

set_option maxHeartbeats 1000000 in
theorem ask_yes (id m : Int) (hm : intentI m ≠ 0) (hq : QRep S w q h l) (ht : thereB h l id = false) (hl : l = []) (hy : mayB h m = true) (hlen : h.length ≤ 1048576) : 
    Calls Tryd.prog 24 #[.pointer (some ⟨q, 0, none⟩), .int .i64 id, .int .i64 m] w fun e w' => e = .returned (.tuple #[.bool true, .nilIface]) ∧ QRep (fun b => S b ∨ w.heap.size ≤ b) w' q (h ++ [(id, m)]) l ∧ Only S w w' := by
  have hm' : (intentI m == 0) = false := by simpa using hm
  clear hm
  have HT := Lib.hid ht
  have HY := Lib.hid hy
  subst hl
  clear ht hy
  go_enter Tryd.func24, Tryd.ntmps24
  go_wp2_with fail
  refine (intent_any m _).mono ?_
  rintro e w2 ⟨rfl, rfl⟩
  go_wp2_with fail
  refine (there_any id hq).mono ?_
  rintro e w2 ⟨rfl, hb⟩
  rw [HT.out]
  have hb1 : Below w2.heap.size w2 (w2.alloc (.cells #[.int .i64 id, .int .i64 m] 34)) := (Below.refl _ _).alloc (Nat.le_refl _) _
  have hq1 := (hq.below hb).below hb1
  have HQ1 := Lib.hid hq1
  obtain ⟨hv, wv, h1, h2, h3, h4, h5, h6⟩ := hq1
  have c1 : (w2.alloc (.cells #[.int .i64 id, .int .i64 m] 34)).cell? ⟨q, 1, none⟩ = some wv := h2.cell 1
  obtain ⟨aw, capw, rfl⟩ : ∃ aw capw, wv = .slice aw 0 capw := by
    rcases ownsRow_cases h4 with ⟨rfl, _⟩ | ⟨g, cap, rfl⟩
    · exact ⟨_, _, rfl⟩
    · exact ⟨_, _, rfl⟩
  clear h1 h2 h3 h4 h5 h6
  go_wp2_with fail
  refine (may_any m HQ1.out).mono ?_
  rintro e w3 ⟨rfl, hb3⟩
  rw [HY.out]
  have hq3 := HQ1.out.below hb3
  have n0 : w3.cell? ⟨w2.heap.size, 0, none⟩ = some (.int .i64 id) := bcell hb3 (by simp)
  have n1 : w3.cell? ⟨w2.heap.size, 1, none⟩ = some (.int .i64 m) := bcell hb3 (by simp)
  have hsz : w2.heap.size < w3.heap.size := by have := hb3.size; simp at this; omega
  obtain ⟨hv, wv, h1, h2, h3, h4, h5, h6⟩ := hq3
  have d0 : w3.cell? ⟨q, 0, none⟩ = some hv := h2.cell 0
  have d0a : ∀ o, (w3.alloc o).cell? ⟨q, 0, none⟩ = some hv := fun o => (h2.alloc o).cell 0
  obtain ⟨i0, hi, hz0, hz1, hz2⟩ := info_parts infoGrant
  have H1 := Lib.hid h3
  have H4 := Lib.hid (And.intro hi (And.intro hz0 (And.intro hz1 hz2)))
  have H6 := Lib.hid (And.intro h1 (And.intro h2 (And.intro h4 (And.intro h5 h6))))
  have HBB := Lib.hid (And.intro hb (And.intro hb1 hb3))
  clear c1 HQ1 hb hb1 hb3 h1 h2 h3 h4 h5 h6 hi hz0 hz1 hz2 hq
  go_wp2
  go_region_law (refine step_append_lies _ rfl (.tmp 37) (.tmp 39) 31 rfl 0 34 i0 (.agg #[.int .i64 0, .int .i64 0]) 2 16 Tryd.underlying31 H4.out.1 H4.out.2.1 H4.out.2.2.1 H4.out.2.2.2 rfl (by decide) hv h.length (gcells h) (by simp [Act.eval]) ((H1.out.alloc _).drew) ⟨w3.heap.size, 0, none⟩ 1 1 (gcells [(id, m)]) (by simp [Act.eval]) rfl (by exact news_new _ _ _) gcells_one (by omega) (by unfold maxLen; omega) (by omega) (by omega) _ rfl ?_; intro g cap w4 hown hgrow hat hlt; have hB4 := blk_grown H6.out.2.1 hgrow (fun e => (H6.out.2.2.2.1 q e).2.1 rfl); have k0 := hB4.cell 0; have k1 := hB4.frozen 0; simp only [List.getElem?_cons_zero] at k0)
  all_goals
    have hsw : w.heap.size ≤ w3.heap.size := by have := HBB.out.1.size; have := HBB.out.2.2.size; simp at this; omega
    have hfin := Lib.hid (qrep_push_held (h2 := h ++ [(id, m)]) H6.out.1 H6.out.2.1 H6.out.2.2.1 H6.out.2.2.2.1 H6.out.2.2.2.2 hgrow (by simpa [gcells_append] using hown) hat hsw)
    clear hown hgrow hat hlt hB4 k0 k1 n0 n1
    go_wp2
    go_ret2
    exact ⟨rfl, hfin.out.1, ((Only.ofBelow HBB.out.1 S).trans ((Only.ofBelow HBB.out.2.1 S).trans (Only.ofBelow HBB.out.2.2 S))).trans hfin.out.2⟩

set_option maxHeartbeats 1000000 in
theorem ask_wait_may (id m : Int) (hm : intentI m ≠ 0) (hq : QRep S w q h l) (ht : thereB h l id = false) (hl : l = []) (hy : mayB h m = false) (_hlen : h.length ≤ 1048576) : 
    Calls Tryd.prog 24 #[.pointer (some ⟨q, 0, none⟩), .int .i64 id, .int .i64 m] w fun e w' => e = .returned (.tuple #[.bool false, .nilIface]) ∧ QRep (fun b => S b ∨ w.heap.size ≤ b) w' q h (l ++ [(id, m)]) ∧ Only S w w' := by
  have hm' : (intentI m == 0) = false := by simpa using hm
  clear hm
  have HT := Lib.hid ht
  have HY := Lib.hid hy
  subst hl
  clear ht hy
  go_enter Tryd.func24, Tryd.ntmps24
  go_wp2_with fail
  refine (intent_any m _).mono ?_
  rintro e w2 ⟨rfl, rfl⟩
  go_wp2_with fail
  refine (there_any id hq).mono ?_
  rintro e w2 ⟨rfl, hb⟩
  rw [HT.out]
  have hb1 : Below w2.heap.size w2 (w2.alloc (.cells #[.int .i64 id, .int .i64 m] 34)) := (Below.refl _ _).alloc (Nat.le_refl _) _
  have hq1 := (hq.below hb).below hb1
  have HQ1 := Lib.hid hq1
  obtain ⟨hv, wv, h1, h2, h3, h4, h5, h6⟩ := hq1
  have c1 : (w2.alloc (.cells #[.int .i64 id, .int .i64 m] 34)).cell? ⟨q, 1, none⟩ = some wv := h2.cell 1
  obtain ⟨aw, capw, rfl⟩ : ∃ aw capw, wv = .slice aw 0 capw := by
    rcases ownsRow_cases h4 with ⟨rfl, _⟩ | ⟨g, cap, rfl⟩
    · exact ⟨_, _, rfl⟩
    · exact ⟨_, _, rfl⟩
  clear h1 h2 h3 h4 h5 h6
  go_wp2_with fail
  refine (may_any m HQ1.out).mono ?_
  rintro e w3 ⟨rfl, hb3⟩
  rw [HY.out]
  have hq3 := HQ1.out.below hb3
  have n0 : w3.cell? ⟨w2.heap.size, 0, none⟩ = some (.int .i64 id) := bcell hb3 (by simp)
  have n1 : w3.cell? ⟨w2.heap.size, 1, none⟩ = some (.int .i64 m) := bcell hb3 (by simp)
  have hsz : w2.heap.size < w3.heap.size := by have := hb3.size; simp at this; omega
  obtain ⟨hv, wv, h1, h2, h3, h4, h5, h6⟩ := hq3
  have d0 : w3.cell? ⟨q, 1, none⟩ = some wv := h2.cell 1
  have d0a : ∀ o, (w3.alloc o).cell? ⟨q, 1, none⟩ = some wv := fun o => (h2.alloc o).cell 1
  obtain ⟨i0, hi, hz0, hz1, hz2⟩ := info_parts infoGrant
  have H1 := Lib.hid h4
  have H4 := Lib.hid (And.intro hi (And.intro hz0 (And.intro hz1 hz2)))
  have H6 := Lib.hid (And.intro h1 (And.intro h2 (And.intro h3 (And.intro h5 h6))))
  have HBB := Lib.hid (And.intro hb (And.intro hb1 hb3))
  clear c1 HQ1 hb hb1 hb3 h1 h2 h3 h4 h5 h6 hi hz0 hz1 hz2 hq
  go_wp2
  go_region_law (refine step_append_lies _ rfl (.tmp 47) (.tmp 49) 31 rfl 0 34 i0 (.agg #[.int .i64 0, .int .i64 0]) 2 16 Tryd.underlying31 H4.out.1 H4.out.2.1 H4.out.2.2.1 H4.out.2.2.2 rfl (by decide) wv 0 (gcells []) (by simp [Act.eval]) ((H1.out.alloc _).drew) ⟨w3.heap.size, 0, none⟩ 1 1 (gcells [(id, m)]) (by simp [Act.eval]) rfl (by exact news_new _ _ _) gcells_one (by omega) (by unfold maxLen; omega) (by omega) (by omega) _ rfl ?_; intro g cap w4 hown hgrow hat hlt; have hB4 := blk_grown H6.out.2.1 hgrow (fun e => (H6.out.2.2.2.2 q e).2 rfl); have k0 := hB4.cell 1; have k1 := hB4.frozen 1; simp only [List.getElem?_cons_succ, List.getElem?_cons_zero] at k0)
  all_goals
    have hsw : w.heap.size ≤ w3.heap.size := by have := HBB.out.1.size; have := HBB.out.2.2.size; simp at this; omega
    have hfin := Lib.hid (qrep_push_wait (l2 := [] ++ [(id, m)]) H6.out.1 H6.out.2.1 H6.out.2.2.1 H6.out.2.2.2.1 H6.out.2.2.2.2 hgrow (by simpa [gcells] using hown) hat hsw)
    clear hown hgrow hat hlt hB4 k0 k1 n0 n1
    go_wp2
    go_ret2
    exact ⟨rfl, hfin.out.1, ((Only.ofBelow HBB.out.1 S).trans ((Only.ofBelow HBB.out.2.1 S).trans (Only.ofBelow HBB.out.2.2 S))).trans hfin.out.2⟩

set_option maxHeartbeats 1000000 in
theorem ask_wait_busy (id m : Int) (hm : intentI m ≠ 0) (hq : QRep S w q h l) (ht : thereB h l id = false) (hl : 0 < l.length) (hlen : l.length ≤ 1048576) : 
    Calls Tryd.prog 24 #[.pointer (some ⟨q, 0, none⟩), .int .i64 id, .int .i64 m] w fun e w' => e = .returned (.tuple #[.bool false, .nilIface]) ∧ QRep (fun b => S b ∨ w.heap.size ≤ b) w' q h (l ++ [(id, m)]) ∧ Only S w w' := by
  have hm' : (intentI m == 0) = false := by simpa using hm
  clear hm
  have HT := Lib.hid ht
  clear ht
  go_enter Tryd.func24, Tryd.ntmps24
  go_wp2_with fail
  refine (intent_any m _).mono ?_
  rintro e w2 ⟨rfl, rfl⟩
  go_wp2_with fail
  refine (there_any id hq).mono ?_
  rintro e w2 ⟨rfl, hb⟩
  rw [HT.out]
  have hb1 : Below w2.heap.size w2 (w2.alloc (.cells #[.int .i64 id, .int .i64 m] 34)) := (Below.refl _ _).alloc (Nat.le_refl _) _
  have hq1 := (hq.below hb).below hb1
  have HQ1 := Lib.hid hq1
  have hl0 : ((l.length : Int) == 0) = false := beq_eq_false_iff_ne.2 (by omega)
  obtain ⟨hv, wv, h1, h2, h3, h4, h5, h6⟩ := hq1
  obtain ⟨aw, capw, hwv⟩ : ∃ aw capw, wv = .slice aw l.length capw := by
    rcases ownsRow_cases h4 with ⟨rfl, h0, _⟩ | ⟨g, cap, rfl⟩
    · omega
    · exact ⟨_, _, rfl⟩
  subst hwv
  have d0 : (w2.alloc (.cells #[.int .i64 id, .int .i64 m] 34)).cell? ⟨q, 1, none⟩ = some (.slice aw l.length capw) := h2.cell 1
  have d0a : ∀ o, ((w2.alloc (.cells #[.int .i64 id, .int .i64 m] 34)).alloc o).cell? ⟨q, 1, none⟩ = some (.slice aw l.length capw) := fun o => (h2.alloc o).cell 1
  obtain ⟨i0, hi, hz0, hz1, hz2⟩ := info_parts infoGrant
  have H1 := Lib.hid h4
  have H4 := Lib.hid (And.intro hi (And.intro hz0 (And.intro hz1 hz2)))
  have H6 := Lib.hid (And.intro h1 (And.intro h2 (And.intro h3 (And.intro h5 h6))))
  have HBB := Lib.hid (And.intro hb hb1)
  clear HQ1 hb hb1 h1 h2 h3 h4 h5 h6 hi hz0 hz1 hz2 hq
  go_wp2
  go_region_law (refine step_append_lies _ rfl (.tmp 47) (.tmp 49) 31 rfl 0 34 i0 (.agg #[.int .i64 0, .int .i64 0]) 2 16 Tryd.underlying31 H4.out.1 H4.out.2.1 H4.out.2.2.1 H4.out.2.2.2 rfl (by decide) (.slice aw l.length capw) l.length (gcells l) (by simp [Act.eval]) ((H1.out.alloc _).drew) ⟨(w2.alloc (.cells #[.int .i64 id, .int .i64 m] 34)).heap.size, 0, none⟩ 1 1 (gcells [(id, m)]) (by simp [Act.eval]) rfl (by exact news_new _ _ _) gcells_one (by omega) (by unfold maxLen; omega) (by omega) (by omega) _ rfl ?_; intro g cap w4 hown hgrow hat hlt; have hB4 := blk_grown H6.out.2.1 hgrow (fun e => (H6.out.2.2.2.2 q e).2 rfl); have k0 := hB4.cell 1; have k1 := hB4.frozen 1; simp only [List.getElem?_cons_succ, List.getElem?_cons_zero] at k0)
  all_goals
    have hsw : w.heap.size ≤ (w2.alloc (.cells #[.int .i64 id, .int .i64 m] 34)).heap.size := by have := HBB.out.1.size; simp; omega
    have hfin := Lib.hid (qrep_push_wait (l2 := l ++ [(id, m)]) H6.out.1 H6.out.2.1 H6.out.2.2.1 H6.out.2.2.2.1 H6.out.2.2.2.2 hgrow (by simpa [gcells_append] using hown) hat hsw)
    clear hown hgrow hat hlt hB4 k0 k1
    go_wp2
    go_ret2
    exact ⟨rfl, hfin.out.1, ((Only.ofBelow HBB.out.1 S).trans (Only.ofBelow HBB.out.2 S)).trans hfin.out.2⟩
end
end Go.Proofs.YteghcgiclpbkdaaDoor
