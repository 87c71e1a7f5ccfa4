/- tower.Ask where nothing is wrong. -/
import Derived.Test.YteghcgiclpbkdaaDoorTowH
import Derived.Deep.RegionLaw
namespace Go.Proofs.YteghcgiclpbkdaaDoor
open Go.RowKit

theorem own_ne_blk {w : World} {c b n size : Nat} {e e2 : TypeId} {v : Value} {xs ys : List Value} (hb : Blk w c e ys) (h : w.ownsRow b e2 size v n xs) (hne : e ≠ e2) : ∀ g, v.ownBlock = some g → g ≠ c := by
  intro g hg hgc
  subst hgc
  rcases h.2 with ⟨rfl, _⟩ | ⟨g2, cap, cur, rfl, _, hh, _⟩
  · simp [Value.ownBlock] at hg
  · obtain rfl : g2 = g := by simpa [Value.ownBlock] using hg
    unfold Blk at hb
    rw [hb] at hh
    injection hh with hh
    injection hh with _ h2
    exact hne h2
theorem tnews_new (w : World) (x : Thing) (t : TypeId) : ∀ j u, (tcells [x])[j]? = some u → (w.alloc (.cells #[.int .i64 x.n, .string x.a, .string x.b] t)).cell? ((⟨w.heap.size, 0, none⟩ : Addr).add j) = some u :=
  World.news_of_block (heap_alloc_new w _)
theorem tcells_append (l m : List Thing) : tcells (l ++ m) = tcells l ++ tcells m := by simp [tcells]
theorem wayOf_take (ss : List ByteArray) (k : Nat) (hk : k < ss.length + 1) : (wayOf ss).take (k + 1) = (wayOf ss).take k ++ [thingOf (ss.take k)] := by
  rw [List.take_succ_eq_append_getElem (by rw [wayOf_length]; exact hk)]
  simp [wayOf]

section
variable {F : Nat → Prop} {w : World} {t : Nat} {σ : TS} {mq mw : Nat} {tag : Nat → Tag} {qb : Thing → Option Nat} {cb : Int → Option Nat}

/-- What the loop that lays the way holds at its head. -/
structure WayAt (w : World) (ss : List ByteArray) (m : Int) (c k : Nat) (wv : Value) (wr : World) : Prop where
  blk : Blk wr c 107 [wv, .int .i64 m, .int .i64 0, .bool false]
  row : wr.ownsRow w.heap.size 110 3 wv ((wayOf ss).take k).length (tcells ((wayOf ss).take k))
  below : Below w.heap.size w wr
  cw : w.heap.size ≤ c

theorem way_step {ss : List ByteArray} {m : Int} {c k g cap : Nat} {wv : Value} {wr w2 w4 : World} {ob : Obj} (h : WayAt w ss m c k wv wr) (hk : k < ss.length + 1) (hb : Below wr.heap.size wr w2)
    (hgrow : (w2.alloc ob).grownBy w4 wv.ownBlock) (hown : w4.ownsRow w.heap.size 110 3 (.slice (some ⟨g, 0, none⟩) (k + 1) cap) (k + 1) (tcells ((wayOf ss).take k) ++ tcells [thingOf (ss.take k)])) :
    WayAt w ss m c (k + 1) (.slice (some ⟨g, 0, none⟩) (k + 1) cap) (w4.setCell ⟨c, 0, none⟩ (.slice (some ⟨g, 0, none⟩) (k + 1) cap)) ∧ w4.cell? ⟨c, 0, none⟩ = some wv ∧ w4.frozen? ⟨c, 0, none⟩ = false := by
  obtain ⟨blk, row, below, cw⟩ := h
  have hb2 := blk.below hb
  have hne := own_ne_blk blk row (by decide)
  have hB4 : Blk w4 c 107 [wv, .int .i64 m, .int .i64 0, .bool false] := (hgrow.block c (hb2.alloc ob).lt (fun e => hne c e.symm rfl)).trans (hb2.alloc ob)
  have hne4 := own_ne_blk hB4 hown (by decide)
  have hl : ((wayOf ss).take (k + 1)).length = k + 1 := by simp [wayOf_length]; omega
  have hbw : Below w.heap.size w w4 := (below.trans ((hb.mono below.size).alloc (by have := hb.size; have := below.size; omega) ob)).grown hgrow (by have := hb.size; have := below.size; simp; omega) (fun k2 e => (row.lt k2 e).1)
  refine ⟨⟨hB4.set 0 _, ?_, hbw.setCell cw _, cw⟩, hB4.cell 0, hB4.frozen 0⟩
  rw [hl, wayOf_take ss k hk, tcells_append]
  exact own_only hown (Only.set1 _ _ _ _) hne4

set_option maxRecDepth 100000 in
set_option maxHeartbeats 4000000 in
theorem task_ok (id m : Int) (v : Value) (ss : List ByteArray) (I : List Int) (hI : I.length ≤ 1000) (_hid : id ∈ I) (hwf : WF I σ) (hm : intentI m ≠ 0) (hv : SRead w v ss) (hlong : ss.length ≤ 2) (hodd : ss.any oddB = false) (h : TAt F w t σ mq mw tag qb cb) (ht : σ.there id = false) :
    Calls Tryd.prog 37 #[ptrV t, .int .i64 id, v, .int .i64 m] w fun e w' => e = .returned (.tuple #[.bool (startT σ id ss m).2, .nilIface]) ∧ TRep (fun b => F b ∨ w.heap.size ≤ b) w' t (startT σ id ss m).1 ∧ Only F w w' := by
  have hm' : (intentI m == 0) = false := by simpa using hm
  have HV := Lib.hid hv
  obtain ⟨h1, a, cap, rfl, hcap, hcap2, _⟩ := hv
  have hl2 : ¬ (2 : Int) < (ss.length : Int) := by omega
  have HO := Lib.hid hodd
  have HT := Lib.hid ht
  have HH := Lib.hid h
  clear hm hodd ht h
  unfold ptrV
  go_enter Tryd.func37, Tryd.ntmps37
  go_wp2_with fail
  refine (intent_any m _).mono ?_
  rintro e w2 ⟨rfl, rfl⟩
  go_wp2_with fail
  refine (containsFunc_anyS _ _ ss _ _ HV.out _ (asks_odd (fun _ => False) _)).mono ?_
  rintro e w2 ⟨rfl, hb⟩
  rw [HO.out]
  have HB := Lib.hid hb
  clear hb
  go_wp2_with fail
  refine (there_tower id (HH.out.below HB.out)).mono ?_
  rintro e w3 ⟨rfl, rfl⟩
  rw [HT.out]
  go_wp2
  go_loopg [39] (ss.length + 1) (fun n kv wr => ∃ (k : Nat) (wv : Value), kv = .int .i64 (k : Int) ∧ k + n = ss.length + 1 ∧ WayAt w ss m w2.heap.size k wv wr)
  case atStart =>
    refine ⟨0, .slice none 0 0, rfl, by omega, ⟨?_, ⟨rfl, .inl ⟨rfl, rfl⟩⟩, HB.out.alloc HB.out.size _, HB.out.size⟩⟩
    exact heap_alloc_new w2 _
  case round =>
    obtain ⟨k, wv, rfl, hkn, hW⟩ := hrel
    cases gk with
    | zero =>
      have hk : ¬ ((k : Int) < (ss.length : Int) + 1) := by omega
      have hTr := HH.out.below hW.below
      have c1 : wr.cell? ⟨t, 1, none⟩ = some (.map (some mw)) := hTr.blk.cell 1
      obtain ⟨w5, hrun, hm5, ho5⟩ := hTr.mapw.update keyI64 Tryd.underlying101 id (ptrV w2.heap.size)
      simp only [i64V, ptrV] at hrun
      have hke : (wayOf ss).take k = wayOf ss := List.take_of_length_le (by rw [wayOf_length]; omega)
      have hrow := hW.row
      rw [hke] at hrow
      have hCR : CRep (fun b => w.heap.size ≤ b) wr w2.heap.size ⟨wayOf ss, m, 0, false⟩ := ⟨wv, hW.cw, hW.blk, hrow.mono (Nat.zero_le _), fun g hg => ⟨(hrow.lt g hg).1, own_ne_blk hW.blk hrow (by decide) g hg⟩⟩
      have hT5 := HH.out.newC (w2 := w5) (i := id) (c := w2.heap.size) (cl := ⟨wayOf ss, m, 0, false⟩) hW.below hCR hm5 ho5
      have hO5 : Only F w w5 := (Only.ofBelow hW.below F).trans' ho5 (fun i _ e => by rw [e]; exact (HH.out.cov mw (by simp [HH.out.tagw])).1)
      have HT5 := Lib.hid (And.intro hT5 hO5)
      clear hT5 hO5 hCR hrow hke hm5 ho5 hTr hW
      go_wp2_with fail
      refine (on_any id HT5.out.1 (cl := ⟨wayOf ss, m, 0, false⟩) (by simp [TS.setC]) (Nat.zero_le _) (by simp only [wayOf_length]; omega) (fun x => by
        have := (hwf.q x).len
        simp only [wayOf_length]
        show (σ.getQ x).1.length + (σ.getQ x).2.length + _ ≤ _
        omega)).mono ?_
      rintro e w6 ⟨tag6, qb6, rfl, hT6, hO6⟩
      have hsz : w.heap.size ≤ w5.heap.size := HT5.out.2.size
      have HFin : Hid (TRep (fun b => F b ∨ w.heap.size ≤ b) w6 t (startT σ id ss m).1 ∧ Only F w w6) := Lib.hid ⟨⟨_, _, _, _, _, hT6.wide (fun b _ hb => by
        rcases hb with hb | hb
        · exact hb
        · exact .inr (by omega))⟩, HT5.out.2.trans' hO6 (fun b hb h => by
        rcases h with h | h
        · exact h
        · omega)⟩
      clear hT6 hO6
      go_wp2
      go_ret2
      exact ⟨rfl, HFin.out⟩
    | succ n =>
      have hk : ((k : Int) < (ss.length : Int) + 1) := by omega
      have hkc : (k : Int) ≤ (cap : Int) := by omega
      have hk0 : (0 : Int) ≤ (k : Int) := by omega
      have c0 : wr.cell? ⟨w2.heap.size, 0, none⟩ = some wv := hW.blk.cell 0
      have c0d : wr.drew.cell? ⟨w2.heap.size, 0, none⟩ = some wv := c0
      have hrow := hW.row
      have hrl : ((wayOf ss).take k).length = k := by simp [wayOf_length]; omega
      rw [hrl] at hrow
      have hsw : w.heap.size ≤ wr.heap.size := hW.below.size
      have HW := Lib.hid hW
      have hvk : SRead wr.drew (.slice a k cap) (ss.take k) := (HV.out.below HW.out.below).take k (by omega)
      have HVK := Lib.hid hvk
      have HR := Lib.hid hrow
      obtain ⟨i0, hi, hz0, hz1, hz2⟩ := info_parts infoThing
      have H4 := Lib.hid (And.intro hi (And.intro hz0 (And.intro hz1 hz2)))
      clear hW hrow hrl hvk hi hz0 hz1 hz2
      go_wp2
      go_region_law (first | (refine step_append_lies _ rfl (.tmp 46) (.tmp 51) 105 rfl w.heap.size 110 i0 (.agg #[.int .i64 0, .string ⟨#[]⟩, .string ⟨#[]⟩]) 3 40 Tryd.underlying105 H4.out.1 H4.out.2.1 H4.out.2.2.1 H4.out.2.2.2 rfl (by decide) wv k (tcells ((wayOf ss).take k)) (by simp [Act.eval]) ((own_below HR.out (undrew hb5)).alloc _) ⟨w5.heap.size, 0, none⟩ 1 1 (tcells [thingOf (ss.take k)]) (by simp [Act.eval]) rfl (by exact tnews_new _ _ _) tcells_one (by omega) (by unfold maxLen; omega) (by omega) (by have := hb5.size; simp at this ⊢; omega) _ rfl ?_; intro g cap4 w4 hown hgrow _ hlt; obtain ⟨hW4, q0, q1⟩ := way_step HW.out (by omega) (undrew hb5) hgrow hown) | (go_simp; go_at_call 63; refine (named_agg _ _ _ HVK.out).mono ?_; rintro e w5 ⟨rfl, hb5⟩; have c5 : w5.cell? ⟨w2.heap.size, 0, none⟩ = some wv := bcell hb5 c0d; have c5a : ∀ o, (w5.alloc o).cell? ⟨w2.heap.size, 0, none⟩ = some wv := fun o => bcell ((Below.refl _ w5).alloc (Nat.le_refl _) o) c5))
      all_goals
        have HW4 := Lib.hid hW4
        clear hW4 q0 q1 hown hgrow hlt
        go_wp2
        go_roundg n
        case measure => omega
        case rel => exact ⟨k + 1, _, by go_num, by omega, HW4.out⟩
end
end Go.Proofs.YteghcgiclpbkdaaDoor
