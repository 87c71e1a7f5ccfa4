/- tower.New, There, Whole, Held, Waits, at. -/
import Derived.Test.YteghcgiclpbkdaaDoorTowC
import Derived.Test.YteghcgiclpbkdaaDoorPureD
import Derived.Deep.Onto
namespace Go.Proofs.YteghcgiclpbkdaaDoor
open Go.RowKit

theorem zeroClimb (w : World) : (zeroValue 104).run Tryd.prog w = .ok (.pointer none) w := by kernel_rfl
theorem zeroQueue (w : World) : (zeroValue 28).run Tryd.prog w = .ok (.pointer none) w := by kernel_rfl

section
variable {F : Nat → Prop} {w : World} {t : Nat} {σ : TS} {mq mw : Nat} {tag : Nat → Tag} {qb : Thing → Option Nat} {cb : Int → Option Nat}

set_option maxHeartbeats 400000 in
theorem towerNew_any (w : World) : Calls Tryd.prog 33 #[] w fun e w' => ∃ t, e = .returned (ptrV t) ∧ TRep (fun b => w.heap.size ≤ b) w' t TS.empty ∧ Below w.heap.size w w' := by
  have hmm := @run_makeMap Tryd.prog
  go_enter Tryd.func33, Tryd.ntmps33
  go_wp2
  go_ret
  refine ⟨_, rfl, ?_, ((below_two w _ _).alloc (by simp; omega) _)⟩
  have hb1 : Only (fun _ => False) (w.alloc (.map #[] 0)) (((w.alloc (.map #[] 0)).alloc (.map #[] 0)).alloc (.cells #[.map (some w.heap.size), .map (some (w.heap.size + 1))] 103)) := (Only.alloc _ _ _).trans (Only.alloc _ _ _)
  have hb2 : Only (fun _ => False) ((w.alloc (.map #[] 0)).alloc (.map #[] 0)) (((w.alloc (.map #[] 0)).alloc (.map #[] 0)).alloc (.cells #[.map (some w.heap.size), .map (some (w.heap.size + 1))] 103)) := Only.alloc _ _ _
  refine ⟨w.heap.size, w.heap.size + 1, fun b => if b = w.heap.size then .mq else if b = w.heap.size + 1 then .mw else if b = w.heap.size + 1 + 1 then .tw else .free, fun _ => none, fun _ => none, ?_, ?_, ?_, ?_, by simp, by simp, fun _ _ => rfl, by simp, fun _ _ => rfl, by simp, fun b hb => ?_⟩
  · have := heap_alloc_new ((w.alloc (.map #[] 0)).alloc (.map #[] 0)) (.cells #[.map (some w.heap.size), .map (some (w.heap.size + 1))] 103)
    unfold Blk
    simpa using this
  · exact (MapRep.made w).only hb1 (fun h => h)
  · have := MapRep.made (inj := i64V) (w.alloc (.map #[] 0))
    simp only [World.size_alloc] at this
    exact this.only hb2 (fun h => h)
  · have h1 : ¬ (w.heap.size + 1 + 1 = w.heap.size) := by omega
    simp
    exact h1
  · have hsz : (((w.alloc (.map #[] 0)).alloc (.map #[] 0)).alloc (.cells #[.map (some w.heap.size), .map (some (w.heap.size + 1))] 103)).heap.size = w.heap.size + 1 + 1 + 1 := by simp
    rw [hsz]
    by_cases h1 : b = w.heap.size
    · omega
    · by_cases h2 : b = w.heap.size + 1
      · omega
      · by_cases h3 : b = w.heap.size + 1 + 1
        · omega
        · simp [h1, h2, h3] at hb

theorem there_tower (id : Int) (h : TAt F w t σ mq mw tag qb cb) :
    Calls Tryd.prog 43 #[ptrV t, .int .i64 id] w fun e w' => e = .returned (.bool (σ.there id)) ∧ w = w' := by
  have hc0 : w.cell? ⟨t, 1, none⟩ = some (.map (some mw)) := h.blk.cell 1
  have hl := h.mapw.lookup keyI64 Tryd.underlying101 (zeroClimb w) id
  simp only [i64V] at hl
  unfold ptrV at hl ⊢
  cases hi : cb id with
  | none =>
    have hs : σ.there id = false := by simp [TS.there, h.cn id hi]
    rw [hi] at hl
    rw [hs]
    simp only [Option.map_none, Option.getD_none] at hl
    clear h hi hs
    go_enter Tryd.func43, Tryd.ntmps43
    go_wp2
    go_ret
    exact ⟨rfl, rfl⟩
  | some c =>
    obtain ⟨cl, e, _⟩ := h.cs id c hi
    have hs : σ.there id = true := by simp [TS.there, e]
    rw [hi] at hl
    rw [hs]
    simp only [Option.map_some, Option.getD_some] at hl
    clear h hi hs e
    go_enter Tryd.func43, Tryd.ntmps43
    go_wp2
    go_ret
    exact ⟨rfl, rfl⟩

set_option maxHeartbeats 400000 in
theorem whole_tower (id : Int) (h : TAt F w t σ mq mw tag qb cb) :
    Calls Tryd.prog 44 #[ptrV t, .int .i64 id] w fun e w' => e = .returned (.bool (σ.wholeB id)) ∧ w = w' := by
  have hc0 : w.cell? ⟨t, 1, none⟩ = some (.map (some mw)) := h.blk.cell 1
  have hl := h.mapw.lookup keyI64 Tryd.underlying101 (zeroClimb w) id
  simp only [i64V] at hl
  unfold ptrV at hl ⊢
  cases hi : cb id with
  | none =>
    have hs : σ.wholeB id = false := by simp [TS.wholeB, h.cn id hi]
    rw [hi] at hl
    rw [hs]
    simp only [Option.map_none, Option.getD_none] at hl
    clear h hi hs
    go_enter Tryd.func44, Tryd.ntmps44
    go_wp2
    go_ret
    exact ⟨rfl, rfl⟩
  | some c =>
    obtain ⟨cl, e, wv, _, hB, _⟩ := h.cs id c hi
    have hs : σ.wholeB id = cl.whole := by simp [TS.wholeB, e]
    have hc3 : w.cell? ⟨c, 3, none⟩ = some (.bool cl.whole) := hB.cell 3
    rw [hi] at hl
    rw [hs]
    simp only [Option.map_some, Option.getD_some] at hl
    clear h hi hs e hB
    go_enter Tryd.func44, Tryd.ntmps44
    go_wp2
    go_ret
    exact ⟨by simp, rfl⟩

set_option maxHeartbeats 1000000 in
theorem held_tower (v : Value) (ss : List ByteArray) (h : TAt F w t σ mq mw tag qb cb) (hv : SRead w v ss) (hlen : (σ.heldL (thingOf ss)).length ≤ 1048576) :
    Calls Tryd.prog 41 #[ptrV t, v] w fun e w' => ∃ v', e = .returned v' ∧ w'.ownsRow w.heap.size 34 2 v' (σ.heldL (thingOf ss)).length (gcells (σ.heldL (thingOf ss))) ∧ Below w.heap.size w w' := by
  have hc0 : w.cell? ⟨t, 0, none⟩ = some (.map (some mq)) := h.blk.cell 0
  have hd : TAt F w.drew t σ mq mw tag qb cb := h.other (T := fun _ => False) (Only.drew _ w) (fun _ _ h => h) (fun _ h => h)
  have HT := Lib.hid hd
  have hvd : SRead w.drew v ss := hv
  have hc0d : w.drew.cell? ⟨t, 0, none⟩ = some (.map (some mq)) := hc0
  clear h hd
  unfold ptrV
  cases hq : qb (thingOf ss) with
  | none =>
    have hs : σ.heldL (thingOf ss) = [] := by simp [TS.heldL, TS.getQ, HT.out.qn _ hq]
    have HQ := Lib.hid hq
    have HS := Lib.hid hs
    clear hq hs
    go_enter Tryd.func41, Tryd.ntmps41
    go_wp2
    go_region_with (go_at_call 63; refine (named_any v ss _ hvd).mono ?_; rintro e w2 ⟨rfl, hb⟩; have hc2 : w2.cell? ⟨t, 0, none⟩ = some (.map (some mq)) := bcell hb hc0d; have hl := (HT.out.below hb).mapq.lookup keyThing Tryd.underlying100 (zeroQueue w2) (thingOf ss); rw [HQ.out] at hl; simp only [Option.map_none, Option.getD_none] at hl)
    all_goals
      have hbw : Below w.heap.size w w2 := ((Below.refl _ w).drew).trans hb
      clear hb hl hc2
      go_wp2
      go_ret
      exact ⟨_, rfl, by rw [HS.out]; exact ⟨rfl, .inl ⟨rfl, rfl⟩⟩, hbw⟩
  | some q =>
    obtain ⟨h1, l1, e, _⟩ := HT.out.qs _ q hq
    have hs : σ.heldL (thingOf ss) = h1 := by simp [TS.heldL, TS.getQ, e]
    rw [hs] at hlen
    have HQ := Lib.hid hq
    have HS := Lib.hid (And.intro hs e)
    clear hq hs e
    go_enter Tryd.func41, Tryd.ntmps41
    go_wp2
    go_region_with (go_at_call 63; refine (named_any v ss _ hvd).mono ?_; rintro e w2 ⟨rfl, hb⟩; have hc2 : w2.cell? ⟨t, 0, none⟩ = some (.map (some mq)) := bcell hb hc0d; have hl := (HT.out.below hb).mapq.lookup keyThing Tryd.underlying100 (zeroQueue w2) (thingOf ss); rw [HQ.out] at hl; simp only [Option.map_some, Option.getD_some, ptrV] at hl)
    all_goals
      have hbw : Below w.heap.size w w2 := ((Below.refl _ w).drew).trans hb
      have HQR : Hid (QRep (fun b => tag b = .q (thingOf ss)) w2 q h1 l1) := Lib.hid (by
        obtain ⟨h2, l2, e2, hq2⟩ := (HT.out.below hb).qs _ q HQ.out
        rw [HS.out.2] at e2
        injection e2 with e2
        injection e2 with e3 e4
        subst e3 e4
        exact hq2)
      have HBW := Lib.hid hbw
      clear hb hl hc2 hbw
      go_wp2_with fail
      refine (held_any HQR.out hlen).mono ?_
      rintro e w3 ⟨v3, rfl, ho, hb3⟩
      have HO := Lib.hid ho
      clear ho
      go_wp2
      go_ret
      exact ⟨_, rfl, by rw [HS.out.1]; exact HO.out.mono HBW.out.size, HBW.out.trans (hb3.mono HBW.out.size)⟩

set_option maxHeartbeats 1000000 in
theorem waits_tower (v : Value) (ss : List ByteArray) (h : TAt F w t σ mq mw tag qb cb) (hv : SRead w v ss) (hlen : (σ.waitL (thingOf ss)).length ≤ 1048576) :
    Calls Tryd.prog 42 #[ptrV t, v] w fun e w' => ∃ v', e = .returned v' ∧ w'.ownsRow w.heap.size 34 2 v' (σ.waitL (thingOf ss)).length (gcells (σ.waitL (thingOf ss))) ∧ Below w.heap.size w w' := by
  have hc0 : w.cell? ⟨t, 0, none⟩ = some (.map (some mq)) := h.blk.cell 0
  have hd : TAt F w.drew t σ mq mw tag qb cb := h.other (T := fun _ => False) (Only.drew _ w) (fun _ _ h => h) (fun _ h => h)
  have HT := Lib.hid hd
  have hvd : SRead w.drew v ss := hv
  have hc0d : w.drew.cell? ⟨t, 0, none⟩ = some (.map (some mq)) := hc0
  clear h hd
  unfold ptrV
  cases hq : qb (thingOf ss) with
  | none =>
    have hs : σ.waitL (thingOf ss) = [] := by simp [TS.waitL, TS.getQ, HT.out.qn _ hq]
    have HQ := Lib.hid hq
    have HS := Lib.hid hs
    clear hq hs
    go_enter Tryd.func42, Tryd.ntmps42
    go_wp2
    go_region_with (go_at_call 63; refine (named_any v ss _ hvd).mono ?_; rintro e w2 ⟨rfl, hb⟩; have hc2 : w2.cell? ⟨t, 0, none⟩ = some (.map (some mq)) := bcell hb hc0d; have hl := (HT.out.below hb).mapq.lookup keyThing Tryd.underlying100 (zeroQueue w2) (thingOf ss); rw [HQ.out] at hl; simp only [Option.map_none, Option.getD_none] at hl)
    all_goals
      have hbw : Below w.heap.size w w2 := ((Below.refl _ w).drew).trans hb
      clear hb hl hc2
      go_wp2
      go_ret
      exact ⟨_, rfl, by rw [HS.out]; exact ⟨rfl, .inl ⟨rfl, rfl⟩⟩, hbw⟩
  | some q =>
    obtain ⟨h1, l1, e, _⟩ := HT.out.qs _ q hq
    have hs : σ.waitL (thingOf ss) = l1 := by simp [TS.waitL, TS.getQ, e]
    rw [hs] at hlen
    have HQ := Lib.hid hq
    have HS := Lib.hid (And.intro hs e)
    clear hq hs e
    go_enter Tryd.func42, Tryd.ntmps42
    go_wp2
    go_region_with (go_at_call 63; refine (named_any v ss _ hvd).mono ?_; rintro e w2 ⟨rfl, hb⟩; have hc2 : w2.cell? ⟨t, 0, none⟩ = some (.map (some mq)) := bcell hb hc0d; have hl := (HT.out.below hb).mapq.lookup keyThing Tryd.underlying100 (zeroQueue w2) (thingOf ss); rw [HQ.out] at hl; simp only [Option.map_some, Option.getD_some, ptrV] at hl)
    all_goals
      have hbw : Below w.heap.size w w2 := ((Below.refl _ w).drew).trans hb
      have HQR : Hid (QRep (fun b => tag b = .q (thingOf ss)) w2 q h1 l1) := Lib.hid (by
        obtain ⟨h2, l2, e2, hq2⟩ := (HT.out.below hb).qs _ q HQ.out
        rw [HS.out.2] at e2
        injection e2 with e2
        injection e2 with e3 e4
        subst e3 e4
        exact hq2)
      have HBW := Lib.hid hbw
      clear hb hl hc2 hbw
      go_wp2_with fail
      refine (waits_any HQR.out hlen).mono ?_
      rintro e w3 ⟨v3, rfl, ho, hb3⟩
      have HO := Lib.hid ho
      clear ho
      go_wp2
      go_ret
      exact ⟨_, rfl, by rw [HS.out.1]; exact HO.out.mono HBW.out.size, HBW.out.trans (hb3.mono HBW.out.size)⟩

end
end Go.Proofs.YteghcgiclpbkdaaDoor
