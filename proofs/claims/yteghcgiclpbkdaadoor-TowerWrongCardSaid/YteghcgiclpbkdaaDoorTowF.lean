/- tower.on. -/
import Derived.Test.YteghcgiclpbkdaaDoorTowE
import Derived.RegionTactic
namespace Go.Proofs.YteghcgiclpbkdaaDoor
open Go.RowKit

theorem setQ_setQ (σ : TS) (x : Thing) (a b : List (Int × Int) × List (Int × Int)) : (σ.setQ x a).setQ x b = σ.setQ x b := by
  unfold TS.setQ
  simp only [TS.mk.injEq, and_true]
  funext y
  by_cases e : y = x <;> simp [e]
theorem getQ_setQ (σ : TS) (x : Thing) (a : List (Int × Int) × List (Int × Int)) : (σ.setQ x a).getQ x = a := by simp [TS.getQ, TS.setQ]
theorem getQ_setQ_ne {σ : TS} {x y : Thing} (a : List (Int × Int) × List (Int × Int)) (h : ¬ y = x) : (σ.setQ x a).getQ y = σ.getQ y := by simp [TS.getQ, TS.setQ, h]
theorem getQ_setC (σ : TS) (i : Int) (c : Option Climb) (x : Thing) : (σ.setC i c).getQ x = σ.getQ x := rfl

section
variable {F : Nat → Prop} {w : World} {t : Nat} {σ : TS} {mq mw : Nat} {tag : Nat → Tag} {qb : Thing → Option Nat} {cb : Int → Option Nat}

theorem crep_asked {S : Nat → Prop} {w : World} {c : Nat} {cl : Climb} (h : CRep S w c cl) : CRep S (w.setCell ⟨c, 2, none⟩ (.int .i64 ((cl.asked : Int) + 1))) c { cl with asked := cl.asked + 1 } := by
  obtain ⟨wv, h1, h2, h3, h4⟩ := h
  exact ⟨wv, h1, h2.set 2 _, own_only h3 (Only.set1 _ _ _ _) (fun g hg => (h4 g hg).2), h4⟩
theorem crep_whole {S : Nat → Prop} {w : World} {c : Nat} {cl : Climb} (h : CRep S w c cl) : CRep S (w.setCell ⟨c, 3, none⟩ (.bool true)) c { cl with whole := true } := by
  obtain ⟨wv, h1, h2, h3, h4⟩ := h
  exact ⟨wv, h1, h2.set 3 _, own_only h3 (Only.set1 _ _ _ _) (fun g hg => (h4 g hg).2), h4⟩

/-- What the loop of on holds at its head: k things are still to be asked for. -/
structure OnAt (F : Nat → Prop) (w : World) (t mq mw : Nat) (cb : Int → Option Nat) (σ : TS) (id : Int) (c k : Nat) (wr : World) (σ1 : TS) (cl : Climb) : Prop where
  rep : ∃ tag qb, TAt (fun b => F b ∨ w.heap.size ≤ b) wr t σ1 mq mw tag qb cb
  who : σ1.who id = some cl
  only : Only F w wr
  left : cl.asked + k = cl.way.length
  way : cl.way.length ≤ 1048576
  res : onN k σ1 id = onT σ id
  bd : ∀ x, (σ1.getQ x).1.length + (σ1.getQ x).2.length + k ≤ 1048576

theorem askQ_len (h l : List (Int × Int)) (id m : Int) : (askQ h l id m).2.1.length + (askQ h l id m).2.2.length ≤ h.length + l.length + 1 := by
  unfold askQ
  split
  · exact Nat.le_succ _
  · split <;> (simp only [List.length_append, List.length_cons, List.length_nil]; omega)
theorem askT_len (σ : TS) (id : Int) (cl : Climb) (y : Thing) : (((askT σ id cl).1.getQ y).1.length + ((askT σ id cl).1.getQ y).2.length) ≤ (σ.getQ y).1.length + (σ.getQ y).2.length + 1 := by
  unfold askT
  simp only [getQ_setC]
  by_cases e : y = cl.way.getD cl.asked nothing
  · subst e
    rw [getQ_setQ]
    exact askQ_len _ _ _ _
  · rw [getQ_setQ_ne _ e]; omega

theorem askT_snd {id m : Int} {σ1 : TS} {cl : Climb} {x : Thing} {h1 l1 : List (Int × Int)} (hx : cl.way.getD cl.asked nothing = x) (hm : m = modeAt cl) (hg : (h1, l1) = σ1.getQ x) : (askQ h1 l1 id m).1 = (askT σ1 id cl).2 := by
  show _ = (askQ (σ1.getQ (cl.way.getD cl.asked nothing)).1 (σ1.getQ (cl.way.getD cl.asked nothing)).2 id (modeAt cl)).1
  rw [hx, ← hg, hm]
theorem on_step {id m : Int} {σ1 : TS} {cl : Climb} {wy ws wz w5 : World} {x : Thing} {h1 l1 : List (Int × Int)} {tag1 tag2 tag5 : Nat → Tag} {qb1 qb2 : Thing → Option Nat}
    (hx : cl.way.getD cl.asked nothing = x) (hm : m = modeAt cl) (hg : (h1, l1) = σ1.getQ x)
    (_hTs : TAt (fun b => F b ∨ w.heap.size ≤ b) ws t (σ1.setC id (some { cl with asked := cl.asked + 1 })) mq mw tag1 qb1 cb) (hOy : Only F w wy) (hOs : Only (fun b => tag1 b = .c id) wy ws)
    (hT2 : TAt (fun b => (F b ∨ w.heap.size ≤ b) ∨ ws.heap.size ≤ b) wz t ((σ1.setC id (some { cl with asked := cl.asked + 1 })).setQ x ((σ1.setC id (some { cl with asked := cl.asked + 1 })).getQ x)) mq mw tag2 qb2 cb)
    (hO2 : Only (fun b => F b ∨ w.heap.size ≤ b) ws wz) (hO5 : Only (fun b => tag2 b = .q x) wz w5)
    (hT5 : TAt (fun b => ((F b ∨ w.heap.size ≤ b) ∨ ws.heap.size ≤ b) ∨ (wz.heap.size ≤ b ∧ True)) w5 t (((σ1.setC id (some { cl with asked := cl.asked + 1 })).setQ x ((σ1.setC id (some { cl with asked := cl.asked + 1 })).getQ x)).setQ x ((askQ h1 l1 id m).2.1, (askQ h1 l1 id m).2.2)) mq mw tag5 qb2 cb)
    (hsz : w.heap.size ≤ wy.heap.size) (htag : ∀ b, b < w.heap.size → tag1 b = .c id → F b) :
    (∃ tag qb, TAt (fun b => F b ∨ w.heap.size ≤ b) w5 t (askT σ1 id cl).1 mq mw tag qb cb) ∧ Only F w w5 := by
  have s1 : wy.heap.size ≤ ws.heap.size := hOs.size
  have s2 : ws.heap.size ≤ wz.heap.size := hO2.size
  constructor
  · refine ⟨tag5, qb2, ?_⟩
    have e : (askT σ1 id cl).1 = (((σ1.setC id (some { cl with asked := cl.asked + 1 })).setQ x ((σ1.setC id (some { cl with asked := cl.asked + 1 })).getQ x)).setQ x ((askQ h1 l1 id m).2.1, (askQ h1 l1 id m).2.2)) := by
      rw [setQ_setQ]
      show ((σ1.setQ (cl.way.getD cl.asked nothing) (askQ (σ1.getQ (cl.way.getD cl.asked nothing)).1 (σ1.getQ (cl.way.getD cl.asked nothing)).2 id (modeAt cl)).2).setC id _) = _
      rw [hx, ← hg, hm]
      rfl
    rw [e]
    exact hT5.other (T := fun _ => False) (Only.refl _ _) (fun _ _ h => h) (fun b hb => by
      rcases hb with ((h | h) | h) | ⟨h, _⟩
      · exact .inl h
      · exact .inr h
      · exact .inr (by omega)
      · exact .inr (by omega))
  · have hOw : Only F w ws := hOy.trans' hOs htag
    have hOz : Only F w wz := hOw.trans' hO2 (fun b hb h => by
      rcases h with h | h
      · exact h
      · omega)
    exact hOz.trans' hO5 (fun b hb h => by
      rcases (hT2.cov b (by simp [h])).1 with (h | h) | h
      · exact h
      · omega
      · omega)

set_option maxHeartbeats 4000000 in
theorem on_any (id : Int) (h : TAt F w t σ mq mw tag qb cb) {cl : Climb} (hcl : σ.who id = some cl) (hle : cl.asked ≤ cl.way.length) (hw : cl.way.length ≤ 1048576) (hbd : ∀ x, (σ.getQ x).1.length + (σ.getQ x).2.length + cl.way.length ≤ 1048576) :
    Calls Tryd.prog 60 #[ptrV t, .int .i64 id] w fun e w' => ∃ tag' qb', e = .returned (.bool (onT σ id).2) ∧ TAt (fun b => F b ∨ w.heap.size ≤ b) w' t (onT σ id).1 mq mw tag' qb' cb ∧ Only F w w' := by
  obtain ⟨c, hc⟩ : ∃ c, cb id = some c := by
    cases hc : cb id with
    | none => rw [h.cn id hc] at hcl; cases hcl
    | some c => exact ⟨c, rfl⟩
  have hc0 : w.cell? ⟨t, 1, none⟩ = some (.map (some mw)) := h.blk.cell 1
  have hl := h.mapw.lookup keyI64 Tryd.underlying101 (zeroClimb w) id
  simp only [i64V, hc, Option.map_some, Option.getD_some, ptrV] at hl
  have HH := Lib.hid h
  have HC := Lib.hid hc
  have HCL := Lib.hid hcl
  clear h hc hcl
  unfold ptrV
  go_enter Tryd.func60, Tryd.ntmps60
  go_wp2
  clear hl hc0
  go_loopg [] (cl.way.length - cl.asked) (fun k wr => ∃ σ1 cl1, OnAt F w t mq mw cb σ id c k wr σ1 cl1)
  case atStart =>
    refine ⟨σ, cl, ⟨tag, qb, HH.out.other (T := fun _ => False) (Only.refl _ _) (fun _ _ h => h) (fun _ h => .inl h)⟩, HCL.out, Only.refl _ _, by omega, hw, ?_, fun x => by have := hbd x; omega⟩
    unfold onT; rw [HCL.out]
  case round =>
    obtain ⟨σ1, cl1, hO⟩ := hrel
    clear hbd hle hw
    obtain ⟨⟨tag1, qb1, hT⟩, who, only, left, way, res, bd⟩ := hO
    obtain ⟨cl1', e1, wv, a1, a2, a3, a4⟩ := hT.cs id c HC.out
    obtain rfl : cl1' = cl1 := by rw [who] at e1; injection e1 with e1; exact e1.symm
    clear e1
    have k0 : wr.cell? ⟨c, 0, none⟩ = some wv := a2.cell 0
    have k1 : wr.cell? ⟨c, 1, none⟩ = some (.int .i64 cl1'.mode) := a2.cell 1
    have k2 : wr.cell? ⟨c, 2, none⟩ = some (.int .i64 cl1'.asked) := a2.cell 2
    have k3 : wr.cell? ⟨c, 3, none⟩ = some (.bool cl1'.whole) := a2.cell 3
    have f2 := a2.frozen 2
    have f3 := a2.frozen 3
    have HCR := Lib.hid (show CRep (fun b => tag1 b = .c id) wr c cl1' from ⟨wv, a1, a2, a3, a4⟩)
    have HT := Lib.hid hT
    have HO := Lib.hid (And.intro who (And.intro only (And.intro res bd)))
    clear hT who only res bd a1 a2 a4
    obtain ⟨wa, wc, hwv⟩ : ∃ wa wc, wv = .slice wa cl1'.way.length wc := by
      rcases ownsRow_cases a3 with ⟨rfl, h0, _⟩ | ⟨g, cap, rfl⟩
      · exact ⟨none, 0, by rw [h0]⟩
      · exact ⟨_, _, rfl⟩
    cases gk with
    | zero =>
      subst hwv
      have hge : ¬ ((cl1'.asked : Int) < (cl1'.way.length : Int)) := by omega
      clear a3
      go_wp2
      go_quiet (fail)
      go_wp2
      go_ret
      have ho2 : Only (fun b => tag1 b = .c id) wr ((wr.drewN nq).setCell ⟨c, 3, none⟩ (.bool true)) := (Only.drewN _ _ _).trans ((Only.set1 (wr.drewN nq) c 3 (.bool true)).mono (fun b _ e => by rw [e]; exact HCR.out.choose_spec.1))
      have hT2 := HT.out.stepC HC.out ho2 (crep_whole (HCR.out.only (T := fun _ => False) (Only.drewN _ _ _) (fun _ _ h => h)))
      have hres := HO.out.2.2.1
      unfold onN at hres
      rw [HO.out.1] at hres
      rw [← hres]
      refine ⟨_, _, rfl, hT2, HO.out.2.1.trans' ho2 (fun i hi e => ?_)⟩
      rcases (HT.out.cov i (by simp [e])).1 with h | h
      · exact h
      · omega
    | succ k' =>
      have hlt : ((cl1'.asked : Int) < (cl1'.way.length : Int)) := by omega
      have hltn : cl1'.asked < cl1'.way.length := by omega
      obtain ⟨gw, hwa⟩ : ∃ gw, wa = some ⟨gw, 0, none⟩ := by
        subst hwv
        rcases ownsRow_cases a3 with ⟨h0, _⟩ | ⟨g, cap, h⟩
        · injection h0 with h1 h2 h3; omega
        · injection h with h1; exact ⟨g, h1⟩
      subst hwa
      subst hwv
      obtain ⟨rest, hBw, _, _, hcw, hcm⟩ := blk_of_ownsRow a3
      obtain ⟨e0, e1, e2⟩ := tcells_at cl1'.way cl1'.asked hltn
      have hcl3 := tcells_length cl1'.way
      have x0 : wr.cell? ⟨gw, cl1'.asked * 3, none⟩ = some (.int .i64 cl1'.way[cl1'.asked].n) := by rw [hBw.cell, List.getElem?_append_left (by omega)]; exact e0
      have x1 : wr.cell? ⟨gw, cl1'.asked * 3 + 1, none⟩ = some (.string cl1'.way[cl1'.asked].a) := by rw [hBw.cell, List.getElem?_append_left (by omega)]; exact e1
      have x2 : wr.cell? ⟨gw, cl1'.asked * 3 + 2, none⟩ = some (.string cl1'.way[cl1'.asked].b) := by rw [hBw.cell, List.getElem?_append_left (by omega)]; exact e2
      clear e0 e1 e2 hcl3 hBw a3
      by_cases hlast : cl1'.asked + 1 = cl1'.way.length
      · have hla : ((cl1'.asked : Int) == (cl1'.way.length : Int) - 1) = true := beq_iff_eq.2 (by omega)
        have HLA := Lib.hid hlast
        clear hlast
        go_wp2
        go_quiet (fail)
        generalize hw1 : wr.drewN _ = w1
        have hb1 : Below wr.heap.size wr w1 := by rw [← hw1]; exact pwDrewN (Below.refl _ _) _
        have k0_ := bcell hb1 k0
        have k1_ := bcell hb1 k1
        have k2_ := bcell hb1 k2
        clear hw1
        go_wp2_with fail
        refine (intent_any cl1'.mode _).mono ?_
        rintro e w2 ⟨rfl, rfl⟩
        go_wp2
        go_quiet (fail)
        generalize hw2 : w1.drewN _ = wx
        have hbx : Below wr.heap.size wr wx := by rw [← hw2]; exact pwDrewN hb1 _
        have kk1 := bcell hbx k1
        clear hw2 k0_ k1_ k2_ hb1
        go_wp2
        have k0a := bcell hbx k0
        have k2a := bcell hbx k2
        have y0 := bcell hbx x0
        have y1 := bcell hbx x1
        have y2 := bcell hbx x2
        have k0b : ∀ o, (wx.alloc o).cell? ⟨c, 0, none⟩ = _ := fun o => bcell ((Below.refl _ wx).alloc (Nat.le_refl _) o) k0a
        have k2b : ∀ o, (wx.alloc o).cell? ⟨c, 2, none⟩ = _ := fun o => bcell ((Below.refl _ wx).alloc (Nat.le_refl _) o) k2a
        have y0b : ∀ o, (wx.alloc o).cell? ⟨gw, cl1'.asked * 3, none⟩ = _ := fun o => bcell ((Below.refl _ wx).alloc (Nat.le_refl _) o) y0
        have y1b : ∀ o, (wx.alloc o).cell? ⟨gw, cl1'.asked * 3 + 1, none⟩ = _ := fun o => bcell ((Below.refl _ wx).alloc (Nat.le_refl _) o) y1
        have y2b : ∀ o, (wx.alloc o).cell? ⟨gw, cl1'.asked * 3 + 2, none⟩ = _ := fun o => bcell ((Below.refl _ wx).alloc (Nat.le_refl _) o) y2
        have hTx := Lib.hid (HT.out.below hbx)
        have hCx := Lib.hid (HCR.out.only (Only.ofBelow hbx (fun _ => False)) (fun _ _ h => h))
        have hOx := Lib.hid (HO.out.2.1.trans (Only.ofBelow hbx F))
        have hszx : w.heap.size ≤ wx.heap.size := Nat.le_trans HO.out.2.1.size hbx.size
        have f2b : ∀ o, (wx.alloc o).frozen? ⟨c, 2, none⟩ = false := fun o => by
          obtain ⟨wv, h1, h2, _⟩ := hCx.out
          exact (h2.alloc o).frozen 2
        clear k0 k1 k2 k3 f2 f3 x0 x1 x2 hbx kk1
        go_region
        have hm : cl1'.mode = modeAt cl1' := by unfold modeAt; rw [if_pos HLA.out]
        have HM := Lib.hid hm
        clear hm
        generalize hw3 : (wx.alloc (.cells #[.int .i64 cl1'.way[cl1'.asked].n, .string cl1'.way[cl1'.asked].a, .string cl1'.way[cl1'.asked].b] 110)).drew = wy
        have hby : Below wx.heap.size wx wy := by rw [← hw3]; exact ((Below.refl _ _).alloc (Nat.le_refl _) _).drew
        have b0 : wy.cell? ⟨wx.heap.size, 0, none⟩ = some (.int .i64 cl1'.way[cl1'.asked].n) := by rw [← hw3]; simp
        have b1 : wy.cell? ⟨wx.heap.size, 1, none⟩ = some (.string cl1'.way[cl1'.asked].a) := by rw [← hw3]; simp
        have b2 : wy.cell? ⟨wx.heap.size, 2, none⟩ = some (.string cl1'.way[cl1'.asked].b) := by rw [← hw3]; simp
        have hTy := hTx.out.below hby
        have hCy := hCx.out.only (Only.ofBelow hby (fun _ => False)) (fun _ _ h => h)
        have hcx : c < wx.heap.size := by obtain ⟨wv, h1, h2, _⟩ := hCx.out; exact h2.lt
        have hcy : wy.cell? ⟨c, 2, none⟩ = some (.int .i64 cl1'.asked) := by obtain ⟨wv, h1, h2, _⟩ := hCy; exact h2.cell 2
        have hfy : wy.frozen? ⟨c, 2, none⟩ = false := by obtain ⟨wv, h1, h2, _⟩ := hCy; exact h2.frozen 2
        have hOs : Only (fun b => tag1 b = .c id) wy (wy.setCell ⟨c, 2, none⟩ (.int .i64 ((cl1'.asked : Int) + 1))) := (Only.set1 _ _ _ _).mono (fun b _ e => by rw [e]; exact hCy.choose_spec.1)
        have hTs := hTy.stepC HC.out hOs (crep_asked hCy)
        have hc1 : ∀ b o, b = wx.heap.size → ¬ (fun x => x = c) (⟨b, o, none⟩ : Addr).block := fun b o e e2 => by simp only at e2; omega
        have s0 := (Only.set1 wy c 2 (.int .i64 ((cl1'.asked : Int) + 1))).cell (hc1 _ _ rfl) b0
        have s1 := (Only.set1 wy c 2 (.int .i64 ((cl1'.asked : Int) + 1))).cell (hc1 _ _ rfl) b1
        have s2 := (Only.set1 wy c 2 (.int .i64 ((cl1'.asked : Int) + 1))).cell (hc1 _ _ rfl) b2
        have HTS := Lib.hid (And.intro hTs (And.intro (hOx.out.trans (Only.ofBelow hby F)) hOs))
        have hszy : w.heap.size ≤ wy.heap.size := Nat.le_trans hszx hby.size
        have HTagF : Hid (∀ b, b < w.heap.size → tag1 b = .c id → F b) := Lib.hid (fun b hb e => by
          rcases (HT.out.cov b (by simp [e])).1 with h | h
          · exact h
          · omega)
        clear hw3 hTy hCy hOs hTs hc1 hby k0a k2a y0 y1 y2 k0b k2b y0b y1b y2b f2b b0 b1 b2
        have hasked : (0 : Int) ≤ cl1'.asked := by omega
        go_wp2_with fail
        refine (at_any cl1'.way[cl1'.asked] HTS.out.1).mono ?_
        rintro e wz ⟨q, tag2, qb2, rfl, hT2, hq2, hO2⟩
        obtain ⟨h1, l1, e1, hQ2⟩ := hT2.qs _ q hq2
        have hgq : (h1, l1) = σ1.getQ cl1'.way[cl1'.asked] := by
          simp only [TS.setQ, if_true, Option.some.injEq] at e1
          exact e1.symm
        have hln : h1.length + l1.length ≤ 1048576 := by
          have := HO.out.2.2.2 cl1'.way[cl1'.asked]
          rw [← hgq] at this
          dsimp only at this
          omega
        have HT2 := Lib.hid (And.intro hT2 (And.intro hq2 hO2))
        have HGQ := Lib.hid hgq
        clear hT2 hq2 hO2 e1 hgq s0 s1 s2 hcy hfy
        go_wp2_with fail
        refine (ask_any id _ hQ2 hln).mono ?_
        rintro e w5 ⟨err, rfl, hQ5, hO5, _⟩
        have hT5 := HT2.out.1.stepQ (N := fun _ => True) HT2.out.2.1 hO5 (hQ5.mono (fun b _ hb => by
          rcases hb with h | h
          · exact .inl h
          · exact .inr ⟨h, trivial⟩))
        have HFin := Lib.hid (on_step (id := id) (cl := cl1') (x := cl1'.way[cl1'.asked]) (by simp [List.getD, hltn]) HM.out HGQ.out HTS.out.1 HTS.out.2.1 HTS.out.2.2 HT2.out.1 HT2.out.2.2 hO5 hT5 hszy HTagF.out)
        have hr1 : (askQ h1 l1 id cl1'.mode).1 = (askT σ1 id cl1').2 := askT_snd (by simp [List.getD, hltn]) HM.out HGQ.out
        rw [hr1]
        have hst := HO.out.2.2.1
        unfold onN at hst
        rw [HO.out.1] at hst
        simp only at hst
        clear hQ5 hO5 hT5 hQ2
        cases hrr : (askT σ1 id cl1').2 with
        | true =>
          rw [hrr] at hst
          simp only [if_true] at hst
          have HST := Lib.hid hst
          clear hst hrr hr1
          go_wp2
          go_roundg k'
          case measure => omega
          case rel =>
            obtain ⟨⟨tag6, qb6, hT6⟩, hO6⟩ := HFin.out
            refine ⟨(askT σ1 id cl1').1, { cl1' with asked := cl1'.asked + 1 }, ⟨⟨tag6, qb6, hT6⟩, by simp [askT, TS.setC], hO6, by show cl1'.asked + 1 + k' = cl1'.way.length; omega, way, HST.out, fun y => ?_⟩⟩
            have := HO.out.2.2.2 y
            have := askT_len σ1 id cl1' y
            omega
        | false =>
          rw [hrr] at hst
          simp only [Bool.false_eq_true, if_false] at hst
          have HST := Lib.hid hst
          clear hst hrr hr1
          go_wp2
          go_ret
          obtain ⟨⟨tag6, qb6, hT6⟩, hO6⟩ := HFin.out
          rw [← HST.out]
          exact ⟨tag6, qb6, rfl, hT6, hO6⟩
      · have hla : ((cl1'.asked : Int) == (cl1'.way.length : Int) - 1) = false := beq_eq_false_iff_ne.2 (by omega)
        have HLA := Lib.hid hlast
        clear hlast
        go_wp2
        go_quiet (fail)
        generalize hw1 : wr.drewN _ = w1
        have hb1 : Below wr.heap.size wr w1 := by rw [← hw1]; exact pwDrewN (Below.refl _ _) _
        have k0_ := bcell hb1 k0
        have k1_ := bcell hb1 k1
        have k2_ := bcell hb1 k2
        clear hw1
        go_wp2_with fail
        refine (intent_any cl1'.mode _).mono ?_
        rintro e w2 ⟨rfl, rfl⟩
        go_wp2
        go_quiet (fail)
        generalize hw2 : w1.drewN _ = wx
        have hbx : Below wr.heap.size wr wx := by rw [← hw2]; exact pwDrewN hb1 _
        have kk1 := bcell hbx k1
        clear hw2 k0_ k1_ k2_ hb1
        go_wp2
        have k0a := bcell hbx k0
        have k2a := bcell hbx k2
        have y0 := bcell hbx x0
        have y1 := bcell hbx x1
        have y2 := bcell hbx x2
        have k0b : ∀ o, (wx.alloc o).cell? ⟨c, 0, none⟩ = _ := fun o => bcell ((Below.refl _ wx).alloc (Nat.le_refl _) o) k0a
        have k2b : ∀ o, (wx.alloc o).cell? ⟨c, 2, none⟩ = _ := fun o => bcell ((Below.refl _ wx).alloc (Nat.le_refl _) o) k2a
        have y0b : ∀ o, (wx.alloc o).cell? ⟨gw, cl1'.asked * 3, none⟩ = _ := fun o => bcell ((Below.refl _ wx).alloc (Nat.le_refl _) o) y0
        have y1b : ∀ o, (wx.alloc o).cell? ⟨gw, cl1'.asked * 3 + 1, none⟩ = _ := fun o => bcell ((Below.refl _ wx).alloc (Nat.le_refl _) o) y1
        have y2b : ∀ o, (wx.alloc o).cell? ⟨gw, cl1'.asked * 3 + 2, none⟩ = _ := fun o => bcell ((Below.refl _ wx).alloc (Nat.le_refl _) o) y2
        have hTx := Lib.hid (HT.out.below hbx)
        have hCx := Lib.hid (HCR.out.only (Only.ofBelow hbx (fun _ => False)) (fun _ _ h => h))
        have hOx := Lib.hid (HO.out.2.1.trans (Only.ofBelow hbx F))
        have hszx : w.heap.size ≤ wx.heap.size := Nat.le_trans HO.out.2.1.size hbx.size
        have f2b : ∀ o, (wx.alloc o).frozen? ⟨c, 2, none⟩ = false := fun o => by
          obtain ⟨wv, h1, h2, _⟩ := hCx.out
          exact (h2.alloc o).frozen 2
        clear k0 k1 k2 k3 f2 f3 x0 x1 x2 hbx kk1
        go_region
        have hm : (intentI cl1'.mode) = modeAt cl1' := by unfold modeAt; rw [if_neg HLA.out]
        have HM := Lib.hid hm
        clear hm
        generalize hw3 : (wx.alloc (.cells #[.int .i64 cl1'.way[cl1'.asked].n, .string cl1'.way[cl1'.asked].a, .string cl1'.way[cl1'.asked].b] 110)).drew = wy
        have hby : Below wx.heap.size wx wy := by rw [← hw3]; exact ((Below.refl _ _).alloc (Nat.le_refl _) _).drew
        have b0 : wy.cell? ⟨wx.heap.size, 0, none⟩ = some (.int .i64 cl1'.way[cl1'.asked].n) := by rw [← hw3]; simp
        have b1 : wy.cell? ⟨wx.heap.size, 1, none⟩ = some (.string cl1'.way[cl1'.asked].a) := by rw [← hw3]; simp
        have b2 : wy.cell? ⟨wx.heap.size, 2, none⟩ = some (.string cl1'.way[cl1'.asked].b) := by rw [← hw3]; simp
        have hTy := hTx.out.below hby
        have hCy := hCx.out.only (Only.ofBelow hby (fun _ => False)) (fun _ _ h => h)
        have hcx : c < wx.heap.size := by obtain ⟨wv, h1, h2, _⟩ := hCx.out; exact h2.lt
        have hcy : wy.cell? ⟨c, 2, none⟩ = some (.int .i64 cl1'.asked) := by obtain ⟨wv, h1, h2, _⟩ := hCy; exact h2.cell 2
        have hfy : wy.frozen? ⟨c, 2, none⟩ = false := by obtain ⟨wv, h1, h2, _⟩ := hCy; exact h2.frozen 2
        have hOs : Only (fun b => tag1 b = .c id) wy (wy.setCell ⟨c, 2, none⟩ (.int .i64 ((cl1'.asked : Int) + 1))) := (Only.set1 _ _ _ _).mono (fun b _ e => by rw [e]; exact hCy.choose_spec.1)
        have hTs := hTy.stepC HC.out hOs (crep_asked hCy)
        have hc1 : ∀ b o, b = wx.heap.size → ¬ (fun x => x = c) (⟨b, o, none⟩ : Addr).block := fun b o e e2 => by simp only at e2; omega
        have s0 := (Only.set1 wy c 2 (.int .i64 ((cl1'.asked : Int) + 1))).cell (hc1 _ _ rfl) b0
        have s1 := (Only.set1 wy c 2 (.int .i64 ((cl1'.asked : Int) + 1))).cell (hc1 _ _ rfl) b1
        have s2 := (Only.set1 wy c 2 (.int .i64 ((cl1'.asked : Int) + 1))).cell (hc1 _ _ rfl) b2
        have HTS := Lib.hid (And.intro hTs (And.intro (hOx.out.trans (Only.ofBelow hby F)) hOs))
        have hszy : w.heap.size ≤ wy.heap.size := Nat.le_trans hszx hby.size
        have HTagF : Hid (∀ b, b < w.heap.size → tag1 b = .c id → F b) := Lib.hid (fun b hb e => by
          rcases (HT.out.cov b (by simp [e])).1 with h | h
          · exact h
          · omega)
        clear hw3 hTy hCy hOs hTs hc1 hby k0a k2a y0 y1 y2 k0b k2b y0b y1b y2b f2b b0 b1 b2
        have hasked : (0 : Int) ≤ cl1'.asked := by omega
        go_wp2_with fail
        refine (at_any cl1'.way[cl1'.asked] HTS.out.1).mono ?_
        rintro e wz ⟨q, tag2, qb2, rfl, hT2, hq2, hO2⟩
        obtain ⟨h1, l1, e1, hQ2⟩ := hT2.qs _ q hq2
        have hgq : (h1, l1) = σ1.getQ cl1'.way[cl1'.asked] := by
          simp only [TS.setQ, if_true, Option.some.injEq] at e1
          exact e1.symm
        have hln : h1.length + l1.length ≤ 1048576 := by
          have := HO.out.2.2.2 cl1'.way[cl1'.asked]
          rw [← hgq] at this
          dsimp only at this
          omega
        have HT2 := Lib.hid (And.intro hT2 (And.intro hq2 hO2))
        have HGQ := Lib.hid hgq
        clear hT2 hq2 hO2 e1 hgq s0 s1 s2 hcy hfy
        go_wp2_with fail
        refine (ask_any id _ hQ2 hln).mono ?_
        rintro e w5 ⟨err, rfl, hQ5, hO5, _⟩
        have hT5 := HT2.out.1.stepQ (N := fun _ => True) HT2.out.2.1 hO5 (hQ5.mono (fun b _ hb => by
          rcases hb with h | h
          · exact .inl h
          · exact .inr ⟨h, trivial⟩))
        have HFin := Lib.hid (on_step (id := id) (cl := cl1') (x := cl1'.way[cl1'.asked]) (by simp [List.getD, hltn]) HM.out HGQ.out HTS.out.1 HTS.out.2.1 HTS.out.2.2 HT2.out.1 HT2.out.2.2 hO5 hT5 hszy HTagF.out)
        have hr1 : (askQ h1 l1 id (intentI cl1'.mode)).1 = (askT σ1 id cl1').2 := askT_snd (by simp [List.getD, hltn]) HM.out HGQ.out
        rw [hr1]
        have hst := HO.out.2.2.1
        unfold onN at hst
        rw [HO.out.1] at hst
        simp only at hst
        clear hQ5 hO5 hT5 hQ2
        cases hrr : (askT σ1 id cl1').2 with
        | true =>
          rw [hrr] at hst
          simp only [if_true] at hst
          have HST := Lib.hid hst
          clear hst hrr hr1
          go_wp2
          go_roundg k'
          case measure => omega
          case rel =>
            obtain ⟨⟨tag6, qb6, hT6⟩, hO6⟩ := HFin.out
            refine ⟨(askT σ1 id cl1').1, { cl1' with asked := cl1'.asked + 1 }, ⟨⟨tag6, qb6, hT6⟩, by simp [askT, TS.setC], hO6, by show cl1'.asked + 1 + k' = cl1'.way.length; omega, way, HST.out, fun y => ?_⟩⟩
            have := HO.out.2.2.2 y
            have := askT_len σ1 id cl1' y
            omega
        | false =>
          rw [hrr] at hst
          simp only [Bool.false_eq_true, if_false] at hst
          have HST := Lib.hid hst
          clear hst hrr hr1
          go_wp2
          go_ret
          obtain ⟨⟨tag6, qb6, hT6⟩, hO6⟩ := HFin.out
          rw [← HST.out]
          exact ⟨tag6, qb6, rfl, hT6, hO6⟩
end
end Go.Proofs.YteghcgiclpbkdaaDoor
