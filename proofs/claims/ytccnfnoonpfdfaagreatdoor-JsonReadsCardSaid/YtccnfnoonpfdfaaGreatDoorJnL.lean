/- The JSON reader's list (printed by wip/gen_jnl.py). -/
import Derived.Test.YtccnfnoonpfdfaaGreatDoorJnK
namespace Go.Proofs.YtccnfnoonpfdfaaGreatDoor
open Go.Shelf Go.RowKit Go.Lib

/-- what stands while a list or an object is read. -/
structure LB (w0 : World) (rb P : Nat) (wr : World) : Prop where
  size : w0.heap.size = P
  rlt : rb < P
  big : P + 1 < wr.heap.size
  res : Blk wr P 28 [.int .i64 0, .int .i64 0, .string ⟨#[]⟩, .slice none 0 0, .slice none 0 0]
  only : Only (· = rb) w0 wr
theorem LB.next {S : Nat → Prop} {w0 wr w2 : World} {rb P : Nat} (h : LB w0 rb P wr) (ho : Only S wr w2) (hS : ∀ k, k ≤ P → S k → k = rb) : LB w0 rb P w2 :=
  ⟨h.size, h.rlt, Nat.lt_of_lt_of_le h.big ho.size, h.res.only ho (fun e => by have := hS P (Nat.le_refl _) e; have := h.rlt; omega), h.only.trans' ho (fun i hi e => hS i (by have := h.size; omega) e)⟩
def ListS (P : Nat) (ow : Option Nat) (n : Nat) : Nat → Prop := fun b => some b ≠ ow ∧ P + 2 ≤ b ∧ b < n
def ListGood (w0 : World) (rb P : Nat) (l : List V) (wr : World) : Prop := LB w0 rb P wr ∧ ∃ op oc cs, Blk wr (P + 1) 28 [.int .i64 4, .int .i64 0, .string ⟨#[]⟩, .slice op l.length oc, .slice none 0 0] ∧ wr.ownsRow (P + 2) 28 5 (.slice op l.length oc) l.length cs ∧ VsAt (ListS P (Value.slice op l.length oc).ownBlock wr.heap.size) wr l cs
def ListBad (w0 : World) (rb P : Nat) (wr : World) : Prop := LB w0 rb P wr ∧ ∃ p n c, Blk wr (P + 1) 28 [.int .i64 4, .int .i64 0, .string ⟨#[]⟩, .slice p n c, .slice none 0 0]
theorem ListGood.next {w0 wr w2 : World} {rb P : Nat} {l : List V} (h : ListGood w0 rb P l wr) (ho : Only (· = rb) wr w2) : ListGood w0 rb P l w2 := by
  obtain ⟨hb, op, oc, cs, hN, hr, hv⟩ := h
  have h1 := hb.rlt
  refine ⟨hb.next ho (fun _ _ e => e), op, oc, cs, hN.only ho (fun e => by have e2 : P + 1 = rb := e; omega), own_onlyJ hr ho (fun k hk e => by have e2 : k = rb := e; omega), hv.keep (fun b hb => ⟨hb.1, hb.2.1, Nat.lt_of_lt_of_le hb.2.2 ho.size⟩) (fun b hb k u hu => ho.cell (fun e => by have e2 : b = rb := e; have := hb.2.1; omega) hu)⟩
theorem ListBad.next {w0 wr w2 : World} {rb P : Nat} (h : ListBad w0 rb P wr) (ho : Only (· = rb) wr w2) : ListBad w0 rb P w2 := by
  obtain ⟨hb, p, n, c, hN⟩ := h
  exact ⟨hb.next ho (fun _ _ e => e), p, n, c, hN.only ho (fun e => by have e2 : P + 1 = rb := e; have := hb.rlt; omega)⟩
theorem val_one {c0 c1 c2 c3 c4 : Value} (h : Shape [c0, c1, c2, c3, c4]) : ∀ u ∈ [c0, c1, c2, c3, c4], u.oneCell' = true := by
  obtain ⟨k, n, s, p1, l1, c1', p2, l2, c2', h⟩ := h
  simp only [List.cons.injEq, and_true] at h
  obtain ⟨rfl, rfl, rfl, rfl, rfl⟩ := h
  intro u hu
  simp at hu
  rcases hu with rfl | rfl | rfl | rfl | rfl <;> rfl
/-- one more value behind a row of one's own. -/
theorem val_append {base : Nat} {w : World} {op : Option Addr} {cnt oc : Nat} {cs : List Value} (h : w.ownsRow base 28 5 (.slice op cnt oc) cnt cs) (c0 c1 c2 c3 c4 : Value) (h1 : ∀ u ∈ [c0, c1, c2, c3, c4], u.oneCell' = true) (hn : cnt ≤ 1000000) (hb : base ≤ w.heap.size) :
    ∃ p2 cc w', (∀ ty, (Builtin.append_ #[25, 25] ty #[.slice op cnt oc, .slice (some ⟨w.heap.size, 0, none⟩) 1 1]).run Tryz.prog (w.alloc (.cells #[c0, c1, c2, c3, c4] 28)) = .ok (.slice p2 (cnt + 1) cc) w') ∧ w'.ownsRow base 28 5 (.slice p2 (cnt + 1) cc) (cnt + 1) (cs ++ [c0, c1, c2, c3, c4]) ∧
      Only (fun k => some k = (Value.slice op cnt oc).ownBlock) w w' ∧ ((Value.slice p2 (cnt + 1) cc).ownBlock = (Value.slice op cnt oc).ownBlock ∨ ∃ g, (Value.slice p2 (cnt + 1) cc).ownBlock = some g ∧ w.heap.size ≤ g) := by
  obtain ⟨inf, hi, hii⟩ := Option.map_eq_some_iff.1 infoV
  simp only [Prod.mk.injEq] at hii
  obtain ⟨i1, i2, i3⟩ := hii
  have hnew : Blk (w.alloc (.cells #[c0, c1, c2, c3, c4] 28)) w.heap.size 28 [c0, c1, c2, c3, c4] := heap_alloc_new w _
  obtain ⟨v', w', hr, ho, hg, _, hat⟩ := (fun ty => run_append_own_at (P := Tryz.prog) (w.alloc (.cells #[c0, c1, c2, c3, c4] 28)) base 25 ty 28 inf _ 5 80 Tryz.underlying25 hi i1 i2 i3 rfl (by decide) (.slice op cnt oc) cnt cs (h.alloc _)
    ⟨w.heap.size, 0, none⟩ 1 1 [c0, c1, c2, c3, c4] rfl (fun j u hu => by rw [add_at, hnew.cell j]; exact hu) h1 (by unfold maxLen; omega) (by omega) (by simp; omega)) 0
  obtain ⟨p2, cc, rfl⟩ := slice_of_own ho
  refine ⟨p2, cc, w', fun ty => hr, ho, (Only.alloc _ w _).trans (Only.ofGrown hg (fun k e => e.symm)), ?_⟩
  rcases hat with h | h
  · exact .inl h
  · exact .inr ⟨_, h, by simp⟩
def ListAft (w0 : World) (rb P : Nat) (s : BL) (l : List V) (res : Res V) (W : World) : Prop := match res with
  | .ok p => ListGood w0 rb P (l ++ [p.1]) W ∧ RS W rb s (.ok p.2)
  | .error e => ListBad w0 rb P W ∧ RS W rb s (.error e)
theorem list_step {w0 w4 w5 w7 W8 : World} {rb P cnt oc cc : Nat} {s : BL} {l : List V} {op p2 : Option Addr} {cs : List Value} {c0 c1 c2 c3 c4 : Value} {res : Res V} (hb : LB w0 rb P w4) (hN : Blk w4 (P + 1) 28 [.int .i64 4, .int .i64 0, .string ⟨#[]⟩, .slice op cnt oc, .slice none 0 0]) (hr : w4.ownsRow (P + 2) 28 5 (.slice op cnt oc) cnt cs) (hVs : VsAt (ListS P (Value.slice op cnt oc).ownBlock w4.heap.size) w4 l cs) (hn : l.length = cnt)
    (ho : Only (· = rb) w4 w5) (hm : MRes (fun b => w4.heap.size ≤ b ∧ b < w5.heap.size) w5 rb s res [c0, c1, c2, c3, c4]) (hown : w7.ownsRow (P + 2) 28 5 (.slice p2 (cnt + 1) cc) (cnt + 1) (cs ++ [c0, c1, c2, c3, c4])) (ho7 : Only (fun k => some k = (Value.slice op cnt oc).ownBlock) w5 w7)
    (hat : (Value.slice p2 (cnt + 1) cc).ownBlock = (Value.slice op cnt oc).ownBlock ∨ ∃ g, (Value.slice p2 (cnt + 1) cc).ownBlock = some g ∧ w5.heap.size ≤ g) (hW : w7.setCell ⟨P + 1, 3, none⟩ (.slice p2 (cnt + 1) cc) = W8) : ListAft w0 rb P s l res W8 := by
  have h1 := hb.rlt
  have hlt : ∀ k, (Value.slice op cnt oc).ownBlock = some k → P + 2 ≤ k ∧ k < w4.heap.size := fun k hk => hr.lt k hk
  have hs5 := ho.size
  have hs7 := ho7.size
  have ho8 : Only (· = P + 1) w7 W8 := by rw [← hW]; exact Only.set1 _ _ _ _
  have hs8 := ho8.size
  have hb8 : LB w0 rb P W8 := ((hb.next ho (fun _ _ e => e)).next ho7 (fun k hk e => by have := (hlt k e.symm).1; omega)).next ho8 (fun k hk e => by have e2 : k = P + 1 := e; omega)
  have hN8 : Blk W8 (P + 1) 28 [.int .i64 4, .int .i64 0, .string ⟨#[]⟩, .slice p2 (cnt + 1) cc, .slice none 0 0] := by
    rw [← hW]
    exact ((hN.only ho (fun e => by have e2 : P + 1 = rb := e; omega)).only ho7 (fun e => by have := (hlt _ e.symm).1; omega)).set 3 _
  have hR8 : ∀ st, RS w5 rb s st → RS W8 rb s st := fun st h => (h.only ho7 (fun e => by have := (hlt _ e.symm).1; omega)).only ho8 (fun e => by have e2 : rb = P + 1 := e; omega)
  unfold ListAft
  cases res with
  | error e => exact ⟨⟨hb8, _, _, _, hN8⟩, hR8 _ hm⟩
  | ok p =>
    have hown8 := own_onlyJ hown ho8 (fun k hk e => by have e2 : k = P + 1 := e; omega)
    have hln : (l ++ [p.1]).length = cnt + 1 := by rw [List.length_append]; simp; omega
    refine ⟨⟨hb8, p2, cc, cs ++ [c0, c1, c2, c3, c4], by rw [hln]; exact hN8, by rw [hln]; exact hown8, ?_⟩, hR8 _ hm.2⟩
    rw [hln]
    have hg : ∀ b, (Value.slice p2 (cnt + 1) cc).ownBlock = some b → (Value.slice op cnt oc).ownBlock = some b ∨ w5.heap.size ≤ b := fun b hb => by
      rcases hat with h | ⟨g, h, h2⟩
      · exact .inl (by rw [← h]; exact hb)
      · right; rw [h] at hb; injection hb with hb; omega
    have hv1 : VAt (ListS P (Value.slice p2 (cnt + 1) cc).ownBlock W8.heap.size) W8 p.1 [c0, c1, c2, c3, c4] := by
      refine hm.1.keep ?_ ?_
      · rintro b ⟨hb1, hb2⟩
        refine ⟨fun e => ?_, ?_, ?_⟩
        · rcases hg b e.symm with h | h
          · have := (hlt b h).2; omega
          · omega
        · have := hN.lt; omega
        · omega
      · rintro b ⟨hb1, hb2⟩ k u hu
        exact ho8.cell (by show ¬ b = P + 1; have := hN.lt; omega) (ho7.cell (by show ¬ some b = _; intro e; have := (hlt b e.symm).2; omega) hu)
    have hv2 : VsAt (ListS P (Value.slice p2 (cnt + 1) cc).ownBlock W8.heap.size) W8 l cs := by
      refine hVs.keep ?_ ?_
      · rintro b ⟨hb1, hb2, hb3⟩
        refine ⟨fun e => ?_, hb2, by omega⟩
        rcases hg b e.symm with h | h
        · exact hb1 h.symm
        · omega
      · rintro b ⟨hb1, hb2, hb3⟩ k u hu
        exact ho8.cell (by show ¬ b = P + 1; omega) (ho7.cell hb1 (ho.cell (by show ¬ b = rb; omega) hu))
    exact VsAt.snoc hv1 hv2
/-- what the loop has found. -/
def ListGo (w0 : World) (rb P : Nat) (s r : BL) (rec : BL → Res V) (gk : Nat) (wr : World) : Prop :=
  (∃ l s', gk = s'.length + 1 ∧ ListGood w0 rb P l wr ∧ RS wr rb s (.ok s') ∧ (∃ f, s'.length < f ∧ itemsP rec (r.length + 1) [] (blankL r) = itemsP rec f l s') ∧ l.length + s'.length ≤ 1000000) ∨
  (∃ e, gk = 0 ∧ ListBad w0 rb P wr ∧ RS wr rb s (.error e) ∧ itemsP rec (r.length + 1) [] (blankL r) = .error e)
theorem mustS_next (s' : BL) : mustS [44] (.ok s') = nextP false s' := by
  unfold mustS nextP
  simp only [Bool.false_eq_true, if_false]
  cases isL [44] s' <;> rfl
theorem isB_some {t s' r : BL} (h : isL t s' = some r) : isB t (.ok s') = true := by show (isL t s').isSome = true; rw [h]; rfl
theorem isS_some {t s' r : BL} (h : isL t s' = some r) : isS t (.ok s') = .ok r := by show Except.ok ((isL t s').getD s') = _; rw [h]; rfl
theorem isB_none {t s' : BL} (h : isL t s' = none) : isB t (.ok s') = false := by show (isL t s').isSome = false; rw [h]; rfl
theorem isS_none {t s' : BL} (h : isL t s' = none) : isS t (.ok s') = .ok s' := by show Except.ok ((isL t s').getD s') = _; rw [h]; rfl
theorem items_none (rec : BL → Res V) (f : Nat) (l : List V) (s' : BL) (h : isL [93] s' = none) (st : Except Nat BL) (hst : nextP l.isEmpty s' = st) : itemsP rec (f + 1) l s' = (match vst st rec with
    | .error e => .error e
    | .ok p => itemsP rec f (l ++ [p.1]) (blankL p.2)) := by
  rw [itemsP, h]
  simp only [hst]
  cases st with
  | error e => rfl
  | ok s2 => rfl
theorem vst_less {rec : BL → Res V} (hr : Less rec) {b : Bool} {s' : BL} {st : Except Nat BL} (hst : nextP b s' = st) {p : V × BL} (h : vst st rec = .ok p) : p.2.length < s'.length := by
  cases st with
  | error e => cases h
  | ok s2 =>
    have h1 := next_le hst
    have h2 := hr _ _ h
    omega
/-- the state behind a value and blanks. -/
def aftS {α : Type} (res : Res α) : Except Nat BL := match res with
  | .ok p => .ok p.2
  | .error e => .error e

set_option maxHeartbeats 16000000 in
set_option maxRecDepth 100000 in
theorem list_any (n : Nat) (hn : n ≤ 16) (hrec : RV n) (w : World) (rb : Nat) (s r : BL) (hs : s.length ≤ 1000000) (hR : RS w rb s (.ok r)) (hE : Env w) (hrb : 11 ≤ rb) :
    Calls Tryz.prog 58 #[.pointer (some ⟨rb, 0, none⟩), .int .i64 (16 - (n : Int))] w (ValPost w rb s (listP (valP n) r)) := by
  obtain ⟨P, hP⟩ : ∃ P, w.heap.size = P := ⟨_, rfl⟩
  obtain ⟨d, hd⟩ : ∃ d : Int, 16 - (n : Int) = d := ⟨_, rfl⟩
  have hd1 : 17 - (n : Int) = d + 1 := by omega
  have hwd : IntKind.i64.wrap (d + 1) = d + 1 := IntWalk.i64_in _ (by omega)
  rw [hd]
  obtain ⟨W0, hW0⟩ : ∃ W, (w.alloc (.cells #[.int .i64 0, .int .i64 0, .string ⟨#[]⟩, .slice none 0 0, .slice none 0 0] 28)).alloc (.cells #[.int .i64 4, .int .i64 0, .string ⟨#[]⟩, .slice none 0 0, .slice none 0 0] 28) = W := ⟨_, rfl⟩
  have hlt := hR.lt
  have hb0 : Below w.heap.size w W0 := by rw [← hW0]; exact ((Below.refl _ w).alloc (Nat.le_refl _) _).alloc (by simp) _
  have k0 : Blk W0 P 28 [.int .i64 0, .int .i64 0, .string ⟨#[]⟩, .slice none 0 0, .slice none 0 0] := by rw [← hW0, ← hP]; exact (show Blk _ w.heap.size 28 [.int .i64 0, .int .i64 0, .string ⟨#[]⟩, .slice none 0 0, .slice none 0 0] from heap_alloc_new w (.cells #[.int .i64 0, .int .i64 0, .string ⟨#[]⟩, .slice none 0 0, .slice none 0 0] 28)).alloc _
  have k1 : Blk W0 (P + 1) 28 [.int .i64 4, .int .i64 0, .string ⟨#[]⟩, .slice none 0 0, .slice none 0 0] := by rw [← hW0, ← hP]; exact blk_new2 w _ _ _
  have hG0 : ListGood w rb P [] W0 := ⟨⟨hP, by omega, k1.lt, k0, Only.ofBelow hb0 _⟩, none, 0, [], k1, ⟨rfl, .inl ⟨rfl, rfl⟩⟩, .nil⟩
  have henv : ∀ wr, Only (· = rb) w wr → Env wr := fun wr ho => hE.only (by omega) ho (fun g hg e => by have e2 : g = rb := e; omega)
  have hrs : r.length ≤ s.length := by
    obtain ⟨k, _, e, _⟩ := hR
    rw [← e, List.length_drop]; omega
  have H := Lib.hid (And.intro hW0 (And.intro hG0 (And.intro (hR.below hb0) (And.intro henv (And.intro hs (And.intro hrb (And.intro hrec (And.intro hd1 (And.intro hP (And.intro hrs hlt))))))))))
  clear hW0 hG0 hR henv hs hrb hrec hE hb0 k0 k1 hrs hlt
  go_enter Tryz.func58, Tryz.ntmps58
  go_wp2_with fail
  rw [H.out.1]
  (try rw [hP])
  refine (blank_any rb s (.ok r) W0 H.out.2.2.2.2.1 H.out.2.2.1).mono ?_
  rintro e w1 ⟨rfl, hr1, ho1⟩
  have hbl := blank_le r
  have h0 : ListGo w rb P s r (valP n) ((blankL r).length + 1) w1 := .inl ⟨[], blankL r, rfl, H.out.2.1.next ho1, hr1, ⟨r.length + 1, by omega, rfl⟩, by have := H.out.2.2.2.2.1; have := H.out.2.2.2.2.2.2.2.2.2.1; simp only [List.length_nil]; omega⟩
  have H0 := Lib.hid h0
  clear h0 hr1 ho1 hbl
  go_wp2_with fail
  go_loopg [] ((blankL r).length + 1) (fun gk wr => Hid (ListGo w rb P s r (valP n) gk wr))
  case atStart => exact H0
  case round =>
    rcases hrel.out with ⟨l, s', hg, hG, hR, ⟨f, hf, hit⟩, hle⟩ | ⟨e0, hg, hB, hR, hit⟩
    · obtain ⟨f, rfl⟩ : ∃ g, f = g + 1 := ⟨f - 1, by omega⟩
      have HX := Lib.hid (And.intro hG (And.intro hR (And.intro hf (And.intro hit (And.intro hle hg)))))
      clear hrel hG hR hf hit hle hg
      cases hi : isL [93] s' with
      | some t =>
        -- the list's end
        have his := is_any rb ⟨#[93]⟩ [93] s (.ok s') wr rfl H.out.2.2.2.2.1 HX.out.2.1
        rw [isB_some hi, isS_some hi] at his
        have hres : listP (valP n) r = .ok (.list l, t) := by
          unfold listP
          rw [HX.out.2.2.2.1, itemsP, hi]
        have HI := Lib.hid (And.intro his hres)
        clear his hres hi
        go_wp2_with fail
        refine HI.out.1.mono ?_
        rintro e w2 ⟨rfl, hr2, ho2⟩
        obtain ⟨hb, op, oc, cs, hN, hrow, hVs⟩ := HX.out.1.next ho2
        have hql := hrow.lt
        have hm : MRes (fun b => P < b ∧ b < w2.heap.size) w2 rb s (listP (valP n) r) [.int .i64 4, .int .i64 0, .string ⟨#[]⟩, .slice op l.length oc, .slice none 0 0] := by
          rw [HI.out.2]
          exact ⟨VAt.list l cs _ (hVs.keep (fun b hb => ⟨by have := hb.2.1; omega, hb.2.2⟩) (fun b hb k u hu => hu)) (row_of_own hrow (fun k hk => ⟨by have := (hql k hk).1; omega, (hql k hk).2⟩) (by have := HX.out.2.2.2.2.1; omega)), hr2⟩
        obtain ⟨W5, hW5⟩ : ∃ W5, (((((w2.setCell ⟨P, 0, none⟩ (.int .i64 4)).setCell ⟨P, 1, none⟩ (.int .i64 0)).setCell ⟨P, 2, none⟩ (.string ⟨#[]⟩)).setCell ⟨P, 3, none⟩ (.slice op l.length oc)).setCell ⟨P, 4, none⟩ (.slice none 0 0)) = W5 := ⟨_, rfl⟩
        have HF := Lib.hid (And.intro hW5 (cell_end H.out.2.2.2.2.2.2.2.2.1 hb.rlt hb.res hb.only ⟨_, _, _, _, _, _, _, _, _, rfl⟩ hm hW5))
        have r0 := hb.res.cell 0
        have f0 := hb.res.frozen 0
        have g0 := hN.cell 0
        have r1 := hb.res.cell 1
        have f1 := hb.res.frozen 1
        have g1 := hN.cell 1
        have r2 := hb.res.cell 2
        have f2 := hb.res.frozen 2
        have g2 := hN.cell 2
        have r3 := hb.res.cell 3
        have f3 := hb.res.frozen 3
        have g3 := hN.cell 3
        have r4 := hb.res.cell 4
        have f4 := hb.res.frozen 4
        have g4 := hN.cell 4
        clear hW5 hb hN hm hr2 ho2 hrow hVs hql
        go_wp2
        (try rw [HF.out.1])
        (try simp only [Exit.inBlock, Exit.then])
        refine bodyPost_ret ?_ rfl HF.out.2.2
        exact results_cell_row rfl _ W5 P 28 _ (0, 0) _ rfl HF.out.2.1 Tryz.underlying28 rfl (by kernel_rfl)
      | none =>
        have his := is_any rb ⟨#[93]⟩ [93] s (.ok s') wr rfl H.out.2.2.2.2.1 HX.out.2.1
        rw [isB_none hi, isS_none hi] at his
        have HI := Lib.hid (And.intro his hi)
        clear his hi
        go_wp2_with fail
        refine HI.out.1.mono ?_
        rintro e w2 ⟨rfl, hr2, ho2⟩
        obtain ⟨k2, hk2, hd2, hB2⟩ := hr2
        have c2 := Blk.cell hB2 2
        have hz0 : (((0 : Nat) : Int) == 0) = true := rfl
        obtain ⟨hb, op, oc, cs, hN, hrow, hVs⟩ := HX.out.1.next ho2
        have n3 := hN.cell 3
        have HY := Lib.hid (And.intro hb (And.intro hN (And.intro hrow (And.intro hVs (show RS w2 rb s (.ok s') from ⟨k2, hk2, hd2, hB2⟩)))))
        clear hb hN hrow hVs ho2 hB2 hk2 hd2
        by_cases hl0 : l = []
        · subst hl0
          have hz : ¬ (0 : Int) < (([] : List V).length : Int) := by simp
          have hnx : nextP ([] : List V).isEmpty s' = .ok s' := rfl
          have HN := Lib.hid (And.intro HY.out (And.intro hnx (show ([] : List V).length = 0 from rfl)))
          obtain ⟨cnt, hcnt⟩ : ∃ c, ([] : List V).length = c := ⟨_, rfl⟩
          clear hnx
          go_wp2_with fail
          have hcall := H.out.2.2.2.2.2.2.1 w2.drew rb s (.ok s') H.out.2.2.2.2.1 (HN.out.1.2.2.2.2.only (Only.drew (fun _ => False) w2) (fun e => e)) (H.out.2.2.2.1 w2.drew (HN.out.1.1.only.trans (Only.drew _ w2))) H.out.2.2.2.2.2.1
          rw [H.out.2.2.2.2.2.2.2.1] at hcall
          have HC := Lib.hid hcall
          clear hcall
          have hPr : ¬ P + 1 = rb := by have := HN.out.1.1.rlt; omega
          refine AnyP.begin (J := fun j => Nat.ble j 6) (S := fun W => Blk W (P + 1) 28 [.int .i64 4, .int .i64 0, .string ⟨#[]⟩, .slice op 0 oc, .slice none 0 0]) (by kernel_rfl) rfl rfl ?_
          refine AnyP.takeP (i := 0) (v := .pointer (some ⟨P + 1, 3, none⟩)) rfl rfl (by kernel_rfl) (by kernel_rfl) (by kernel_rfl) (fun _ _ _ h => h) (by rfl) ?_ ?_
          · intro W
            go_simp
            try (with_reducible rfl)
          simp only [Act.put, List.setIfInBounds_toArray, List.set_cons_zero, List.set_cons_succ]
          refine AnyP.takeT [2, 3, 4, 5, 6] (by rfl) (i := 1) (v := .slice op 0 oc) rfl rfl (by kernel_rfl) (by kernel_rfl) (by kernel_rfl) (by kernel_rfl) (fun _ _ _ h => h) (by rfl) ?_ HN.out.1.2.1.drew ?_
          · intro W hW
            have n3 := hW.cell 3
            go_simp
            try (with_reducible rfl)
          simp only [Act.put, List.setIfInBounds_toArray, List.set_cons_zero, List.set_cons_succ]
          refine AnyP.takeP (i := 2) (v := .pointer (some ⟨rb, 0, none⟩)) rfl rfl (by kernel_rfl) (by kernel_rfl) (by kernel_rfl) (fun _ _ _ h => h) (by rfl) ?_ ?_
          · intro W
            go_simp
            try (with_reducible rfl)
          simp only [Act.put, List.setIfInBounds_toArray, List.set_cons_zero, List.set_cons_succ]
          refine AnyP.takeP (i := 3) (v := .int .i64 d) rfl rfl (by kernel_rfl) (by kernel_rfl) (by kernel_rfl) (fun _ _ _ h => h) (by rfl) ?_ ?_
          · intro W
            go_simp
            try (with_reducible rfl)
          simp only [Act.put, List.setIfInBounds_toArray, List.set_cons_zero, List.set_cons_succ]
          refine AnyP.takeP (i := 4) (v := .int .i64 (d + 1)) rfl rfl (by kernel_rfl) (by kernel_rfl) (by kernel_rfl) (fun _ _ _ h => h) (by rfl) ?_ ?_
          · intro W
            go_simp
            try (with_reducible rfl)
          simp only [Act.put, List.setIfInBounds_toArray, List.set_cons_zero, List.set_cons_succ]
          refine AnyP.oneL (i := 5) (by kernel_rfl) rfl (fun K hK => ?_)
          go_simp
          go_at_call 32
          refine (show Calls _ _ _ _ _ from HC.out).mono ?_
          rintro e w5 ⟨qc, rfl, ⟨q0, q1, q2, q3, q4, q5, q6, q7, q8, rfl⟩, hm5, ho5⟩
          refine hK.out _ _ (fun _ h => h.only ho5 (fun e => hPr e)) ?_
          clear hK K
          (try simp only [Act.put, List.setIfInBounds_toArray, List.set_cons_zero, List.set_cons_succ])
          have hn5 := HN.out.1.2.1.only ((Only.drew _ w2).trans ho5) (fun e => hPr e)
          have hown5 := own_onlyJ HN.out.1.2.2.1 ((Only.drew _ w2).trans ho5) (fun k hk e => by have e2 : k = rb := e; have := HN.out.1.1.rlt; omega)
          refine AnyP.oneL (i := 6) (by kernel_rfl) rfl (fun K hK => ?_)
          go_simp
          refine hK.out _ _ (fun _ h => h.alloc _) ?_
          clear hK K
          (try simp only [Act.put, List.setIfInBounds_toArray, List.set_cons_zero, List.set_cons_succ])
          obtain ⟨p2, cc, w7, hrun, hown7, ho7, hat⟩ := val_append hown5 (.int .i64 q0) (.int .i64 q1) (.string q2) (.slice q3 q4 q5) (.slice q6 q7 q8) (val_one ⟨_, _, _, _, _, _, _, _, _, rfl⟩) (by have := HX.out.2.2.2.2.1; omega) (by have := hn5.lt; omega)
          have hRun := Lib.hid hrun
          have hn7 : Blk w7 (P + 1) 28 [.int .i64 4, .int .i64 0, .string ⟨#[]⟩, .slice op 0 oc, .slice none 0 0] := hn5.only ho7 (fun e => by have := (hown5.lt _ e.symm).1; omega)
          have n37 := hn7.cell 3
          have nf7 := hn7.frozen 3
          have HA := Lib.hid (And.intro hm5 (And.intro ho5 (And.intro hown7 (And.intro ho7 hat))))
          clear hrun hm5 ho5 hown7 ho7 hat hn7 hn5 hown5
          refine AnyP.oneL (i := 7) (by kernel_rfl) rfl (fun K hK => ?_)
          refine step_append_run rfl (.tmp 26) (.tmp 31) 25 rfl (.slice op 0 oc) (.slice (some ⟨w5.heap.size, 0, none⟩) 1 1) rfl rfl (.slice p2 (0 + 1) cc) w7 hRun.out ?_
          refine hK.out _ _ (fun h => by cases h) ?_
          clear hK K
          (try simp only [Act.put, List.setIfInBounds_toArray, List.set_cons_zero, List.set_cons_succ])
          refine AnyP.takeP (i := 8) (v := .pointer (some ⟨P + 1, 3, none⟩)) rfl rfl (by kernel_rfl) (by kernel_rfl) (by kernel_rfl) (fun _ _ _ h => h) (by rfl) ?_ ?_
          · intro W
            go_simp
            try (with_reducible rfl)
          simp only [Act.put, List.setIfInBounds_toArray, List.set_cons_zero, List.set_cons_succ]
          refine AnyP.oneL (i := 9) (by kernel_rfl) rfl (fun K hK => ?_)
          go_simp
          refine hK.out _ _ (fun h => by cases h) ?_
          clear hK K
          (try simp only [Act.put, List.setIfInBounds_toArray, List.set_cons_zero, List.set_cons_succ])
          refine AnyP.done (by kernel_rfl) ?_
          obtain ⟨W8, hW8⟩ : ∃ W, w7.setCell ⟨P + 1, 3, none⟩ (.slice p2 (0 + 1) cc) = W := ⟨_, rfl⟩
          have hst := list_step (w4 := w2) (l := []) HN.out.1.1 HN.out.1.2.1 HN.out.1.2.2.1 HN.out.1.2.2.2.1 rfl ((Only.drew _ w2).trans HA.out.2.1) HA.out.1 HA.out.2.2.1 HA.out.2.2.2.1 HA.out.2.2.2.2 hW8
          have HW8 := Lib.hid hW8
          clear hW8 n37 nf7
          obtain ⟨res, hres⟩ : ∃ x, vst (.ok s') (valP n) = x := ⟨_, rfl⟩
          rw [hres] at hst
          have hnone := items_none (valP n) f ([]) s' HI.out.2 (.ok s') HN.out.2.1
          rw [hres] at hnone
          have HS := Lib.hid (And.intro hst (And.intro hnone hres))
          clear hst hnone hres
          cases res with
          | error e5 =>
            have hst := HS.out.1
            unfold ListAft at hst
            have HE := Lib.hid hst
            clear hst
            go_wp2_with fail
            rw [HW8.out]
            refine (blank_any rb s (.error e5) W8 H.out.2.2.2.2.1 HE.out.2).mono ?_
            rintro e w9 ⟨rfl, hr9, ho9⟩
            have HF := Lib.hid (show ListGo w rb P s r (valP n) 0 w9 from .inr ⟨e5, rfl, HE.out.1.next ho9, hr9, by rw [HX.out.2.2.2.1, HS.out.2.1]⟩)
            have hgk : 0 < gk := by have := HX.out.2.2.2.2.2; omega
            clear hr9 ho9
            go_wp2_with fail
            go_roundg 0
            case rel => exact HF
            case measure => exact hgk
          | ok p =>
            have hst := HS.out.1
            unfold ListAft at hst
            have HE := Lib.hid hst
            clear hst
            go_wp2_with fail
            rw [HW8.out]
            refine (blank_any rb s (.ok p.2) W8 H.out.2.2.2.2.1 HE.out.2).mono ?_
            rintro e w9 ⟨rfl, hr9, ho9⟩
            have hless := vst_less (val_less n) HN.out.2.1 HS.out.2.2
            have hbl := blank_le p.2
            have HF := Lib.hid (show ListGo w rb P s r (valP n) ((blankL p.2).length + 1) w9 from .inl ⟨([]) ++ [p.1], blankL p.2, rfl, HE.out.1.next ho9, hr9, ⟨f, by have := HX.out.2.2.1; omega, by rw [HX.out.2.2.2.1, HS.out.2.1]⟩, by have := HX.out.2.2.2.2.1; rw [List.length_append]; simp only [List.length_cons, List.length_nil] at this ⊢; omega⟩)
            have hgk : (blankL p.2).length + 1 < gk := by have := HX.out.2.2.2.2.2; omega
            clear hr9 ho9 hless hbl
            go_wp2_with fail
            go_roundg ((blankL p.2).length + 1)
            case rel => exact HF
            case measure => exact hgk
        · have hlp := List.length_pos_iff.2 hl0
          have hz : (0 : Int) < (l.length : Int) := by omega
          have hem : l.isEmpty = false := by
            cases l with
            | nil => exact absurd rfl hl0
            | cons _ _ => rfl
          obtain ⟨st, hst⟩ : ∃ st, nextP l.isEmpty s' = st := ⟨_, rfl⟩
          have hmu := must_any rb ⟨#[44]⟩ [44] s (.ok s') w2 rfl H.out.2.2.2.2.1 HY.out.2.2.2.2
          rw [mustS_next, ← hem, hst] at hmu
          have HMU := Lib.hid (And.intro hmu hst)
          clear hmu hst hem hl0 hlp
          go_wp2_with fail
          refine HMU.out.1.mono ?_
          rintro e w3 ⟨rfl, hr3, ho3⟩
          obtain ⟨hb, op, oc, cs, hN, hrow, hVs⟩ := (show ListGood w rb P l w2 from ⟨HY.out.1, _, _, _, HY.out.2.1, HY.out.2.2.1, HY.out.2.2.2.1⟩).next ho3
          have HN := Lib.hid (And.intro (And.intro hb (And.intro hN (And.intro hrow (And.intro hVs hr3)))) (And.intro HMU.out.2 trivial))
          clear hb hN hrow hVs hr3 ho3 n3 c2
          go_wp2_with fail
          have hcall := H.out.2.2.2.2.2.2.1 w3.drew rb s (st) H.out.2.2.2.2.1 (HN.out.1.2.2.2.2.only (Only.drew (fun _ => False) w3) (fun e => e)) (H.out.2.2.2.1 w3.drew (HN.out.1.1.only.trans (Only.drew _ w3))) H.out.2.2.2.2.2.1
          rw [H.out.2.2.2.2.2.2.2.1] at hcall
          have HC := Lib.hid hcall
          clear hcall
          have hPr : ¬ P + 1 = rb := by have := HN.out.1.1.rlt; omega
          refine AnyP.begin (J := fun j => Nat.ble j 6) (S := fun W => Blk W (P + 1) 28 [.int .i64 4, .int .i64 0, .string ⟨#[]⟩, .slice op l.length oc, .slice none 0 0]) (by kernel_rfl) rfl rfl ?_
          refine AnyP.takeP (i := 0) (v := .pointer (some ⟨P + 1, 3, none⟩)) rfl rfl (by kernel_rfl) (by kernel_rfl) (by kernel_rfl) (fun _ _ _ h => h) (by rfl) ?_ ?_
          · intro W
            go_simp
            try (with_reducible rfl)
          simp only [Act.put, List.setIfInBounds_toArray, List.set_cons_zero, List.set_cons_succ]
          refine AnyP.takeT [2, 3, 4, 5, 6] (by rfl) (i := 1) (v := .slice op l.length oc) rfl rfl (by kernel_rfl) (by kernel_rfl) (by kernel_rfl) (by kernel_rfl) (fun _ _ _ h => h) (by rfl) ?_ HN.out.1.2.1.drew ?_
          · intro W hW
            have n3 := hW.cell 3
            go_simp
            try (with_reducible rfl)
          simp only [Act.put, List.setIfInBounds_toArray, List.set_cons_zero, List.set_cons_succ]
          refine AnyP.takeP (i := 2) (v := .pointer (some ⟨rb, 0, none⟩)) rfl rfl (by kernel_rfl) (by kernel_rfl) (by kernel_rfl) (fun _ _ _ h => h) (by rfl) ?_ ?_
          · intro W
            go_simp
            try (with_reducible rfl)
          simp only [Act.put, List.setIfInBounds_toArray, List.set_cons_zero, List.set_cons_succ]
          refine AnyP.takeP (i := 3) (v := .int .i64 d) rfl rfl (by kernel_rfl) (by kernel_rfl) (by kernel_rfl) (fun _ _ _ h => h) (by rfl) ?_ ?_
          · intro W
            go_simp
            try (with_reducible rfl)
          simp only [Act.put, List.setIfInBounds_toArray, List.set_cons_zero, List.set_cons_succ]
          refine AnyP.takeP (i := 4) (v := .int .i64 (d + 1)) rfl rfl (by kernel_rfl) (by kernel_rfl) (by kernel_rfl) (fun _ _ _ h => h) (by rfl) ?_ ?_
          · intro W
            go_simp
            try (with_reducible rfl)
          simp only [Act.put, List.setIfInBounds_toArray, List.set_cons_zero, List.set_cons_succ]
          refine AnyP.oneL (i := 5) (by kernel_rfl) rfl (fun K hK => ?_)
          go_simp
          go_at_call 32
          refine (show Calls _ _ _ _ _ from HC.out).mono ?_
          rintro e w5 ⟨qc, rfl, ⟨q0, q1, q2, q3, q4, q5, q6, q7, q8, rfl⟩, hm5, ho5⟩
          refine hK.out _ _ (fun _ h => h.only ho5 (fun e => hPr e)) ?_
          clear hK K
          (try simp only [Act.put, List.setIfInBounds_toArray, List.set_cons_zero, List.set_cons_succ])
          have hn5 := HN.out.1.2.1.only ((Only.drew _ w3).trans ho5) (fun e => hPr e)
          have hown5 := own_onlyJ HN.out.1.2.2.1 ((Only.drew _ w3).trans ho5) (fun k hk e => by have e2 : k = rb := e; have := HN.out.1.1.rlt; omega)
          refine AnyP.oneL (i := 6) (by kernel_rfl) rfl (fun K hK => ?_)
          go_simp
          refine hK.out _ _ (fun _ h => h.alloc _) ?_
          clear hK K
          (try simp only [Act.put, List.setIfInBounds_toArray, List.set_cons_zero, List.set_cons_succ])
          obtain ⟨p2, cc, w7, hrun, hown7, ho7, hat⟩ := val_append hown5 (.int .i64 q0) (.int .i64 q1) (.string q2) (.slice q3 q4 q5) (.slice q6 q7 q8) (val_one ⟨_, _, _, _, _, _, _, _, _, rfl⟩) (by have := HX.out.2.2.2.2.1; omega) (by have := hn5.lt; omega)
          have hRun := Lib.hid hrun
          have hn7 : Blk w7 (P + 1) 28 [.int .i64 4, .int .i64 0, .string ⟨#[]⟩, .slice op l.length oc, .slice none 0 0] := hn5.only ho7 (fun e => by have := (hown5.lt _ e.symm).1; omega)
          have n37 := hn7.cell 3
          have nf7 := hn7.frozen 3
          have HA := Lib.hid (And.intro hm5 (And.intro ho5 (And.intro hown7 (And.intro ho7 hat))))
          clear hrun hm5 ho5 hown7 ho7 hat hn7 hn5 hown5
          refine AnyP.oneL (i := 7) (by kernel_rfl) rfl (fun K hK => ?_)
          refine step_append_run rfl (.tmp 26) (.tmp 31) 25 rfl (.slice op l.length oc) (.slice (some ⟨w5.heap.size, 0, none⟩) 1 1) rfl rfl (.slice p2 (l.length + 1) cc) w7 hRun.out ?_
          refine hK.out _ _ (fun h => by cases h) ?_
          clear hK K
          (try simp only [Act.put, List.setIfInBounds_toArray, List.set_cons_zero, List.set_cons_succ])
          refine AnyP.takeP (i := 8) (v := .pointer (some ⟨P + 1, 3, none⟩)) rfl rfl (by kernel_rfl) (by kernel_rfl) (by kernel_rfl) (fun _ _ _ h => h) (by rfl) ?_ ?_
          · intro W
            go_simp
            try (with_reducible rfl)
          simp only [Act.put, List.setIfInBounds_toArray, List.set_cons_zero, List.set_cons_succ]
          refine AnyP.oneL (i := 9) (by kernel_rfl) rfl (fun K hK => ?_)
          go_simp
          refine hK.out _ _ (fun h => by cases h) ?_
          clear hK K
          (try simp only [Act.put, List.setIfInBounds_toArray, List.set_cons_zero, List.set_cons_succ])
          refine AnyP.done (by kernel_rfl) ?_
          obtain ⟨W8, hW8⟩ : ∃ W, w7.setCell ⟨P + 1, 3, none⟩ (.slice p2 (l.length + 1) cc) = W := ⟨_, rfl⟩
          have hst := list_step (w4 := w3) (l := l) HN.out.1.1 HN.out.1.2.1 HN.out.1.2.2.1 HN.out.1.2.2.2.1 rfl ((Only.drew _ w3).trans HA.out.2.1) HA.out.1 HA.out.2.2.1 HA.out.2.2.2.1 HA.out.2.2.2.2 hW8
          have HW8 := Lib.hid hW8
          clear hW8 n37 nf7
          obtain ⟨res, hres⟩ : ∃ x, vst (st) (valP n) = x := ⟨_, rfl⟩
          rw [hres] at hst
          have hnone := items_none (valP n) f (l) s' HI.out.2 (st) HN.out.2.1
          rw [hres] at hnone
          have HS := Lib.hid (And.intro hst (And.intro hnone hres))
          clear hst hnone hres
          cases res with
          | error e5 =>
            have hst := HS.out.1
            unfold ListAft at hst
            have HE := Lib.hid hst
            clear hst
            go_wp2_with fail
            rw [HW8.out]
            refine (blank_any rb s (.error e5) W8 H.out.2.2.2.2.1 HE.out.2).mono ?_
            rintro e w9 ⟨rfl, hr9, ho9⟩
            have HF := Lib.hid (show ListGo w rb P s r (valP n) 0 w9 from .inr ⟨e5, rfl, HE.out.1.next ho9, hr9, by rw [HX.out.2.2.2.1, HS.out.2.1]⟩)
            have hgk : 0 < gk := by have := HX.out.2.2.2.2.2; omega
            clear hr9 ho9
            go_wp2_with fail
            go_roundg 0
            case rel => exact HF
            case measure => exact hgk
          | ok p =>
            have hst := HS.out.1
            unfold ListAft at hst
            have HE := Lib.hid hst
            clear hst
            go_wp2_with fail
            rw [HW8.out]
            refine (blank_any rb s (.ok p.2) W8 H.out.2.2.2.2.1 HE.out.2).mono ?_
            rintro e w9 ⟨rfl, hr9, ho9⟩
            have hless := vst_less (val_less n) HN.out.2.1 HS.out.2.2
            have hbl := blank_le p.2
            have HF := Lib.hid (show ListGo w rb P s r (valP n) ((blankL p.2).length + 1) w9 from .inl ⟨(l) ++ [p.1], blankL p.2, rfl, HE.out.1.next ho9, hr9, ⟨f, by have := HX.out.2.2.1; omega, by rw [HX.out.2.2.2.1, HS.out.2.1]⟩, by have := HX.out.2.2.2.2.1; rw [List.length_append]; simp only [List.length_cons, List.length_nil] at this ⊢; omega⟩)
            have hgk : (blankL p.2).length + 1 < gk := by have := HX.out.2.2.2.2.2; omega
            clear hr9 ho9 hless hbl
            go_wp2_with fail
            go_roundg ((blankL p.2).length + 1)
            case rel => exact HF
            case measure => exact hgk
    · -- something was wrong
      have his := is_any rb ⟨#[93]⟩ [93] s (.error e0) wr rfl H.out.2.2.2.2.1 hR
      rw [show isB [93] (.error e0) = false from rfl, show isS [93] (.error e0) = .error e0 from rfl] at his
      have hres : listP (valP n) r = .error e0 := by unfold listP; rw [hit]
      have HI := Lib.hid (And.intro his (And.intro hres hB))
      clear his hres hB hrel hR hit hg
      go_wp2_with fail
      refine HI.out.1.mono ?_
      rintro e w2 ⟨rfl, hr2, ho2⟩
      obtain ⟨hc0, k2, hk2, hB2⟩ := hr2
      have c2 := Blk.cell hB2 2
      have hz0 : ((e0 : Int) == 0) = false := beq_eq_false_iff_ne.2 (by omega)
      have hz1 : ¬ (e0 : Int) = 0 := by omega
      obtain ⟨hb, p, cnt, c, hN⟩ := HI.out.2.2.next ho2
      have hm : MRes (fun b => P < b ∧ b < w2.heap.size) w2 rb s (listP (valP n) r) [.int .i64 4, .int .i64 0, .string ⟨#[]⟩, .slice p cnt c, .slice none 0 0] := by rw [HI.out.2.1]; exact ⟨hc0, k2, hk2, hB2⟩
      obtain ⟨W5, hW5⟩ : ∃ W5, (((((w2.setCell ⟨P, 0, none⟩ (.int .i64 4)).setCell ⟨P, 1, none⟩ (.int .i64 0)).setCell ⟨P, 2, none⟩ (.string ⟨#[]⟩)).setCell ⟨P, 3, none⟩ (.slice p cnt c)).setCell ⟨P, 4, none⟩ (.slice none 0 0)) = W5 := ⟨_, rfl⟩
      have HF := Lib.hid (And.intro hW5 (cell_end H.out.2.2.2.2.2.2.2.2.1 hb.rlt hb.res hb.only ⟨_, _, _, _, _, _, _, _, _, rfl⟩ hm hW5))
      have r0 := hb.res.cell 0
      have f0 := hb.res.frozen 0
      have g0 := hN.cell 0
      have r1 := hb.res.cell 1
      have f1 := hb.res.frozen 1
      have g1 := hN.cell 1
      have r2 := hb.res.cell 2
      have f2 := hb.res.frozen 2
      have g2 := hN.cell 2
      have r3 := hb.res.cell 3
      have f3 := hb.res.frozen 3
      have g3 := hN.cell 3
      have r4 := hb.res.cell 4
      have f4 := hb.res.frozen 4
      have g4 := hN.cell 4
      clear hW5 hb hN hm hB2 hk2 hc0 ho2
      go_wp2
      (try rw [HF.out.1])
      (try simp only [Exit.inBlock, Exit.then])
      refine bodyPost_ret ?_ rfl HF.out.2.2
      exact results_cell_row rfl _ W5 P 28 _ (0, 0) _ rfl HF.out.2.1 Tryz.underlying28 rfl (by kernel_rfl)
end Go.Proofs.YtccnfnoonpfdfaaGreatDoor
