/- The JSON reader's object (printed by wip/gen_jnm.py). -/
import Derived.Test.YtccnfnoonpfdfaaGreatDoorJnL
namespace Go.Proofs.YtccnfnoonpfdfaaGreatDoor
open Go.Shelf Go.RowKit Go.Lib

def ObjS (P n : Nat) : Nat → Prop := fun b => P + 2 ≤ b ∧ b < n
def ObjGood (w0 : World) (rb P : Nat) (l : List (BL × V)) (wr : World) : Prop := LB w0 rb P wr ∧ ∃ op oc, Blk wr (P + 1) 28 [.int .i64 5, .int .i64 0, .string ⟨#[]⟩, .slice none 0 0, .slice op l.length oc] ∧ VAt (ObjS P wr.heap.size) wr (.obj l) [.int .i64 5, .int .i64 0, .string ⟨#[]⟩, .slice none 0 0, .slice op l.length oc]
def ObjBad (w0 : World) (rb P : Nat) (wr : World) : Prop := LB w0 rb P wr ∧ ∃ p n c, Blk wr (P + 1) 28 [.int .i64 5, .int .i64 0, .string ⟨#[]⟩, .slice none 0 0, .slice p n c]
theorem ObjGood.next {w0 wr w2 : World} {rb P : Nat} {l : List (BL × V)} (h : ObjGood w0 rb P l wr) (ho : Only (· = rb) wr w2) : ObjGood w0 rb P l w2 := by
  obtain ⟨hb, op, oc, hN, hv⟩ := h
  have h1 := hb.rlt
  refine ⟨hb.next ho (fun _ _ e => e), op, oc, hN.only ho (fun e => by have e2 : P + 1 = rb := e; omega), hv.keep ?_ ?_⟩
  · rintro b ⟨h2, h3⟩
    exact ⟨h2, Nat.lt_of_lt_of_le h3 ho.size⟩
  · rintro b ⟨h2, h3⟩ k u hu
    exact ho.cell (fun e => by have e2 : b = rb := e; omega) hu
theorem ObjBad.next {w0 wr w2 : World} {rb P : Nat} (h : ObjBad w0 rb P wr) (ho : Only (· = rb) wr w2) : ObjBad w0 rb P w2 := by
  obtain ⟨hb, p, n, c, hN⟩ := h
  exact ⟨hb.next ho (fun _ _ e => e), p, n, c, hN.only ho (fun e => by have e2 : P + 1 = rb := e; have := hb.rlt; omega)⟩
theorem hasF_field : ∀ (l : List (BL × V)) (nm : BL), hasF l nm = (fieldP l nm).isSome
  | [], nm => rfl
  | f :: l, nm => by
    have ih := hasF_field l nm
    unfold hasF at ih ⊢
    rw [List.any_cons, ih, fieldP]
    by_cases h : f.1 = nm
    · rw [if_pos h]; simp [h]
    · rw [if_neg h, beq_eq_false_iff_ne.2 h]; rfl

/-! ### the states of a field -/
def hasS (b : Bool) (st : Except Nat BL) : Except Nat BL := if b then fell st 5 else st
def fieldR (rec : BL → Res V) (b : Bool) (st1 : Except Nat BL) : Res V := vst (mustS [58] ((hasS b st1).map blankL)) rec
theorem vst_error {α : Type} (e : Nat) (f : BL → Res α) : vst (.error e) f = .error e := rfl
theorem field_err (rec : BL → Res V) (b : Bool) (e : Nat) : fieldR rec b (.error e) = .error e := by
  unfold fieldR hasS
  cases b <;> rfl
/-- what the states say of the field. -/
theorem field_state (rec : BL → Res V) (l : List (BL × V)) (st : Except Nat BL) (nm : BL) (hnm : ∀ p, txtS st = .ok p → nm = p.1) :
    match fieldR rec (hasF l nm) (aftS (txtS st)) with
    | .ok q => hasF l nm = false ∧ vst st (fieldP2 rec l) = .ok (setF l nm q.1, q.2)
    | .error e => vst st (fieldP2 rec l) = .error e := by
  cases st with
  | error e =>
    rw [show aftS (txtS (.error e)) = .error e from rfl, field_err]
    rfl
  | ok s =>
    show match fieldR rec (hasF l nm) (aftS (textP s)) with
      | .ok q => hasF l nm = false ∧ fieldP2 rec l s = .ok (setF l nm q.1, q.2)
      | .error e => fieldP2 rec l s = .error e
    cases ht : textP s with
    | error e =>
      rw [show aftS (Except.error e : Res BL) = .error e from rfl, field_err]
      unfold fieldP2
      rw [ht]
    | ok p =>
      have hp := hnm p ht
      subst hp
      rw [show aftS (Except.ok p : Res BL) = .ok p.2 from rfl]
      unfold fieldP2
      rw [ht]
      unfold fieldR hasS
      cases hh : hasF l p.1 with
      | true =>
        simp only [hh, if_true]
        rfl
      | false =>
        simp only [hh, Bool.false_eq_true, if_false]
        have e1 : mustS [58] ((Except.ok p.2 : Except Nat BL).map blankL) = (match isL [58] (blankL p.2) with
          | some r2 => .ok (blankL r2)
          | none => .error 1) := rfl
        rw [e1]
        cases isL [58] (blankL p.2) with
        | none => rfl
        | some t =>
          simp only []
          have e2 : vst (.ok (blankL t)) rec = rec (blankL t) := rfl
          rw [e2]
          cases rec (blankL t) with
          | error e => rfl
          | ok q => exact ⟨trivial, rfl⟩
theorem fields_none (rec : BL → Res V) (f : Nat) (l : List (BL × V)) (s' : BL) (h : isL [125] s' = none) (st : Except Nat BL) (hst : nextP l.isEmpty s' = st) : fieldsP rec (f + 1) l s' = (match vst st (fieldP2 rec l) with
    | .error e => .error e
    | .ok p => fieldsP rec f p.1 (blankL p.2)) := by
  rw [fieldsP, h]
  simp only [hst]
  cases st with
  | error e => rfl
  | ok s2 => rfl
theorem vst_lessF {rec : BL → Res V} (hr : Less rec) {l : List (BL × V)} {b : Bool} {s' : BL} {st : Except Nat BL} (hst : nextP b s' = st) {p : List (BL × V) × BL} (h : vst st (fieldP2 rec l) = .ok p) : p.2.length < s'.length := by
  cases st with
  | error e => cases h
  | ok s2 =>
    have h1 := next_le hst
    have h2 := field_less hr l _ _ h
    omega
theorem setF_len (l : List (BL × V)) (n : BL) (v : V) : (setF l n v).length = l.length + 1 := by
  induction l with
  | nil => rfl
  | cons f l ih =>
    rw [setF]
    split
    · rfl
    · rw [List.length_cons, ih]; rfl
def ObjAft (w0 : World) (rb P : Nat) (s : BL) (l : List (BL × V)) (nm : BL) (res : Res V) (W : World) : Prop := match res with
  | .ok q => ObjGood w0 rb P (setF l nm q.1) W ∧ RS W rb s (.ok q.2)
  | .error e => ObjBad w0 rb P W ∧ RS W rb s (.error e)
theorem obj_step {w0 w4 w5 w6 W7 : World} {rb P cnt c6 : Nat} {s : BL} {l : List (BL × V)} {nm : BL} {p6 : Option Addr} {z0 z1 z2 z3 z4 : Value} {c0 c1 c2 c3 c4 : Value} {res : Res V} (hb : LB w0 rb P w4) (hN : Blk w4 (P + 1) 28 [z0, z1, z2, z3, z4])
    (ho : Only (· = rb) w4 w5) (hm : MRes (fun b => w4.heap.size ≤ b ∧ b < w5.heap.size) w5 rb s res [c0, c1, c2, c3, c4]) (hb6 : Below w5.heap.size w5 w6)
    (hset : ∀ v, hasF l nm = false → VAt (fun b => w4.heap.size ≤ b ∧ b < w5.heap.size) w5 v [c0, c1, c2, c3, c4] → VAt (fun b => ObjS P w5.heap.size b ∨ (w4.heap.size ≤ b ∧ b < w5.heap.size) ∨ (w5.heap.size ≤ b ∧ b < w6.heap.size)) w6 (.obj (setF l nm v)) [.int .i64 5, .int .i64 0, .string ⟨#[]⟩, .slice none 0 0, .slice p6 cnt c6])
    (hh : ∀ q, res = .ok q → hasF l nm = false)
    (hW : (((((w6.setCell ⟨P + 1, 0, none⟩ (.int .i64 5)).setCell ⟨P + 1, 1, none⟩ (.int .i64 0)).setCell ⟨P + 1, 2, none⟩ (.string ⟨#[]⟩)).setCell ⟨P + 1, 3, none⟩ (.slice none 0 0)).setCell ⟨P + 1, 4, none⟩ (.slice p6 cnt c6)) = W7) : ObjAft w0 rb P s l nm res W7 := by
  have h1 := hb.rlt
  have hs5 := ho.size
  have hs6 := hb6.size
  have hN6 : Blk w6 (P + 1) 28 [z0, z1, z2, z3, z4] := (hN.only ho (fun e => by have e2 : P + 1 = rb := e; omega)).below hb6
  obtain ⟨hN7, ho7⟩ := put5 hN6 hW
  have hs7 := ho7.size
  have hb7 : LB w0 rb P W7 := ((hb.next ho (fun _ _ e => e)).next (Only.ofBelow hb6 (fun _ => False)) (fun _ _ e => e.elim)).next ho7 (fun k hk e => by have e2 : k = P + 1 := e; omega)
  have hR7 : ∀ st, RS w5 rb s st → RS W7 rb s st := fun st h => (h.below hb6).only ho7 (fun e => by have e2 : rb = P + 1 := e; omega)
  unfold ObjAft
  cases res with
  | error e => exact ⟨⟨hb7, _, _, _, hN7⟩, hR7 _ hm⟩
  | ok q =>
    have hv := hset q.1 (hh q rfl) hm.1
    have hv7 : VAt (ObjS P W7.heap.size) W7 (.obj (setF l nm q.1)) [.int .i64 5, .int .i64 0, .string ⟨#[]⟩, .slice none 0 0, .slice p6 cnt c6] := by
      have hlt := hN.lt
      refine hv.keep ?_ ?_
      · rintro b (⟨h2, h3⟩ | ⟨h2, h3⟩ | ⟨h2, h3⟩)
        · exact ⟨h2, by omega⟩
        · exact ⟨by omega, by omega⟩
        · exact ⟨by omega, by omega⟩
      · rintro b h2 k u hu
        refine ho7.cell (fun e => ?_) hu
        have e2 : b = P + 1 := e
        rcases h2 with ⟨h2, _⟩ | ⟨h2, _⟩ | ⟨h2, _⟩ <;> omega
    have hcnt : cnt = (setF l nm q.1).length := by
      cases hv7 with
      | obj l cs sl hV hr =>
        obtain ⟨p, cap, e, _⟩ := row_form hr
        injection e
    subst hcnt
    exact ⟨⟨hb7, _, _, hN7, hv7⟩, hR7 _ hm.2⟩
/-- what the loop has found. -/
def ObjGo (w0 : World) (rb P : Nat) (s r : BL) (rec : BL → Res V) (gk : Nat) (wr : World) : Prop :=
  (∃ l s', gk = s'.length + 1 ∧ ObjGood w0 rb P l wr ∧ RS wr rb s (.ok s') ∧ (∃ f, s'.length < f ∧ fieldsP rec (r.length + 1) [] (blankL r) = fieldsP rec f l s') ∧ l.length + s'.length ≤ 1000000) ∨
  (∃ e, gk = 0 ∧ ObjBad w0 rb P wr ∧ RS wr rb s (.error e) ∧ fieldsP rec (r.length + 1) [] (blankL r) = .error e)

set_option maxHeartbeats 16000000 in
set_option maxRecDepth 100000 in
theorem obj_any (n : Nat) (hn : n ≤ 16) (hrec : RV n) (w : World) (rb : Nat) (s r : BL) (hs : s.length ≤ 1000000) (hR : RS w rb s (.ok r)) (hE : Env w) (hrb : 11 ≤ rb) :
    Calls Tryz.prog 59 #[.pointer (some ⟨rb, 0, none⟩), .int .i64 (16 - (n : Int))] w (ValPost w rb s (objP (valP n) r)) := by
  obtain ⟨P, hP⟩ : ∃ P, w.heap.size = P := ⟨_, rfl⟩
  obtain ⟨d, hd⟩ : ∃ d : Int, 16 - (n : Int) = d := ⟨_, rfl⟩
  have hd1 : 17 - (n : Int) = d + 1 := by omega
  have hwd : IntKind.i64.wrap (d + 1) = d + 1 := IntWalk.i64_in _ (by omega)
  rw [hd]
  obtain ⟨W0, hW0⟩ : ∃ W, (w.alloc (.cells #[.int .i64 0, .int .i64 0, .string ⟨#[]⟩, .slice none 0 0, .slice none 0 0] 28)).alloc (.cells #[.int .i64 5, .int .i64 0, .string ⟨#[]⟩, .slice none 0 0, .slice none 0 0] 28) = W := ⟨_, rfl⟩
  have hlt := hR.lt
  have hb0 : Below w.heap.size w W0 := by rw [← hW0]; exact ((Below.refl _ w).alloc (Nat.le_refl _) _).alloc (by simp) _
  have k0 : Blk W0 P 28 [.int .i64 0, .int .i64 0, .string ⟨#[]⟩, .slice none 0 0, .slice none 0 0] := by rw [← hW0, ← hP]; exact (show Blk _ w.heap.size 28 [.int .i64 0, .int .i64 0, .string ⟨#[]⟩, .slice none 0 0, .slice none 0 0] from heap_alloc_new w (.cells #[.int .i64 0, .int .i64 0, .string ⟨#[]⟩, .slice none 0 0, .slice none 0 0] 28)).alloc _
  have k1 : Blk W0 (P + 1) 28 [.int .i64 5, .int .i64 0, .string ⟨#[]⟩, .slice none 0 0, .slice none 0 0] := by rw [← hW0, ← hP]; exact blk_new2 w _ _ _
  have hG0 : ObjGood w rb P [] W0 := ⟨⟨hP, by omega, k1.lt, k0, Only.ofBelow hb0 _⟩, none, 0, k1, .obj [] [] _ .nil ⟨by simp, .inl ⟨rfl, rfl⟩⟩⟩
  have henv : ∀ wr, Only (· = rb) w wr → Env wr := fun wr ho => hE.only (by omega) ho (fun g hg e => by have e2 : g = rb := e; omega)
  have hrs : r.length ≤ s.length := by
    obtain ⟨k, _, e, _⟩ := hR
    rw [← e, List.length_drop]; omega
  have hs6 : s.length ≤ 1000000 := by omega
  have H := Lib.hid (And.intro hW0 (And.intro hG0 (And.intro (hR.below hb0) (And.intro henv (And.intro hs6 (And.intro hrb (And.intro hrec (And.intro hd1 (And.intro hP (And.intro hrs (And.intro hlt hs)))))))))))
  clear hW0 hG0 hR henv hs hs6 hrb hrec hE hb0 k0 k1 hrs hlt
  go_enter Tryz.func59, Tryz.ntmps59
  go_wp2_with fail
  rw [H.out.1]
  (try rw [hP])
  refine (blank_any rb s (.ok r) W0 H.out.2.2.2.2.1 H.out.2.2.1).mono ?_
  rintro e w1 ⟨rfl, hr1, ho1⟩
  have hbl := blank_le r
  have h0 : ObjGo w rb P s r (valP n) ((blankL r).length + 1) w1 := .inl ⟨[], blankL r, rfl, H.out.2.1.next ho1, hr1, ⟨r.length + 1, by omega, rfl⟩, by have := H.out.2.2.2.2.2.2.2.2.2.2.2; have := H.out.2.2.2.2.2.2.2.2.2.1; simp only [List.length_nil]; omega⟩
  have H0 := Lib.hid h0
  clear h0 hr1 ho1 hbl
  go_wp2_with fail
  go_loopg [] ((blankL r).length + 1) (fun gk wr => Hid (ObjGo w rb P s r (valP n) gk wr))
  case atStart => exact H0
  case round =>
    rcases hrel.out with ⟨l, s', hg, hG, hR, ⟨f, hf, hit⟩, hle⟩ | ⟨e0, hg, hB, hR, hit⟩
    · obtain ⟨f, rfl⟩ : ∃ g, f = g + 1 := ⟨f - 1, by omega⟩
      have HX := Lib.hid (And.intro hG (And.intro hR (And.intro hf (And.intro hit (And.intro hle hg)))))
      clear hrel hG hR hf hit hle hg
      cases hi : isL [125] s' with
      | some t =>
        -- the object's end
        have his := is_any rb ⟨#[125]⟩ [125] s (.ok s') wr rfl H.out.2.2.2.2.1 HX.out.2.1
        rw [isB_some hi, isS_some hi] at his
        have hres : objP (valP n) r = .ok (.obj l, t) := by
          unfold objP
          rw [HX.out.2.2.2.1, fieldsP, hi]
        have HI := Lib.hid (And.intro his hres)
        clear his hres hi
        go_wp2_with fail
        refine HI.out.1.mono ?_
        rintro e w2 ⟨rfl, hr2, ho2⟩
        obtain ⟨hb, op, oc, hN, hV⟩ := HX.out.1.next ho2
        have hm : MRes (fun b => P < b ∧ b < w2.heap.size) w2 rb s (objP (valP n) r) [.int .i64 5, .int .i64 0, .string ⟨#[]⟩, .slice none 0 0, .slice op l.length oc] := by
          rw [HI.out.2]
          refine ⟨hV.keep ?_ ?_, hr2⟩
          · rintro b ⟨h2, h3⟩
            exact ⟨by omega, h3⟩
          · intro b _ k u hu
            exact hu
        obtain ⟨W5, hW5⟩ : ∃ W5, (((((w2.setCell ⟨P, 0, none⟩ (.int .i64 5)).setCell ⟨P, 1, none⟩ (.int .i64 0)).setCell ⟨P, 2, none⟩ (.string ⟨#[]⟩)).setCell ⟨P, 3, none⟩ (.slice none 0 0)).setCell ⟨P, 4, none⟩ (.slice op l.length oc)) = W5 := ⟨_, rfl⟩
        have HF := Lib.hid (And.intro hW5 (cell_end H.out.2.2.2.2.2.2.2.2.1 hb.rlt hb.res hb.only ⟨_, _, _, _, _, _, _, _, _, rfl⟩ hm hW5))
        have r0 := hb.res.cell 0
        have f0 := hb.res.frozen 0
        have g0 := hN.cell 0
        have r1 := hb.res.cell 1
        have f1 := hb.res.frozen 1
        have g1 := hN.cell 1
        have r2 := hb.res.cell 2
        have f2 := hb.res.frozen 2
        have g2 := hN.cell 2
        have r3 := hb.res.cell 3
        have f3 := hb.res.frozen 3
        have g3 := hN.cell 3
        have r4 := hb.res.cell 4
        have f4 := hb.res.frozen 4
        have g4 := hN.cell 4
        clear hW5 hb hN hm hr2 ho2 hV
        go_wp2
        (try rw [HF.out.1])
        (try simp only [Exit.inBlock, Exit.then])
        refine bodyPost_ret ?_ rfl HF.out.2.2
        exact results_cell_row rfl _ W5 P 28 _ (0, 0) _ rfl HF.out.2.1 Tryz.underlying28 rfl (by kernel_rfl)
      | none =>
        have his := is_any rb ⟨#[125]⟩ [125] s (.ok s') wr rfl H.out.2.2.2.2.1 HX.out.2.1
        rw [isB_none hi, isS_none hi] at his
        have HI := Lib.hid (And.intro his hi)
        clear his hi
        go_wp2_with fail
        refine HI.out.1.mono ?_
        rintro e w2 ⟨rfl, hr2, ho2⟩
        obtain ⟨k2, hk2, hd2, hB2⟩ := hr2
        have c2 := Blk.cell hB2 2
        have hz0 : (((0 : Nat) : Int) == 0) = true := rfl
        obtain ⟨hb, op, oc, hN, hV⟩ := HX.out.1.next ho2
        have n3 := hN.cell 4
        have HY := Lib.hid (And.intro hb (And.intro hN (And.intro hV (show RS w2 rb s (.ok s') from ⟨k2, hk2, hd2, hB2⟩))))
        clear hb hN hV ho2 hB2 hk2 hd2
        by_cases hl0 : l = []
        · subst hl0
          have hz : ¬ (0 : Int) < (([] : List (BL × V)).length : Int) := by simp
          have hnx : nextP ([] : List (BL × V)).isEmpty s' = .ok s' := rfl
          have HN := Lib.hid (And.intro (show ObjGood w rb P [] w2 from ⟨HY.out.1, _, _, HY.out.2.1, HY.out.2.2.1⟩) (And.intro HY.out.2.2.2 hnx))
          clear hnx
          go_wp2_with fail
          refine (quoted_any rb s (.ok s') w2 H.out.2.2.2.2.1 HN.out.2.1 (H.out.2.2.2.1 w2 HN.out.1.1.only) H.out.2.2.2.2.2.1).mono ?_
          rintro e w4 ⟨T, rfl, hq, ho4⟩
          obtain ⟨nm, hnm⟩ : ∃ nm, T.data.toList = nm := ⟨_, rfl⟩
          have hTn : BA nm = T := by subst hnm; exact ba_list T
          have hqn : (∀ p, txtS (.ok s') = .ok p → nm = p.1) ∧ RS w4 rb s (aftS (txtS (.ok s'))) := by
            cases ht : txtS (.ok s') with
            | ok p =>
              rw [ht] at hq
              refine ⟨fun p2 e => ?_, hq.2⟩
              have e2 : p = p2 := by injection e
              rw [← hnm, hq.1, ← e2]
            | error e =>
              rw [ht] at hq
              exact ⟨fun p2 e => (by cases e), hq⟩
          have hG4 := HN.out.1.next ho4
          have HQ := Lib.hid (And.intro hqn (And.intro hG4 hTn))
          obtain ⟨hb4, op4, oc4, hN4, hV4⟩ := hG4
          have hgt := vget_any _ nm _ w4 _ hV4
          rw [hTn] at hgt
          have hhf := hasF_field (([] : List (BL × V))) nm
          have HGT := Lib.hid (And.intro hgt hhf)
          have m0 := hN4.cell 0
          have m1 := hN4.cell 1
          have m2 := hN4.cell 2
          have m3 := hN4.cell 3
          have m4 := hN4.cell 4
          clear hq hqn hgt hhf hnm ho4 hb4 hV4 hTn
          go_wp2_with fail
          refine HGT.out.1.mono ?_
          intro e w5 hopt
          unfold OptV at hopt
          have hge : getP (.obj (([] : List (BL × V)))) nm = fieldP (([] : List (BL × V))) nm := rfl
          rw [hge] at hopt
          clear hge
          cases hfd : fieldP (([] : List (BL × V))) nm with
          | some xv =>
            rw [hfd] at hopt
            obtain ⟨dd, rfl, hxd, hb5⟩ := hopt
            obtain ⟨y0, y1, y2, y3, y4, y5, y6, y7, y8, rfl⟩ := hxd.shape
            have hhas : hasF (([] : List (BL × V))) nm = true := by rw [HGT.out.2, hfd]; rfl
            obtain ⟨W5, hW5⟩ : ∃ W, w5.alloc (.cells #[.int .i64 y0, .int .i64 y1, .string y2, .slice y3 y4 y5, .slice y6 y7 y8] 28) = W := ⟨_, rfl⟩
            have hb55 : Below w4.heap.size w4 W5 := by rw [← hW5]; exact hb5.alloc hb5.size _
            have HW5 := Lib.hid (And.intro hW5 (And.intro hhas (And.intro (HQ.out.2.1.next (Only.ofBelow hb55 _)) (HQ.out.1.2.below hb55))))
            clear hW5 hb55 hhas hb5 hfd hxd
            go_wp2_with fail
            rw [HW5.out.1]
            refine (wrong_any rb s _ 5 (by decide) W5 HW5.out.2.2.2).mono ?_
            rintro e w6 ⟨rfl, hr6, ho6⟩
            have HZ := Lib.hid (And.intro (HW5.out.2.2.1.next ho6) (show RS w6 rb s (hasS (hasF (([] : List (BL × V))) nm) (aftS (txtS (.ok s')))) by rw [HW5.out.2.1]; exact hr6))
            clear hr6 ho6
            go_wp2_with fail
            refine (blank_any rb s _ w6 H.out.2.2.2.2.1 HZ.out.2).mono ?_
            rintro e w7 ⟨rfl, hr7, ho7⟩
            have HZ7 := Lib.hid (And.intro (HZ.out.1.next ho7) hr7)
            clear hr7 ho7
            go_wp2_with fail
            refine (must_any rb ⟨#[58]⟩ [58] s _ w7 rfl H.out.2.2.2.2.1 HZ7.out.2).mono ?_
            rintro e w8 ⟨rfl, hr8, ho8⟩
            have hG8 := HZ7.out.1.next ho8
            obtain ⟨hb8, op, oc, hN8, hV8⟩ := hG8
            have HN8 := Lib.hid (And.intro hb8 (And.intro hN8 (And.intro hV8 hr8)))
            clear hr8 ho8 hb8 hN8 hV8
            go_wp2_with fail
            have hcall := H.out.2.2.2.2.2.2.1 w8.drew rb s _ H.out.2.2.2.2.1 (HN8.out.2.2.2.only (Only.drew (fun _ => False) w8) (fun e => e)) (H.out.2.2.2.1 w8.drew (HN8.out.1.only.trans (Only.drew _ w8))) H.out.2.2.2.2.2.1
            rw [H.out.2.2.2.2.2.2.2.1] at hcall
            have HC := Lib.hid hcall
            clear hcall
            have hPr : ¬ P + 1 = rb := by have := HN8.out.1.rlt; omega
            refine AnyP.begin (J := fun j => Nat.ble j 5) (S := fun W => Blk W (P + 1) 28 [.int .i64 5, .int .i64 0, .string ⟨#[]⟩, .slice none 0 0, .slice op (([] : List (BL × V))).length oc]) (by kernel_rfl) rfl rfl ?_
            refine AnyP.takeT [1, 2, 3, 4, 5] (by rfl) (i := 0) (v := .agg #[.int .i64 5, .int .i64 0, .string ⟨#[]⟩, .slice none 0 0, .slice op (([] : List (BL × V))).length oc]) rfl rfl (by kernel_rfl) (by kernel_rfl) (by kernel_rfl) (by kernel_rfl) (fun _ _ _ h => h) (by rfl) ?_ HN8.out.2.1.drew ?_
            · intro W hW
              have n0 := hW.cell 0
              have n1 := hW.cell 1
              have n2 := hW.cell 2
              have n3 := hW.cell 3
              have n4 := hW.cell 4
              go_simp
              try (with_reducible rfl)
            simp only [Act.put, List.setIfInBounds_toArray, List.set_cons_zero, List.set_cons_succ]
            refine AnyP.takeP (i := 1) (v := .string T) rfl rfl (by kernel_rfl) (by kernel_rfl) (by kernel_rfl) (fun _ _ _ h => h) (by rfl) ?_ ?_
            · intro W
              go_simp
              try (with_reducible rfl)
            simp only [Act.put, List.setIfInBounds_toArray, List.set_cons_zero, List.set_cons_succ]
            refine AnyP.takeP (i := 2) (v := .pointer (some ⟨rb, 0, none⟩)) rfl rfl (by kernel_rfl) (by kernel_rfl) (by kernel_rfl) (fun _ _ _ h => h) (by rfl) ?_ ?_
            · intro W
              go_simp
              try (with_reducible rfl)
            simp only [Act.put, List.setIfInBounds_toArray, List.set_cons_zero, List.set_cons_succ]
            refine AnyP.takeP (i := 3) (v := .int .i64 d) rfl rfl (by kernel_rfl) (by kernel_rfl) (by kernel_rfl) (fun _ _ _ h => h) (by rfl) ?_ ?_
            · intro W
              go_simp
              try (with_reducible rfl)
            simp only [Act.put, List.setIfInBounds_toArray, List.set_cons_zero, List.set_cons_succ]
            refine AnyP.takeP (i := 4) (v := .int .i64 (d + 1)) rfl rfl (by kernel_rfl) (by kernel_rfl) (by kernel_rfl) (fun _ _ _ h => h) (by rfl) ?_ ?_
            · intro W
              go_simp
              try (with_reducible rfl)
            simp only [Act.put, List.setIfInBounds_toArray, List.set_cons_zero, List.set_cons_succ]
            refine AnyP.oneL (i := 5) (by kernel_rfl) rfl (fun K hK => ?_)
            go_simp
            go_at_call 32
            refine (show Calls _ _ _ _ _ from HC.out).mono ?_
            rintro e w9 ⟨qc, rfl, ⟨q0, q1, q2, q3, q4, q5, q6, q7, q8, rfl⟩, hm9, ho9⟩
            refine hK.out _ _ (fun _ h => h.only ho9 (fun e => hPr e)) ?_
            clear hK K
            (try simp only [Act.put, List.setIfInBounds_toArray, List.set_cons_zero, List.set_cons_succ])
            have ho89 : Only (· = rb) w8 w9 := (Only.drew _ w8).trans ho9
            have hV9 : VAt (ObjS P w9.heap.size) w9 (.obj (([] : List (BL × V)))) [.int .i64 5, .int .i64 0, .string ⟨#[]⟩, .slice none 0 0, .slice op (([] : List (BL × V))).length oc] := by
              refine HN8.out.2.2.1.keep ?_ ?_
              · rintro b ⟨h2, h3⟩
                exact ⟨h2, Nat.lt_of_lt_of_le h3 ho89.size⟩
              · rintro b ⟨h2, h3⟩ k u hu
                exact ho89.cell (fun e => by have e2 : b = rb := e; have := HN8.out.1.rlt; omega) hu
            have hset : Calls Tryz.prog 94 #[.agg #[.int .i64 5, .int .i64 0, .string ⟨#[]⟩, .slice none 0 0, .slice op (([] : List (BL × V))).length oc], .string T, .agg #[.int .i64 q0, .int .i64 q1, .string q2, .slice q3 q4 q5, .slice q6 q7 q8]] w9 (SetPost (ObjS P w9.heap.size) (fun b => w8.heap.size ≤ b ∧ b < w9.heap.size) (([] : List (BL × V))) nm [.int .i64 q0, .int .i64 q1, .string q2, .slice q3 q4 q5, .slice q6 q7 q8] w9) := by
              rw [← HQ.out.2.2]
              cases hV9 with
              | obj l2 cs sl hV hr => exact set_any _ _ _ nm cs op _ oc q0 q1 q2 q3 q6 q4 q5 q7 q8 w9 hV hr (by have := HX.out.2.2.2.2.1; (try simp only [List.length_nil] at this); (try simp only [List.length_nil]); omega)
            have HS := Lib.hid (And.intro hset (And.intro ho89 hm9))
            have hN9 := HN8.out.2.1.only ho89 (fun e => hPr e)
            have HN9 := Lib.hid hN9
            clear hset ho89 hm9 hV9 ho9 hN9
            refine AnyP.oneL (i := 6) (by kernel_rfl) rfl (fun K hK => ?_)
            go_simp
            go_at_call 94
            refine (show Calls _ _ _ _ _ from HS.out.1).mono ?_
            rintro e w10 ⟨p6, n6, c6, rfl, hb10, hset⟩
            refine hK.out _ _ (fun h => by cases h) ?_
            clear hK K
            (try simp only [Act.put, List.setIfInBounds_toArray, List.set_cons_zero, List.set_cons_succ])
            have hN10 := HN9.out.below hb10
            have k0 := hN10.cell 0
            have kf0 := hN10.frozen 0
            have k1 := hN10.cell 1
            have kf1 := hN10.frozen 1
            have k2 := hN10.cell 2
            have kf2 := hN10.frozen 2
            have k3 := hN10.cell 3
            have kf3 := hN10.frozen 3
            have k4 := hN10.cell 4
            have kf4 := hN10.frozen 4
            have HSB := Lib.hid (And.intro hb10 hset)
            clear hb10 hset hN10
            refine AnyP.oneL (i := 7) (by kernel_rfl) rfl (fun K hK => ?_)
            go_simp
            refine hK.out _ _ (fun h => by cases h) ?_
            clear hK K
            (try simp only [Act.put, List.setIfInBounds_toArray, List.set_cons_zero, List.set_cons_succ])
            refine AnyP.done (by kernel_rfl) ?_
            obtain ⟨W7, hW7⟩ : ∃ W, (((((w10.setCell ⟨P + 1, 0, none⟩ (.int .i64 5)).setCell ⟨P + 1, 1, none⟩ (.int .i64 0)).setCell ⟨P + 1, 2, none⟩ (.string ⟨#[]⟩)).setCell ⟨P + 1, 3, none⟩ (.slice none 0 0)).setCell ⟨P + 1, 4, none⟩ (.slice p6 n6 c6)) = W := ⟨_, rfl⟩
            have hfs := field_state (valP n) (([] : List (BL × V))) (.ok s') nm HQ.out.1.1
            obtain ⟨res, hres⟩ : ∃ x, fieldR (valP n) (hasF (([] : List (BL × V))) nm) (aftS (txtS (.ok s'))) = x := ⟨_, rfl⟩
            have hm9 := HS.out.2.2
            rw [show vst (mustS [58] ((hasS (hasF (([] : List (BL × V))) nm) (aftS (txtS (.ok s')))).map blankL)) (valP n) = res from hres] at hm9
            rw [hres] at hfs
            have hst := obj_step (l := (([] : List (BL × V)))) (nm := nm) (w4 := w8) HN8.out.1 HN8.out.2.1 HS.out.2.1 hm9 HSB.out.1 HSB.out.2 (fun q e => by rw [e] at hfs; exact hfs.1) hW7
            have hnone := fields_none (valP n) f (([] : List (BL × V))) s' HI.out.2 (.ok s') HN.out.2.2
            have HW7 := Lib.hid hW7
            have HSS := Lib.hid (And.intro hst (And.intro hnone hfs))
            clear hW7 hfs hst hnone hm9 hres k0 k1 k2 k3 k4 kf0 kf1 kf2 kf3 kf4 m0 m1 m2 m3 m4
            cases res with
            | error e5 =>
              have hst := HSS.out.1
              unfold ObjAft at hst
              have HE := Lib.hid (And.intro hst (show fieldsP (valP n) (r.length + 1) [] (blankL r) = .error e5 by rw [HX.out.2.2.2.1, HSS.out.2.1, show vst (.ok s') (fieldP2 (valP n) (([] : List (BL × V)))) = .error e5 from HSS.out.2.2]))
              clear hst
              go_wp2_with fail
              rw [HW7.out]
              refine (blank_any rb s (.error e5) W7 H.out.2.2.2.2.1 HE.out.1.2).mono ?_
              rintro e w9 ⟨rfl, hr9, ho9⟩
              have HF := Lib.hid (show ObjGo w rb P s r (valP n) 0 w9 from .inr ⟨e5, rfl, HE.out.1.1.next ho9, hr9, HE.out.2⟩)
              have hgk : 0 < gk := by have := HX.out.2.2.2.2.2; omega
              clear hr9 ho9
              go_wp2_with fail
              go_roundg 0
              case rel => exact HF
              case measure => exact hgk
            | ok q =>
              have hst := HSS.out.1
              unfold ObjAft at hst
              have hfs : hasF (([] : List (BL × V))) nm = false ∧ vst (.ok s') (fieldP2 (valP n) (([] : List (BL × V)))) = .ok (setF (([] : List (BL × V))) nm q.1, q.2) := HSS.out.2.2
              have hless := vst_lessF (val_less n) HN.out.2.2 hfs.2
              have HE := Lib.hid (And.intro hst (And.intro hless (show fieldsP (valP n) (r.length + 1) [] (blankL r) = fieldsP (valP n) f (setF (([] : List (BL × V))) nm q.1) (blankL q.2) by rw [HX.out.2.2.2.1, HSS.out.2.1, hfs.2])))
              clear hst hfs hless
              go_wp2_with fail
              rw [HW7.out]
              refine (blank_any rb s (.ok q.2) W7 H.out.2.2.2.2.1 HE.out.1.2).mono ?_
              rintro e w9 ⟨rfl, hr9, ho9⟩
              have hbl := blank_le q.2
              have hl9 := HE.out.2.1
              have HF := Lib.hid (show ObjGo w rb P s r (valP n) ((blankL q.2).length + 1) w9 from .inl ⟨setF (([] : List (BL × V))) nm q.1, blankL q.2, rfl, HE.out.1.1.next ho9, hr9, ⟨f, by have := HX.out.2.2.1; (try simp only at hl9); omega, HE.out.2.2⟩, by have := HX.out.2.2.2.2.1; rw [setF_len]; (try simp only [List.length_nil] at this); (try simp only [List.length_nil]); (try simp only at hl9); omega⟩)
              have hgk : (blankL q.2).length + 1 < gk := by have := HX.out.2.2.2.2.2; (try simp only at hl9); omega
              clear hr9 ho9 hbl hl9
              go_wp2_with fail
              go_roundg ((blankL q.2).length + 1)
              case rel => exact HF
              case measure => exact hgk
          | none =>
            rw [hfd] at hopt
            obtain ⟨rfl, hb5⟩ := hopt
            have hhas : hasF (([] : List (BL × V))) nm = false := by rw [HGT.out.2, hfd]; rfl
            obtain ⟨W5, hW5⟩ : ∃ W, w5.alloc (.cells #[.int .i64 0, .int .i64 0, .string ⟨#[]⟩, .slice none 0 0, .slice none 0 0] 28) = W := ⟨_, rfl⟩
            have hb55 : Below w4.heap.size w4 W5 := by rw [← hW5]; exact hb5.alloc hb5.size _
            have HW5 := Lib.hid (And.intro hW5 (And.intro hhas (And.intro (HQ.out.2.1.next (Only.ofBelow hb55 _)) (HQ.out.1.2.below hb55))))
            clear hW5 hb55 hhas hb5 hfd 
            have HZ := Lib.hid (And.intro HW5.out.2.2.1 (show RS W5 rb s (hasS (hasF (([] : List (BL × V))) nm) (aftS (txtS (.ok s')))) by rw [HW5.out.2.1]; exact HW5.out.2.2.2))
            go_wp2_with fail
            rw [HW5.out.1]
            refine (blank_any rb s _ W5 H.out.2.2.2.2.1 HZ.out.2).mono ?_
            rintro e w7 ⟨rfl, hr7, ho7⟩
            have HZ7 := Lib.hid (And.intro (HZ.out.1.next ho7) hr7)
            clear hr7 ho7
            go_wp2_with fail
            refine (must_any rb ⟨#[58]⟩ [58] s _ w7 rfl H.out.2.2.2.2.1 HZ7.out.2).mono ?_
            rintro e w8 ⟨rfl, hr8, ho8⟩
            have hG8 := HZ7.out.1.next ho8
            obtain ⟨hb8, op, oc, hN8, hV8⟩ := hG8
            have HN8 := Lib.hid (And.intro hb8 (And.intro hN8 (And.intro hV8 hr8)))
            clear hr8 ho8 hb8 hN8 hV8
            go_wp2_with fail
            have hcall := H.out.2.2.2.2.2.2.1 w8.drew rb s _ H.out.2.2.2.2.1 (HN8.out.2.2.2.only (Only.drew (fun _ => False) w8) (fun e => e)) (H.out.2.2.2.1 w8.drew (HN8.out.1.only.trans (Only.drew _ w8))) H.out.2.2.2.2.2.1
            rw [H.out.2.2.2.2.2.2.2.1] at hcall
            have HC := Lib.hid hcall
            clear hcall
            have hPr : ¬ P + 1 = rb := by have := HN8.out.1.rlt; omega
            refine AnyP.begin (J := fun j => Nat.ble j 5) (S := fun W => Blk W (P + 1) 28 [.int .i64 5, .int .i64 0, .string ⟨#[]⟩, .slice none 0 0, .slice op (([] : List (BL × V))).length oc]) (by kernel_rfl) rfl rfl ?_
            refine AnyP.takeT [1, 2, 3, 4, 5] (by rfl) (i := 0) (v := .agg #[.int .i64 5, .int .i64 0, .string ⟨#[]⟩, .slice none 0 0, .slice op (([] : List (BL × V))).length oc]) rfl rfl (by kernel_rfl) (by kernel_rfl) (by kernel_rfl) (by kernel_rfl) (fun _ _ _ h => h) (by rfl) ?_ HN8.out.2.1.drew ?_
            · intro W hW
              have n0 := hW.cell 0
              have n1 := hW.cell 1
              have n2 := hW.cell 2
              have n3 := hW.cell 3
              have n4 := hW.cell 4
              go_simp
              try (with_reducible rfl)
            simp only [Act.put, List.setIfInBounds_toArray, List.set_cons_zero, List.set_cons_succ]
            refine AnyP.takeP (i := 1) (v := .string T) rfl rfl (by kernel_rfl) (by kernel_rfl) (by kernel_rfl) (fun _ _ _ h => h) (by rfl) ?_ ?_
            · intro W
              go_simp
              try (with_reducible rfl)
            simp only [Act.put, List.setIfInBounds_toArray, List.set_cons_zero, List.set_cons_succ]
            refine AnyP.takeP (i := 2) (v := .pointer (some ⟨rb, 0, none⟩)) rfl rfl (by kernel_rfl) (by kernel_rfl) (by kernel_rfl) (fun _ _ _ h => h) (by rfl) ?_ ?_
            · intro W
              go_simp
              try (with_reducible rfl)
            simp only [Act.put, List.setIfInBounds_toArray, List.set_cons_zero, List.set_cons_succ]
            refine AnyP.takeP (i := 3) (v := .int .i64 d) rfl rfl (by kernel_rfl) (by kernel_rfl) (by kernel_rfl) (fun _ _ _ h => h) (by rfl) ?_ ?_
            · intro W
              go_simp
              try (with_reducible rfl)
            simp only [Act.put, List.setIfInBounds_toArray, List.set_cons_zero, List.set_cons_succ]
            refine AnyP.takeP (i := 4) (v := .int .i64 (d + 1)) rfl rfl (by kernel_rfl) (by kernel_rfl) (by kernel_rfl) (fun _ _ _ h => h) (by rfl) ?_ ?_
            · intro W
              go_simp
              try (with_reducible rfl)
            simp only [Act.put, List.setIfInBounds_toArray, List.set_cons_zero, List.set_cons_succ]
            refine AnyP.oneL (i := 5) (by kernel_rfl) rfl (fun K hK => ?_)
            go_simp
            go_at_call 32
            refine (show Calls _ _ _ _ _ from HC.out).mono ?_
            rintro e w9 ⟨qc, rfl, ⟨q0, q1, q2, q3, q4, q5, q6, q7, q8, rfl⟩, hm9, ho9⟩
            refine hK.out _ _ (fun _ h => h.only ho9 (fun e => hPr e)) ?_
            clear hK K
            (try simp only [Act.put, List.setIfInBounds_toArray, List.set_cons_zero, List.set_cons_succ])
            have ho89 : Only (· = rb) w8 w9 := (Only.drew _ w8).trans ho9
            have hV9 : VAt (ObjS P w9.heap.size) w9 (.obj (([] : List (BL × V)))) [.int .i64 5, .int .i64 0, .string ⟨#[]⟩, .slice none 0 0, .slice op (([] : List (BL × V))).length oc] := by
              refine HN8.out.2.2.1.keep ?_ ?_
              · rintro b ⟨h2, h3⟩
                exact ⟨h2, Nat.lt_of_lt_of_le h3 ho89.size⟩
              · rintro b ⟨h2, h3⟩ k u hu
                exact ho89.cell (fun e => by have e2 : b = rb := e; have := HN8.out.1.rlt; omega) hu
            have hset : Calls Tryz.prog 94 #[.agg #[.int .i64 5, .int .i64 0, .string ⟨#[]⟩, .slice none 0 0, .slice op (([] : List (BL × V))).length oc], .string T, .agg #[.int .i64 q0, .int .i64 q1, .string q2, .slice q3 q4 q5, .slice q6 q7 q8]] w9 (SetPost (ObjS P w9.heap.size) (fun b => w8.heap.size ≤ b ∧ b < w9.heap.size) (([] : List (BL × V))) nm [.int .i64 q0, .int .i64 q1, .string q2, .slice q3 q4 q5, .slice q6 q7 q8] w9) := by
              rw [← HQ.out.2.2]
              cases hV9 with
              | obj l2 cs sl hV hr => exact set_any _ _ _ nm cs op _ oc q0 q1 q2 q3 q6 q4 q5 q7 q8 w9 hV hr (by have := HX.out.2.2.2.2.1; (try simp only [List.length_nil] at this); (try simp only [List.length_nil]); omega)
            have HS := Lib.hid (And.intro hset (And.intro ho89 hm9))
            have hN9 := HN8.out.2.1.only ho89 (fun e => hPr e)
            have HN9 := Lib.hid hN9
            clear hset ho89 hm9 hV9 ho9 hN9
            refine AnyP.oneL (i := 6) (by kernel_rfl) rfl (fun K hK => ?_)
            go_simp
            go_at_call 94
            refine (show Calls _ _ _ _ _ from HS.out.1).mono ?_
            rintro e w10 ⟨p6, n6, c6, rfl, hb10, hset⟩
            refine hK.out _ _ (fun h => by cases h) ?_
            clear hK K
            (try simp only [Act.put, List.setIfInBounds_toArray, List.set_cons_zero, List.set_cons_succ])
            have hN10 := HN9.out.below hb10
            have k0 := hN10.cell 0
            have kf0 := hN10.frozen 0
            have k1 := hN10.cell 1
            have kf1 := hN10.frozen 1
            have k2 := hN10.cell 2
            have kf2 := hN10.frozen 2
            have k3 := hN10.cell 3
            have kf3 := hN10.frozen 3
            have k4 := hN10.cell 4
            have kf4 := hN10.frozen 4
            have HSB := Lib.hid (And.intro hb10 hset)
            clear hb10 hset hN10
            refine AnyP.oneL (i := 7) (by kernel_rfl) rfl (fun K hK => ?_)
            go_simp
            refine hK.out _ _ (fun h => by cases h) ?_
            clear hK K
            (try simp only [Act.put, List.setIfInBounds_toArray, List.set_cons_zero, List.set_cons_succ])
            refine AnyP.done (by kernel_rfl) ?_
            obtain ⟨W7, hW7⟩ : ∃ W, (((((w10.setCell ⟨P + 1, 0, none⟩ (.int .i64 5)).setCell ⟨P + 1, 1, none⟩ (.int .i64 0)).setCell ⟨P + 1, 2, none⟩ (.string ⟨#[]⟩)).setCell ⟨P + 1, 3, none⟩ (.slice none 0 0)).setCell ⟨P + 1, 4, none⟩ (.slice p6 n6 c6)) = W := ⟨_, rfl⟩
            have hfs := field_state (valP n) (([] : List (BL × V))) (.ok s') nm HQ.out.1.1
            obtain ⟨res, hres⟩ : ∃ x, fieldR (valP n) (hasF (([] : List (BL × V))) nm) (aftS (txtS (.ok s'))) = x := ⟨_, rfl⟩
            have hm9 := HS.out.2.2
            rw [show vst (mustS [58] ((hasS (hasF (([] : List (BL × V))) nm) (aftS (txtS (.ok s')))).map blankL)) (valP n) = res from hres] at hm9
            rw [hres] at hfs
            have hst := obj_step (l := (([] : List (BL × V)))) (nm := nm) (w4 := w8) HN8.out.1 HN8.out.2.1 HS.out.2.1 hm9 HSB.out.1 HSB.out.2 (fun q e => by rw [e] at hfs; exact hfs.1) hW7
            have hnone := fields_none (valP n) f (([] : List (BL × V))) s' HI.out.2 (.ok s') HN.out.2.2
            have HW7 := Lib.hid hW7
            have HSS := Lib.hid (And.intro hst (And.intro hnone hfs))
            clear hW7 hfs hst hnone hm9 hres k0 k1 k2 k3 k4 kf0 kf1 kf2 kf3 kf4 m0 m1 m2 m3 m4
            cases res with
            | error e5 =>
              have hst := HSS.out.1
              unfold ObjAft at hst
              have HE := Lib.hid (And.intro hst (show fieldsP (valP n) (r.length + 1) [] (blankL r) = .error e5 by rw [HX.out.2.2.2.1, HSS.out.2.1, show vst (.ok s') (fieldP2 (valP n) (([] : List (BL × V)))) = .error e5 from HSS.out.2.2]))
              clear hst
              go_wp2_with fail
              rw [HW7.out]
              refine (blank_any rb s (.error e5) W7 H.out.2.2.2.2.1 HE.out.1.2).mono ?_
              rintro e w9 ⟨rfl, hr9, ho9⟩
              have HF := Lib.hid (show ObjGo w rb P s r (valP n) 0 w9 from .inr ⟨e5, rfl, HE.out.1.1.next ho9, hr9, HE.out.2⟩)
              have hgk : 0 < gk := by have := HX.out.2.2.2.2.2; omega
              clear hr9 ho9
              go_wp2_with fail
              go_roundg 0
              case rel => exact HF
              case measure => exact hgk
            | ok q =>
              have hst := HSS.out.1
              unfold ObjAft at hst
              have hfs : hasF (([] : List (BL × V))) nm = false ∧ vst (.ok s') (fieldP2 (valP n) (([] : List (BL × V)))) = .ok (setF (([] : List (BL × V))) nm q.1, q.2) := HSS.out.2.2
              have hless := vst_lessF (val_less n) HN.out.2.2 hfs.2
              have HE := Lib.hid (And.intro hst (And.intro hless (show fieldsP (valP n) (r.length + 1) [] (blankL r) = fieldsP (valP n) f (setF (([] : List (BL × V))) nm q.1) (blankL q.2) by rw [HX.out.2.2.2.1, HSS.out.2.1, hfs.2])))
              clear hst hfs hless
              go_wp2_with fail
              rw [HW7.out]
              refine (blank_any rb s (.ok q.2) W7 H.out.2.2.2.2.1 HE.out.1.2).mono ?_
              rintro e w9 ⟨rfl, hr9, ho9⟩
              have hbl := blank_le q.2
              have hl9 := HE.out.2.1
              have HF := Lib.hid (show ObjGo w rb P s r (valP n) ((blankL q.2).length + 1) w9 from .inl ⟨setF (([] : List (BL × V))) nm q.1, blankL q.2, rfl, HE.out.1.1.next ho9, hr9, ⟨f, by have := HX.out.2.2.1; (try simp only at hl9); omega, HE.out.2.2⟩, by have := HX.out.2.2.2.2.1; rw [setF_len]; (try simp only [List.length_nil] at this); (try simp only [List.length_nil]); (try simp only at hl9); omega⟩)
              have hgk : (blankL q.2).length + 1 < gk := by have := HX.out.2.2.2.2.2; (try simp only at hl9); omega
              clear hr9 ho9 hbl hl9
              go_wp2_with fail
              go_roundg ((blankL q.2).length + 1)
              case rel => exact HF
              case measure => exact hgk
        · have hlp := List.length_pos_iff.2 hl0
          have hz : (0 : Int) < (l.length : Int) := by omega
          have hem : l.isEmpty = false := by
            cases l with
            | nil => exact absurd rfl hl0
            | cons _ _ => rfl
          obtain ⟨st, hst⟩ : ∃ st, nextP l.isEmpty s' = st := ⟨_, rfl⟩
          have hmu := must_any rb ⟨#[44]⟩ [44] s (.ok s') w2 rfl H.out.2.2.2.2.1 HY.out.2.2.2
          rw [mustS_next, ← hem, hst] at hmu
          have HMU := Lib.hid (And.intro hmu hst)
          clear hmu hst hem hl0 hlp
          go_wp2_with fail
          refine HMU.out.1.mono ?_
          rintro e w3 ⟨rfl, hr3, ho3⟩
          have HN := Lib.hid (And.intro ((show ObjGood w rb P l w2 from ⟨HY.out.1, _, _, HY.out.2.1, HY.out.2.2.1⟩).next ho3) (And.intro hr3 HMU.out.2))
          clear hr3 ho3 n3 c2
          go_wp2_with fail
          refine (quoted_any rb s (st) w3 H.out.2.2.2.2.1 HN.out.2.1 (H.out.2.2.2.1 w3 HN.out.1.1.only) H.out.2.2.2.2.2.1).mono ?_
          rintro e w4 ⟨T, rfl, hq, ho4⟩
          obtain ⟨nm, hnm⟩ : ∃ nm, T.data.toList = nm := ⟨_, rfl⟩
          have hTn : BA nm = T := by subst hnm; exact ba_list T
          have hqn : (∀ p, txtS (st) = .ok p → nm = p.1) ∧ RS w4 rb s (aftS (txtS (st))) := by
            cases ht : txtS (st) with
            | ok p =>
              rw [ht] at hq
              refine ⟨fun p2 e => ?_, hq.2⟩
              have e2 : p = p2 := by injection e
              rw [← hnm, hq.1, ← e2]
            | error e =>
              rw [ht] at hq
              exact ⟨fun p2 e => (by cases e), hq⟩
          have hG4 := HN.out.1.next ho4
          have HQ := Lib.hid (And.intro hqn (And.intro hG4 hTn))
          obtain ⟨hb4, op4, oc4, hN4, hV4⟩ := hG4
          have hgt := vget_any _ nm _ w4 _ hV4
          rw [hTn] at hgt
          have hhf := hasF_field (l) nm
          have HGT := Lib.hid (And.intro hgt hhf)
          have m0 := hN4.cell 0
          have m1 := hN4.cell 1
          have m2 := hN4.cell 2
          have m3 := hN4.cell 3
          have m4 := hN4.cell 4
          clear hq hqn hgt hhf hnm ho4 hb4 hV4 hTn
          go_wp2_with fail
          refine HGT.out.1.mono ?_
          intro e w5 hopt
          unfold OptV at hopt
          have hge : getP (.obj (l)) nm = fieldP (l) nm := rfl
          rw [hge] at hopt
          clear hge
          cases hfd : fieldP (l) nm with
          | some xv =>
            rw [hfd] at hopt
            obtain ⟨dd, rfl, hxd, hb5⟩ := hopt
            obtain ⟨y0, y1, y2, y3, y4, y5, y6, y7, y8, rfl⟩ := hxd.shape
            have hhas : hasF (l) nm = true := by rw [HGT.out.2, hfd]; rfl
            obtain ⟨W5, hW5⟩ : ∃ W, w5.alloc (.cells #[.int .i64 y0, .int .i64 y1, .string y2, .slice y3 y4 y5, .slice y6 y7 y8] 28) = W := ⟨_, rfl⟩
            have hb55 : Below w4.heap.size w4 W5 := by rw [← hW5]; exact hb5.alloc hb5.size _
            have HW5 := Lib.hid (And.intro hW5 (And.intro hhas (And.intro (HQ.out.2.1.next (Only.ofBelow hb55 _)) (HQ.out.1.2.below hb55))))
            clear hW5 hb55 hhas hb5 hfd hxd
            go_wp2_with fail
            rw [HW5.out.1]
            refine (wrong_any rb s _ 5 (by decide) W5 HW5.out.2.2.2).mono ?_
            rintro e w6 ⟨rfl, hr6, ho6⟩
            have HZ := Lib.hid (And.intro (HW5.out.2.2.1.next ho6) (show RS w6 rb s (hasS (hasF (l) nm) (aftS (txtS (st)))) by rw [HW5.out.2.1]; exact hr6))
            clear hr6 ho6
            go_wp2_with fail
            refine (blank_any rb s _ w6 H.out.2.2.2.2.1 HZ.out.2).mono ?_
            rintro e w7 ⟨rfl, hr7, ho7⟩
            have HZ7 := Lib.hid (And.intro (HZ.out.1.next ho7) hr7)
            clear hr7 ho7
            go_wp2_with fail
            refine (must_any rb ⟨#[58]⟩ [58] s _ w7 rfl H.out.2.2.2.2.1 HZ7.out.2).mono ?_
            rintro e w8 ⟨rfl, hr8, ho8⟩
            have hG8 := HZ7.out.1.next ho8
            obtain ⟨hb8, op, oc, hN8, hV8⟩ := hG8
            have HN8 := Lib.hid (And.intro hb8 (And.intro hN8 (And.intro hV8 hr8)))
            clear hr8 ho8 hb8 hN8 hV8
            go_wp2_with fail
            have hcall := H.out.2.2.2.2.2.2.1 w8.drew rb s _ H.out.2.2.2.2.1 (HN8.out.2.2.2.only (Only.drew (fun _ => False) w8) (fun e => e)) (H.out.2.2.2.1 w8.drew (HN8.out.1.only.trans (Only.drew _ w8))) H.out.2.2.2.2.2.1
            rw [H.out.2.2.2.2.2.2.2.1] at hcall
            have HC := Lib.hid hcall
            clear hcall
            have hPr : ¬ P + 1 = rb := by have := HN8.out.1.rlt; omega
            refine AnyP.begin (J := fun j => Nat.ble j 5) (S := fun W => Blk W (P + 1) 28 [.int .i64 5, .int .i64 0, .string ⟨#[]⟩, .slice none 0 0, .slice op (l).length oc]) (by kernel_rfl) rfl rfl ?_
            refine AnyP.takeT [1, 2, 3, 4, 5] (by rfl) (i := 0) (v := .agg #[.int .i64 5, .int .i64 0, .string ⟨#[]⟩, .slice none 0 0, .slice op (l).length oc]) rfl rfl (by kernel_rfl) (by kernel_rfl) (by kernel_rfl) (by kernel_rfl) (fun _ _ _ h => h) (by rfl) ?_ HN8.out.2.1.drew ?_
            · intro W hW
              have n0 := hW.cell 0
              have n1 := hW.cell 1
              have n2 := hW.cell 2
              have n3 := hW.cell 3
              have n4 := hW.cell 4
              go_simp
              try (with_reducible rfl)
            simp only [Act.put, List.setIfInBounds_toArray, List.set_cons_zero, List.set_cons_succ]
            refine AnyP.takeP (i := 1) (v := .string T) rfl rfl (by kernel_rfl) (by kernel_rfl) (by kernel_rfl) (fun _ _ _ h => h) (by rfl) ?_ ?_
            · intro W
              go_simp
              try (with_reducible rfl)
            simp only [Act.put, List.setIfInBounds_toArray, List.set_cons_zero, List.set_cons_succ]
            refine AnyP.takeP (i := 2) (v := .pointer (some ⟨rb, 0, none⟩)) rfl rfl (by kernel_rfl) (by kernel_rfl) (by kernel_rfl) (fun _ _ _ h => h) (by rfl) ?_ ?_
            · intro W
              go_simp
              try (with_reducible rfl)
            simp only [Act.put, List.setIfInBounds_toArray, List.set_cons_zero, List.set_cons_succ]
            refine AnyP.takeP (i := 3) (v := .int .i64 d) rfl rfl (by kernel_rfl) (by kernel_rfl) (by kernel_rfl) (fun _ _ _ h => h) (by rfl) ?_ ?_
            · intro W
              go_simp
              try (with_reducible rfl)
            simp only [Act.put, List.setIfInBounds_toArray, List.set_cons_zero, List.set_cons_succ]
            refine AnyP.takeP (i := 4) (v := .int .i64 (d + 1)) rfl rfl (by kernel_rfl) (by kernel_rfl) (by kernel_rfl) (fun _ _ _ h => h) (by rfl) ?_ ?_
            · intro W
              go_simp
              try (with_reducible rfl)
            simp only [Act.put, List.setIfInBounds_toArray, List.set_cons_zero, List.set_cons_succ]
            refine AnyP.oneL (i := 5) (by kernel_rfl) rfl (fun K hK => ?_)
            go_simp
            go_at_call 32
            refine (show Calls _ _ _ _ _ from HC.out).mono ?_
            rintro e w9 ⟨qc, rfl, ⟨q0, q1, q2, q3, q4, q5, q6, q7, q8, rfl⟩, hm9, ho9⟩
            refine hK.out _ _ (fun _ h => h.only ho9 (fun e => hPr e)) ?_
            clear hK K
            (try simp only [Act.put, List.setIfInBounds_toArray, List.set_cons_zero, List.set_cons_succ])
            have ho89 : Only (· = rb) w8 w9 := (Only.drew _ w8).trans ho9
            have hV9 : VAt (ObjS P w9.heap.size) w9 (.obj (l)) [.int .i64 5, .int .i64 0, .string ⟨#[]⟩, .slice none 0 0, .slice op (l).length oc] := by
              refine HN8.out.2.2.1.keep ?_ ?_
              · rintro b ⟨h2, h3⟩
                exact ⟨h2, Nat.lt_of_lt_of_le h3 ho89.size⟩
              · rintro b ⟨h2, h3⟩ k u hu
                exact ho89.cell (fun e => by have e2 : b = rb := e; have := HN8.out.1.rlt; omega) hu
            have hset : Calls Tryz.prog 94 #[.agg #[.int .i64 5, .int .i64 0, .string ⟨#[]⟩, .slice none 0 0, .slice op (l).length oc], .string T, .agg #[.int .i64 q0, .int .i64 q1, .string q2, .slice q3 q4 q5, .slice q6 q7 q8]] w9 (SetPost (ObjS P w9.heap.size) (fun b => w8.heap.size ≤ b ∧ b < w9.heap.size) (l) nm [.int .i64 q0, .int .i64 q1, .string q2, .slice q3 q4 q5, .slice q6 q7 q8] w9) := by
              rw [← HQ.out.2.2]
              cases hV9 with
              | obj l2 cs sl hV hr => exact set_any _ _ _ nm cs op _ oc q0 q1 q2 q3 q6 q4 q5 q7 q8 w9 hV hr (by have := HX.out.2.2.2.2.1; (try simp only [List.length_nil] at this); (try simp only [List.length_nil]); omega)
            have HS := Lib.hid (And.intro hset (And.intro ho89 hm9))
            have hN9 := HN8.out.2.1.only ho89 (fun e => hPr e)
            have HN9 := Lib.hid hN9
            clear hset ho89 hm9 hV9 ho9 hN9
            refine AnyP.oneL (i := 6) (by kernel_rfl) rfl (fun K hK => ?_)
            go_simp
            go_at_call 94
            refine (show Calls _ _ _ _ _ from HS.out.1).mono ?_
            rintro e w10 ⟨p6, n6, c6, rfl, hb10, hset⟩
            refine hK.out _ _ (fun h => by cases h) ?_
            clear hK K
            (try simp only [Act.put, List.setIfInBounds_toArray, List.set_cons_zero, List.set_cons_succ])
            have hN10 := HN9.out.below hb10
            have k0 := hN10.cell 0
            have kf0 := hN10.frozen 0
            have k1 := hN10.cell 1
            have kf1 := hN10.frozen 1
            have k2 := hN10.cell 2
            have kf2 := hN10.frozen 2
            have k3 := hN10.cell 3
            have kf3 := hN10.frozen 3
            have k4 := hN10.cell 4
            have kf4 := hN10.frozen 4
            have HSB := Lib.hid (And.intro hb10 hset)
            clear hb10 hset hN10
            refine AnyP.oneL (i := 7) (by kernel_rfl) rfl (fun K hK => ?_)
            go_simp
            refine hK.out _ _ (fun h => by cases h) ?_
            clear hK K
            (try simp only [Act.put, List.setIfInBounds_toArray, List.set_cons_zero, List.set_cons_succ])
            refine AnyP.done (by kernel_rfl) ?_
            obtain ⟨W7, hW7⟩ : ∃ W, (((((w10.setCell ⟨P + 1, 0, none⟩ (.int .i64 5)).setCell ⟨P + 1, 1, none⟩ (.int .i64 0)).setCell ⟨P + 1, 2, none⟩ (.string ⟨#[]⟩)).setCell ⟨P + 1, 3, none⟩ (.slice none 0 0)).setCell ⟨P + 1, 4, none⟩ (.slice p6 n6 c6)) = W := ⟨_, rfl⟩
            have hfs := field_state (valP n) (l) (st) nm HQ.out.1.1
            obtain ⟨res, hres⟩ : ∃ x, fieldR (valP n) (hasF (l) nm) (aftS (txtS (st))) = x := ⟨_, rfl⟩
            have hm9 := HS.out.2.2
            rw [show vst (mustS [58] ((hasS (hasF (l) nm) (aftS (txtS (st)))).map blankL)) (valP n) = res from hres] at hm9
            rw [hres] at hfs
            have hst := obj_step (l := (l)) (nm := nm) (w4 := w8) HN8.out.1 HN8.out.2.1 HS.out.2.1 hm9 HSB.out.1 HSB.out.2 (fun q e => by rw [e] at hfs; exact hfs.1) hW7
            have hnone := fields_none (valP n) f (l) s' HI.out.2 (st) HN.out.2.2
            have HW7 := Lib.hid hW7
            have HSS := Lib.hid (And.intro hst (And.intro hnone hfs))
            clear hW7 hfs hst hnone hm9 hres k0 k1 k2 k3 k4 kf0 kf1 kf2 kf3 kf4 m0 m1 m2 m3 m4
            cases res with
            | error e5 =>
              have hst := HSS.out.1
              unfold ObjAft at hst
              have HE := Lib.hid (And.intro hst (show fieldsP (valP n) (r.length + 1) [] (blankL r) = .error e5 by rw [HX.out.2.2.2.1, HSS.out.2.1, show vst (st) (fieldP2 (valP n) (l)) = .error e5 from HSS.out.2.2]))
              clear hst
              go_wp2_with fail
              rw [HW7.out]
              refine (blank_any rb s (.error e5) W7 H.out.2.2.2.2.1 HE.out.1.2).mono ?_
              rintro e w9 ⟨rfl, hr9, ho9⟩
              have HF := Lib.hid (show ObjGo w rb P s r (valP n) 0 w9 from .inr ⟨e5, rfl, HE.out.1.1.next ho9, hr9, HE.out.2⟩)
              have hgk : 0 < gk := by have := HX.out.2.2.2.2.2; omega
              clear hr9 ho9
              go_wp2_with fail
              go_roundg 0
              case rel => exact HF
              case measure => exact hgk
            | ok q =>
              have hst := HSS.out.1
              unfold ObjAft at hst
              have hfs : hasF (l) nm = false ∧ vst (st) (fieldP2 (valP n) (l)) = .ok (setF (l) nm q.1, q.2) := HSS.out.2.2
              have hless := vst_lessF (val_less n) HN.out.2.2 hfs.2
              have HE := Lib.hid (And.intro hst (And.intro hless (show fieldsP (valP n) (r.length + 1) [] (blankL r) = fieldsP (valP n) f (setF (l) nm q.1) (blankL q.2) by rw [HX.out.2.2.2.1, HSS.out.2.1, hfs.2])))
              clear hst hfs hless
              go_wp2_with fail
              rw [HW7.out]
              refine (blank_any rb s (.ok q.2) W7 H.out.2.2.2.2.1 HE.out.1.2).mono ?_
              rintro e w9 ⟨rfl, hr9, ho9⟩
              have hbl := blank_le q.2
              have hl9 := HE.out.2.1
              have HF := Lib.hid (show ObjGo w rb P s r (valP n) ((blankL q.2).length + 1) w9 from .inl ⟨setF (l) nm q.1, blankL q.2, rfl, HE.out.1.1.next ho9, hr9, ⟨f, by have := HX.out.2.2.1; (try simp only at hl9); omega, HE.out.2.2⟩, by have := HX.out.2.2.2.2.1; rw [setF_len]; (try simp only [List.length_nil] at this); (try simp only [List.length_nil]); (try simp only at hl9); omega⟩)
              have hgk : (blankL q.2).length + 1 < gk := by have := HX.out.2.2.2.2.2; (try simp only at hl9); omega
              clear hr9 ho9 hbl hl9
              go_wp2_with fail
              go_roundg ((blankL q.2).length + 1)
              case rel => exact HF
              case measure => exact hgk
          | none =>
            rw [hfd] at hopt
            obtain ⟨rfl, hb5⟩ := hopt
            have hhas : hasF (l) nm = false := by rw [HGT.out.2, hfd]; rfl
            obtain ⟨W5, hW5⟩ : ∃ W, w5.alloc (.cells #[.int .i64 0, .int .i64 0, .string ⟨#[]⟩, .slice none 0 0, .slice none 0 0] 28) = W := ⟨_, rfl⟩
            have hb55 : Below w4.heap.size w4 W5 := by rw [← hW5]; exact hb5.alloc hb5.size _
            have HW5 := Lib.hid (And.intro hW5 (And.intro hhas (And.intro (HQ.out.2.1.next (Only.ofBelow hb55 _)) (HQ.out.1.2.below hb55))))
            clear hW5 hb55 hhas hb5 hfd 
            have HZ := Lib.hid (And.intro HW5.out.2.2.1 (show RS W5 rb s (hasS (hasF (l) nm) (aftS (txtS (st)))) by rw [HW5.out.2.1]; exact HW5.out.2.2.2))
            go_wp2_with fail
            rw [HW5.out.1]
            refine (blank_any rb s _ W5 H.out.2.2.2.2.1 HZ.out.2).mono ?_
            rintro e w7 ⟨rfl, hr7, ho7⟩
            have HZ7 := Lib.hid (And.intro (HZ.out.1.next ho7) hr7)
            clear hr7 ho7
            go_wp2_with fail
            refine (must_any rb ⟨#[58]⟩ [58] s _ w7 rfl H.out.2.2.2.2.1 HZ7.out.2).mono ?_
            rintro e w8 ⟨rfl, hr8, ho8⟩
            have hG8 := HZ7.out.1.next ho8
            obtain ⟨hb8, op, oc, hN8, hV8⟩ := hG8
            have HN8 := Lib.hid (And.intro hb8 (And.intro hN8 (And.intro hV8 hr8)))
            clear hr8 ho8 hb8 hN8 hV8
            go_wp2_with fail
            have hcall := H.out.2.2.2.2.2.2.1 w8.drew rb s _ H.out.2.2.2.2.1 (HN8.out.2.2.2.only (Only.drew (fun _ => False) w8) (fun e => e)) (H.out.2.2.2.1 w8.drew (HN8.out.1.only.trans (Only.drew _ w8))) H.out.2.2.2.2.2.1
            rw [H.out.2.2.2.2.2.2.2.1] at hcall
            have HC := Lib.hid hcall
            clear hcall
            have hPr : ¬ P + 1 = rb := by have := HN8.out.1.rlt; omega
            refine AnyP.begin (J := fun j => Nat.ble j 5) (S := fun W => Blk W (P + 1) 28 [.int .i64 5, .int .i64 0, .string ⟨#[]⟩, .slice none 0 0, .slice op (l).length oc]) (by kernel_rfl) rfl rfl ?_
            refine AnyP.takeT [1, 2, 3, 4, 5] (by rfl) (i := 0) (v := .agg #[.int .i64 5, .int .i64 0, .string ⟨#[]⟩, .slice none 0 0, .slice op (l).length oc]) rfl rfl (by kernel_rfl) (by kernel_rfl) (by kernel_rfl) (by kernel_rfl) (fun _ _ _ h => h) (by rfl) ?_ HN8.out.2.1.drew ?_
            · intro W hW
              have n0 := hW.cell 0
              have n1 := hW.cell 1
              have n2 := hW.cell 2
              have n3 := hW.cell 3
              have n4 := hW.cell 4
              go_simp
              try (with_reducible rfl)
            simp only [Act.put, List.setIfInBounds_toArray, List.set_cons_zero, List.set_cons_succ]
            refine AnyP.takeP (i := 1) (v := .string T) rfl rfl (by kernel_rfl) (by kernel_rfl) (by kernel_rfl) (fun _ _ _ h => h) (by rfl) ?_ ?_
            · intro W
              go_simp
              try (with_reducible rfl)
            simp only [Act.put, List.setIfInBounds_toArray, List.set_cons_zero, List.set_cons_succ]
            refine AnyP.takeP (i := 2) (v := .pointer (some ⟨rb, 0, none⟩)) rfl rfl (by kernel_rfl) (by kernel_rfl) (by kernel_rfl) (fun _ _ _ h => h) (by rfl) ?_ ?_
            · intro W
              go_simp
              try (with_reducible rfl)
            simp only [Act.put, List.setIfInBounds_toArray, List.set_cons_zero, List.set_cons_succ]
            refine AnyP.takeP (i := 3) (v := .int .i64 d) rfl rfl (by kernel_rfl) (by kernel_rfl) (by kernel_rfl) (fun _ _ _ h => h) (by rfl) ?_ ?_
            · intro W
              go_simp
              try (with_reducible rfl)
            simp only [Act.put, List.setIfInBounds_toArray, List.set_cons_zero, List.set_cons_succ]
            refine AnyP.takeP (i := 4) (v := .int .i64 (d + 1)) rfl rfl (by kernel_rfl) (by kernel_rfl) (by kernel_rfl) (fun _ _ _ h => h) (by rfl) ?_ ?_
            · intro W
              go_simp
              try (with_reducible rfl)
            simp only [Act.put, List.setIfInBounds_toArray, List.set_cons_zero, List.set_cons_succ]
            refine AnyP.oneL (i := 5) (by kernel_rfl) rfl (fun K hK => ?_)
            go_simp
            go_at_call 32
            refine (show Calls _ _ _ _ _ from HC.out).mono ?_
            rintro e w9 ⟨qc, rfl, ⟨q0, q1, q2, q3, q4, q5, q6, q7, q8, rfl⟩, hm9, ho9⟩
            refine hK.out _ _ (fun _ h => h.only ho9 (fun e => hPr e)) ?_
            clear hK K
            (try simp only [Act.put, List.setIfInBounds_toArray, List.set_cons_zero, List.set_cons_succ])
            have ho89 : Only (· = rb) w8 w9 := (Only.drew _ w8).trans ho9
            have hV9 : VAt (ObjS P w9.heap.size) w9 (.obj (l)) [.int .i64 5, .int .i64 0, .string ⟨#[]⟩, .slice none 0 0, .slice op (l).length oc] := by
              refine HN8.out.2.2.1.keep ?_ ?_
              · rintro b ⟨h2, h3⟩
                exact ⟨h2, Nat.lt_of_lt_of_le h3 ho89.size⟩
              · rintro b ⟨h2, h3⟩ k u hu
                exact ho89.cell (fun e => by have e2 : b = rb := e; have := HN8.out.1.rlt; omega) hu
            have hset : Calls Tryz.prog 94 #[.agg #[.int .i64 5, .int .i64 0, .string ⟨#[]⟩, .slice none 0 0, .slice op (l).length oc], .string T, .agg #[.int .i64 q0, .int .i64 q1, .string q2, .slice q3 q4 q5, .slice q6 q7 q8]] w9 (SetPost (ObjS P w9.heap.size) (fun b => w8.heap.size ≤ b ∧ b < w9.heap.size) (l) nm [.int .i64 q0, .int .i64 q1, .string q2, .slice q3 q4 q5, .slice q6 q7 q8] w9) := by
              rw [← HQ.out.2.2]
              cases hV9 with
              | obj l2 cs sl hV hr => exact set_any _ _ _ nm cs op _ oc q0 q1 q2 q3 q6 q4 q5 q7 q8 w9 hV hr (by have := HX.out.2.2.2.2.1; (try simp only [List.length_nil] at this); (try simp only [List.length_nil]); omega)
            have HS := Lib.hid (And.intro hset (And.intro ho89 hm9))
            have hN9 := HN8.out.2.1.only ho89 (fun e => hPr e)
            have HN9 := Lib.hid hN9
            clear hset ho89 hm9 hV9 ho9 hN9
            refine AnyP.oneL (i := 6) (by kernel_rfl) rfl (fun K hK => ?_)
            go_simp
            go_at_call 94
            refine (show Calls _ _ _ _ _ from HS.out.1).mono ?_
            rintro e w10 ⟨p6, n6, c6, rfl, hb10, hset⟩
            refine hK.out _ _ (fun h => by cases h) ?_
            clear hK K
            (try simp only [Act.put, List.setIfInBounds_toArray, List.set_cons_zero, List.set_cons_succ])
            have hN10 := HN9.out.below hb10
            have k0 := hN10.cell 0
            have kf0 := hN10.frozen 0
            have k1 := hN10.cell 1
            have kf1 := hN10.frozen 1
            have k2 := hN10.cell 2
            have kf2 := hN10.frozen 2
            have k3 := hN10.cell 3
            have kf3 := hN10.frozen 3
            have k4 := hN10.cell 4
            have kf4 := hN10.frozen 4
            have HSB := Lib.hid (And.intro hb10 hset)
            clear hb10 hset hN10
            refine AnyP.oneL (i := 7) (by kernel_rfl) rfl (fun K hK => ?_)
            go_simp
            refine hK.out _ _ (fun h => by cases h) ?_
            clear hK K
            (try simp only [Act.put, List.setIfInBounds_toArray, List.set_cons_zero, List.set_cons_succ])
            refine AnyP.done (by kernel_rfl) ?_
            obtain ⟨W7, hW7⟩ : ∃ W, (((((w10.setCell ⟨P + 1, 0, none⟩ (.int .i64 5)).setCell ⟨P + 1, 1, none⟩ (.int .i64 0)).setCell ⟨P + 1, 2, none⟩ (.string ⟨#[]⟩)).setCell ⟨P + 1, 3, none⟩ (.slice none 0 0)).setCell ⟨P + 1, 4, none⟩ (.slice p6 n6 c6)) = W := ⟨_, rfl⟩
            have hfs := field_state (valP n) (l) (st) nm HQ.out.1.1
            obtain ⟨res, hres⟩ : ∃ x, fieldR (valP n) (hasF (l) nm) (aftS (txtS (st))) = x := ⟨_, rfl⟩
            have hm9 := HS.out.2.2
            rw [show vst (mustS [58] ((hasS (hasF (l) nm) (aftS (txtS (st)))).map blankL)) (valP n) = res from hres] at hm9
            rw [hres] at hfs
            have hst := obj_step (l := (l)) (nm := nm) (w4 := w8) HN8.out.1 HN8.out.2.1 HS.out.2.1 hm9 HSB.out.1 HSB.out.2 (fun q e => by rw [e] at hfs; exact hfs.1) hW7
            have hnone := fields_none (valP n) f (l) s' HI.out.2 (st) HN.out.2.2
            have HW7 := Lib.hid hW7
            have HSS := Lib.hid (And.intro hst (And.intro hnone hfs))
            clear hW7 hfs hst hnone hm9 hres k0 k1 k2 k3 k4 kf0 kf1 kf2 kf3 kf4 m0 m1 m2 m3 m4
            cases res with
            | error e5 =>
              have hst := HSS.out.1
              unfold ObjAft at hst
              have HE := Lib.hid (And.intro hst (show fieldsP (valP n) (r.length + 1) [] (blankL r) = .error e5 by rw [HX.out.2.2.2.1, HSS.out.2.1, show vst (st) (fieldP2 (valP n) (l)) = .error e5 from HSS.out.2.2]))
              clear hst
              go_wp2_with fail
              rw [HW7.out]
              refine (blank_any rb s (.error e5) W7 H.out.2.2.2.2.1 HE.out.1.2).mono ?_
              rintro e w9 ⟨rfl, hr9, ho9⟩
              have HF := Lib.hid (show ObjGo w rb P s r (valP n) 0 w9 from .inr ⟨e5, rfl, HE.out.1.1.next ho9, hr9, HE.out.2⟩)
              have hgk : 0 < gk := by have := HX.out.2.2.2.2.2; omega
              clear hr9 ho9
              go_wp2_with fail
              go_roundg 0
              case rel => exact HF
              case measure => exact hgk
            | ok q =>
              have hst := HSS.out.1
              unfold ObjAft at hst
              have hfs : hasF (l) nm = false ∧ vst (st) (fieldP2 (valP n) (l)) = .ok (setF (l) nm q.1, q.2) := HSS.out.2.2
              have hless := vst_lessF (val_less n) HN.out.2.2 hfs.2
              have HE := Lib.hid (And.intro hst (And.intro hless (show fieldsP (valP n) (r.length + 1) [] (blankL r) = fieldsP (valP n) f (setF (l) nm q.1) (blankL q.2) by rw [HX.out.2.2.2.1, HSS.out.2.1, hfs.2])))
              clear hst hfs hless
              go_wp2_with fail
              rw [HW7.out]
              refine (blank_any rb s (.ok q.2) W7 H.out.2.2.2.2.1 HE.out.1.2).mono ?_
              rintro e w9 ⟨rfl, hr9, ho9⟩
              have hbl := blank_le q.2
              have hl9 := HE.out.2.1
              have HF := Lib.hid (show ObjGo w rb P s r (valP n) ((blankL q.2).length + 1) w9 from .inl ⟨setF (l) nm q.1, blankL q.2, rfl, HE.out.1.1.next ho9, hr9, ⟨f, by have := HX.out.2.2.1; (try simp only at hl9); omega, HE.out.2.2⟩, by have := HX.out.2.2.2.2.1; rw [setF_len]; (try simp only [List.length_nil] at this); (try simp only [List.length_nil]); (try simp only at hl9); omega⟩)
              have hgk : (blankL q.2).length + 1 < gk := by have := HX.out.2.2.2.2.2; (try simp only at hl9); omega
              clear hr9 ho9 hbl hl9
              go_wp2_with fail
              go_roundg ((blankL q.2).length + 1)
              case rel => exact HF
              case measure => exact hgk
    · -- something was wrong
      have his := is_any rb ⟨#[125]⟩ [125] s (.error e0) wr rfl H.out.2.2.2.2.1 hR
      rw [show isB [125] (.error e0) = false from rfl, show isS [125] (.error e0) = .error e0 from rfl] at his
      have hres : objP (valP n) r = .error e0 := by unfold objP; rw [hit]
      have HI := Lib.hid (And.intro his (And.intro hres hB))
      clear his hres hB hrel hR hit hg
      go_wp2_with fail
      refine HI.out.1.mono ?_
      rintro e w2 ⟨rfl, hr2, ho2⟩
      obtain ⟨hc0, k2, hk2, hB2⟩ := hr2
      have c2 := Blk.cell hB2 2
      have hz0 : ((e0 : Int) == 0) = false := beq_eq_false_iff_ne.2 (by omega)
      have hz1 : ¬ (e0 : Int) = 0 := by omega
      obtain ⟨hb, p, cnt, c, hN⟩ := HI.out.2.2.next ho2
      have hm : MRes (fun b => P < b ∧ b < w2.heap.size) w2 rb s (objP (valP n) r) [.int .i64 5, .int .i64 0, .string ⟨#[]⟩, .slice none 0 0, .slice p cnt c] := by rw [HI.out.2.1]; exact ⟨hc0, k2, hk2, hB2⟩
      obtain ⟨W5, hW5⟩ : ∃ W5, (((((w2.setCell ⟨P, 0, none⟩ (.int .i64 5)).setCell ⟨P, 1, none⟩ (.int .i64 0)).setCell ⟨P, 2, none⟩ (.string ⟨#[]⟩)).setCell ⟨P, 3, none⟩ (.slice none 0 0)).setCell ⟨P, 4, none⟩ (.slice p cnt c)) = W5 := ⟨_, rfl⟩
      have HF := Lib.hid (And.intro hW5 (cell_end H.out.2.2.2.2.2.2.2.2.1 hb.rlt hb.res hb.only ⟨_, _, _, _, _, _, _, _, _, rfl⟩ hm hW5))
      have r0 := hb.res.cell 0
      have f0 := hb.res.frozen 0
      have g0 := hN.cell 0
      have r1 := hb.res.cell 1
      have f1 := hb.res.frozen 1
      have g1 := hN.cell 1
      have r2 := hb.res.cell 2
      have f2 := hb.res.frozen 2
      have g2 := hN.cell 2
      have r3 := hb.res.cell 3
      have f3 := hb.res.frozen 3
      have g3 := hN.cell 3
      have r4 := hb.res.cell 4
      have f4 := hb.res.frozen 4
      have g4 := hN.cell 4
      clear hW5 hb hN hm hB2 hk2 hc0 ho2
      go_wp2
      (try rw [HF.out.1])
      (try simp only [Exit.inBlock, Exit.then])
      refine bodyPost_ret ?_ rfl HF.out.2.2
      exact results_cell_row rfl _ W5 P 28 _ (0, 0) _ rfl HF.out.2.1 Tryz.underlying28 rfl (by kernel_rfl)
end Go.Proofs.YtccnfnoonpfdfaaGreatDoor
