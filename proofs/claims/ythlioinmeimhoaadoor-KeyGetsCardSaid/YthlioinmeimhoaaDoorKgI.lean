/- The key reader's many, for an object (printed by wip/gen_kgobj.py). -/
import Derived.Test.YthlioinmeimhoaaDoorKgH
namespace Go.Proofs.YthlioinmeimhoaaDoor
open Go.Shelf Go.RowKit Go.Lib

theorem rfieldsL_zero (rec : BL → Option (V × BL)) (f : Nat) (t : BL) : rfieldsL rec (f + 1) (0 :: t) = some ([], t) := by rw [rfieldsL, if_pos rfl]
theorem rfieldsL_step (rec : BL → Option (V × BL)) (f : Nat) (s : BL) (hs : ∀ t, s ≠ 0 :: t) : rfieldsL rec (f + 1) s = (rfieldL rec s).bind fun p => (rfieldsL rec f p.2).map fun q => (p.1 :: q.1, q.2) := by
  cases s with
  | nil => rw [rfieldsL]; rfl
  | cons c t =>
    rw [rfieldsL, if_neg (fun e => hs t (by rw [e]))]
    cases rfieldL rec (c :: t) <;> rfl
theorem rfieldL_none (s : BL) : rfieldL (recL 0) s = none := by
  cases s with
  | nil => rfl
  | cons c t =>
    rw [rfieldL]
    split
    · cases rtextL t <;> rfl
    · rfl
theorem rfieldL_less {n : Nat} {s : BL} {p : (BL × V) × BL} (h : rfieldL (recL n) s = some p) : p.2.length + 1 ≤ s.length := by
  obtain ⟨e, _⟩ := rfieldL_key (recL_key n) s p.1.1 p.1.2 p.2 h
  rw [e, List.length_append, fieldL_eq, List.length_cons]
  omega

theorem ObjGood.bad {w0 wr : World} {rb P N : Nat} {d : Int} {l : List (BL × V)} (h : ObjGood w0 rb P N d l wr) : ObjBad w0 rb P N d wr := by
  obtain ⟨hb, ov, cs, hN, hr, _⟩ := h
  obtain ⟨p, c, rfl⟩ := slice_of_own hr
  exact ⟨hb, _, _, _, hN⟩
theorem ObjBad.next {w0 wr w2 : World} {rb P N : Nat} {d : Int} (h : ObjBad w0 rb P N d wr) (ho : Only (fun k => k = rb) wr w2) : ObjBad w0 rb P N d w2 := by
  obtain ⟨hb, p, n, c, hN⟩ := h
  exact ⟨hb.next ho (fun _ _ e => e), p, n, c, hN.only ho (fun e => by have := hb.rlt; have := hb.nge; omega)⟩
def ManyObj (w0 : World) (rb P N : Nat) (d : Int) (res : Option (List (BL × V) × BL)) (e : Ending) (w' : World) : Prop := e = .returned (.tuple #[]) ∧ (match res with | some p => ObjGood w0 rb P N d p.1 w' ∧ RS w' rb (some p.2) | none => ObjBad w0 rb P N d w' ∧ RS w' rb none)
def ObjGo (w0 : World) (rb P N : Nat) (d : Int) (n : Nat) (s : BL) (gk : Nat) (wr : World) : Prop := ∃ (l : List (BL × V)) (st : Option BL), gk = (match st with | some s' => s'.length + 1 | none => 0) ∧
  (match st with
    | some s' => ObjGood w0 rb P N d l wr ∧ RS wr rb (some s') ∧ (∃ f, s'.length < f ∧ rfieldsL (recL n) (s.length + 1) s = (rfieldsL (recL n) f s').map fun p => (l ++ p.1, p.2)) ∧ l.length + s'.length ≤ s.length
    | none => ObjBad w0 rb P N d wr ∧ RS wr rb none ∧ rfieldsL (recL n) (s.length + 1) s = none)

set_option maxHeartbeats 8000000 in
set_option maxRecDepth 100000 in
theorem many_obj (n : Nat) (hn : n ≤ 15) (w0 wr : World) (rb P N : Nat) (d : Int) (s : BL) (hd : d = 16 - (n : Int)) (hG : ObjGood w0 rb P N d [] wr) (hR : RS wr rb (some s)) (hs : s.length ≤ 1000000)
    (hone : ∀ (l : List (BL × V)) (t : BL) (W : World), n ≠ 0 → ObjGood w0 rb P N d l W → RS W rb (some t) → l.length + t.length ≤ 1000000 →
      Calls Tryd.prog 65 #[.pointer (some ⟨P, 0, none⟩), .pointer (some ⟨N, 0, none⟩), .pointer (some ⟨P + 1, 0, none⟩)] W (OneObj w0 rb P N d l (rfieldL (recL n) t))) :
    Calls Tryd.prog 63 #[.pointer (some ⟨rb, 0, none⟩), .int .i64 d, .func (.func 65) #[] #[.pointer (some ⟨P, 0, none⟩), .pointer (some ⟨N, 0, none⟩), .pointer (some ⟨P + 1, 0, none⟩)]] wr (ManyObj w0 rb P N d (rfieldsL (recL n) (s.length + 1) s)) := by
  have h0 : ObjGo w0 rb P N d n s (s.length + 1) wr := ⟨[], some s, rfl, hG, hR, ⟨s.length + 1, by omega, by cases rfieldsL (recL n) (s.length + 1) s <;> rfl⟩, by simp⟩
  have H := Lib.hid (And.intro h0 (And.intro hone hs))
  have HD := Lib.hid hd
  clear h0 hG hR hone hs hd
  go_enter Tryd.func63, Tryd.ntmps63
  go_wp2_with fail
  go_loopg [] (s.length + 1) (fun gk wr => Hid (ObjGo w0 rb P N d n s gk wr))
  case atStart => exact Lib.hid H.out.1
  case round =>
    obtain ⟨l, st, hg, hi⟩ := hrel.out
    clear hrel
    cases st with
    | none =>
      obtain ⟨hB, hr, hl⟩ := hi
      have HX := Lib.hid (And.intro hB (And.intro hr hl))
      obtain ⟨t, hr⟩ := hr
      have c1 := hr.cell 1
      clear hr hB hl hg
      go_wp2
      go_end0
      exact ⟨rfl, by rw [HX.out.2.2]; exact ⟨HX.out.1, HX.out.2.1⟩⟩
    | some s' =>
      obtain ⟨hA, hr, ⟨f, hf, hl⟩, hle⟩ := hi
      have HX := Lib.hid (And.intro hA (And.intro hr (And.intro hf (And.intro hl hle))))
      have c1 := Blk.cell hr 1
      have f1 := Blk.frozen hr 1
      obtain ⟨f, rfl⟩ : ∃ g, f = g + 1 := ⟨f - 1, by omega⟩
      clear hA hr hf hl hle
      by_cases hz : ∃ t, s' = 0 :: t
      · obtain ⟨t, rfl⟩ := hz
        go_wp2_with fail
        refine (is_yes rb ⟨#[0]⟩ [0] t wr rfl HX.out.2.1).mono ?_
        rintro e w2 ⟨rfl, hr2, ho2⟩
        have HF := Lib.hid (And.intro (HX.out.1.next ho2) hr2)
        clear hr2 ho2 c1 f1 hg
        go_wp2
        go_end0
        refine ⟨rfl, ?_⟩
        rw [HX.out.2.2.2.1, rfieldsL_zero]
        show ObjGood w0 rb P N d (l ++ []) _ ∧ _
        rw [List.append_nil]
        exact HF.out
      · have hz' : ∀ t, s' ≠ 0 :: t := fun t e => hz ⟨t, e⟩
        go_wp2_with fail
        refine (is_no rb ⟨#[0]⟩ s' wr (noprefix hz') HX.out.2.1).mono ?_
        rintro e w2 ⟨rfl, rfl⟩
        have hst := rfieldsL_step (recL n) f s' hz'
        have HS := Lib.hid (And.intro hst hg)
        clear hst hz hz' hg
        by_cases hn0 : n = 0
        · have hd16 : d = 16 := by have := HD.out; omega
          have hrec : rfieldL (recL n) s' = none := by rw [hn0]; exact rfieldL_none s'
          have hr5 : Blk (w2.setCell ⟨rb, 1, none⟩ (.bool true)) rb 78 [.string (BA s'), .bool true] := Blk.set HX.out.2.1 1 (.bool true)
          have HF := Lib.hid (And.intro (HX.out.1.bad.next (Only.set1 w2 rb 1 (.bool true))) (And.intro hr5 hrec))
          clear hr5 hrec hn0
          subst hd16
          go_wp2
          go_end0
          refine ⟨rfl, ?_⟩
          rw [HX.out.2.2.2.1, HS.out.1, HF.out.2.2]
          exact ⟨HF.out.1, _, HF.out.2.1⟩
        · have hd16 : d < 16 := by have := HD.out; omega
          have hd17 : ¬ 16 ≤ d := by omega
          go_wp2_with fail
          refine (H.out.2.1 l s' _ hn0 HX.out.1 HX.out.2.1 (by have := HX.out.2.2.2.2; have := H.out.2.2; omega)).mono ?_
          rintro e w3 ⟨rfl, hm⟩
          obtain ⟨res, hres⟩ : ∃ r, rfieldL (recL n) s' = r := ⟨_, rfl⟩
          rw [hres] at hm
          cases res with
          | none =>
            have HF := Lib.hid (show ObjGo w0 rb P N d n s 0 w3 from ⟨l, none, rfl, hm.1, hm.2, by rw [HX.out.2.2.2.1, HS.out.1, hres]; rfl⟩)
            have hgk : 0 < gk := by have := HS.out.2; rw [this]; simp
            clear hm hres c1 f1
            go_wp2
            go_roundg 0
            case rel => exact HF
            case measure => exact hgk
          | some p =>
            have hlt := rfieldL_less hres
            have HF := Lib.hid (show ObjGo w0 rb P N d n s (p.2.length + 1) w3 from ⟨l ++ [p.1], some p.2, rfl, hm.1, hm.2, ⟨f, by have := HX.out.2.2.1; omega, by
              rw [HX.out.2.2.2.1, HS.out.1, hres]
              show ((rfieldsL (recL n) f p.2).map _).map _ = _
              cases rfieldsL (recL n) f p.2 <;> simp⟩, by rw [List.length_append]; have := HX.out.2.2.2.2; show l.length + 1 + _ ≤ _; omega⟩)
            have hgk : p.2.length + 1 < gk := by have := HS.out.2; rw [this]; show _ < s'.length + 1; omega
            clear hm hres c1 f1 hlt
            go_wp2
            go_roundg (p.2.length + 1)
            case rel => exact HF
            case measure => exact hgk
end Go.Proofs.YthlioinmeimhoaaDoor
