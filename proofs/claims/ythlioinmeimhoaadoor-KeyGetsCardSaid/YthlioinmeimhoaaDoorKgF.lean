/- The key reader's many, for a list. -/
import Derived.Test.YthlioinmeimhoaaDoorKgE
namespace Go.Proofs.YthlioinmeimhoaaDoor
open Go.Shelf Go.RowKit Go.Lib

theorem rlistL_zero (rec : BL → Option (V × BL)) (f : Nat) (t : BL) : rlistL rec (f + 1) (0 :: t) = some ([], t) := by rw [rlistL, if_pos rfl]
theorem rlistL_step (rec : BL → Option (V × BL)) (h0 : rec [] = none) (f : Nat) (s : BL) (hs : ∀ t, s ≠ 0 :: t) : rlistL rec (f + 1) s = (rec s).bind fun p => (rlistL rec f p.2).map fun q => (p.1 :: q.1, q.2) := by
  cases s with
  | nil => rw [rlistL, h0]; rfl
  | cons c t =>
    rw [rlistL, if_neg (fun e => hs t (by rw [e]))]
    cases rec (c :: t) <;> rfl
theorem recL_nil : ∀ n, recL n [] = none
  | 0 => rfl
  | n + 1 => by rw [recL, rvalueL_rec]; rfl
theorem recL_key : ∀ n, RKey (recL n)
  | 0 => fun _ _ _ h => by cases h
  | n + 1 => rvalueL_key n
theorem recL_less {n : Nat} {s : BL} {p : V × BL} (h : recL n s = some p) : p.2.length + 1 ≤ s.length := by
  obtain ⟨e, _⟩ := recL_key n s p.1 p.2 h
  rw [e, List.length_append]
  have := keyL_one p.1
  omega
theorem noprefix {s : BL} (hs : ∀ t, s ≠ 0 :: t) : Lib.hasPrefix s [0] = false := by
  cases hp : Lib.hasPrefix s [0] with
  | false => rfl
  | true =>
    obtain ⟨x, hx⟩ := List.isPrefixOf_iff_prefix.mp (show ([0] : BL).isPrefixOf s = true from hp)
    exact absurd hx.symm (hs x)

theorem ListGood.bad {w0 wr : World} {rb P N : Nat} {d : Int} {l : List V} (h : ListGood w0 rb P N d l wr) : ListBad w0 rb P N d wr := by
  obtain ⟨hb, ov, cs, hN, hr, _⟩ := h
  obtain ⟨p, c, rfl⟩ := slice_of_own hr
  exact ⟨hb, _, _, _, hN⟩
theorem ListBad.next {w0 wr w2 : World} {rb P N : Nat} {d : Int} (h : ListBad w0 rb P N d wr) (ho : Only (fun k => k = rb) wr w2) : ListBad w0 rb P N d w2 := by
  obtain ⟨hb, p, n, c, hN⟩ := h
  exact ⟨hb.next ho (fun _ _ e => e), p, n, c, hN.only ho (fun e => by have := hb.rlt; have := hb.nge; omega)⟩
theorem ListGood.next {w0 wr w2 : World} {rb P N : Nat} {d : Int} {l : List V} (h : ListGood w0 rb P N d l wr) (ho : Only (fun k => k = rb) wr w2) : ListGood w0 rb P N d l w2 := by
  obtain ⟨hb, ov, cs, hN, hr, hv⟩ := h
  have h1 := hb.rlt
  have h2 := hb.nge
  refine ⟨hb.next ho (fun _ _ e => e), ov, cs, hN.only ho (fun e => by omega), own_only hr ho (fun k hk e => by omega), hv.keep (fun b hb => ⟨hb.1, hb.2.1, Nat.lt_of_lt_of_le hb.2.2 ho.size⟩) (fun b hb k u hu => ho.cell (fun e => by have e2 : b = rb := e; have := hb.2.1; omega) hu)⟩

def ManyList (w0 : World) (rb P N : Nat) (d : Int) (res : Option (List V × BL)) (e : Ending) (w' : World) : Prop := e = .returned (.tuple #[]) ∧ (match res with | some p => ListGood w0 rb P N d p.1 w' ∧ RS w' rb (some p.2) | none => ListBad w0 rb P N d w' ∧ RS w' rb none)
def ListGo (w0 : World) (rb P N : Nat) (d : Int) (n : Nat) (s : BL) (gk : Nat) (wr : World) : Prop := ∃ (l : List V) (st : Option BL), gk = (match st with | some s' => s'.length + 1 | none => 0) ∧
  (match st with
    | some s' => ListGood w0 rb P N d l wr ∧ RS wr rb (some s') ∧ (∃ f, s'.length < f ∧ rlistL (recL n) (s.length + 1) s = (rlistL (recL n) f s').map fun p => (l ++ p.1, p.2)) ∧ l.length + s'.length ≤ s.length
    | none => ListBad w0 rb P N d wr ∧ RS wr rb none ∧ rlistL (recL n) (s.length + 1) s = none)

set_option maxHeartbeats 8000000 in
set_option maxRecDepth 100000 in
theorem many_list (n : Nat) (hn : n ≤ 15) (w0 wr : World) (rb P N : Nat) (d : Int) (s : BL) (hd : d = 16 - (n : Int)) (hG : ListGood w0 rb P N d [] wr) (hR : RS wr rb (some s)) (hs : s.length ≤ 1000000)
    (hone : ∀ (l : List V) (t : BL) (W : World), n ≠ 0 → ListGood w0 rb P N d l W → RS W rb (some t) → l.length + t.length ≤ 1000000 →
      Calls Tryd.prog 64 #[.pointer (some ⟨N, 0, none⟩), .pointer (some ⟨P, 0, none⟩), .pointer (some ⟨P + 1, 0, none⟩)] W (OneList w0 rb P N d l (recL n t))) :
    Calls Tryd.prog 63 #[.pointer (some ⟨rb, 0, none⟩), .int .i64 d, .func (.func 64) #[] #[.pointer (some ⟨N, 0, none⟩), .pointer (some ⟨P, 0, none⟩), .pointer (some ⟨P + 1, 0, none⟩)]] wr (ManyList w0 rb P N d (rlistL (recL n) (s.length + 1) s)) := by
  have h0 : ListGo w0 rb P N d n s (s.length + 1) wr := ⟨[], some s, rfl, hG, hR, ⟨s.length + 1, by omega, by cases rlistL (recL n) (s.length + 1) s <;> rfl⟩, by simp⟩
  have H := Lib.hid (And.intro h0 (And.intro hone hs))
  have HD := Lib.hid hd
  clear h0 hG hR hone hs hd
  go_enter Tryd.func63, Tryd.ntmps63
  go_wp2_with fail
  go_loopg [] (s.length + 1) (fun gk wr => Hid (ListGo w0 rb P N d n s gk wr))
  case atStart => exact Lib.hid H.out.1
  case round =>
    obtain ⟨l, st, hg, hi⟩ := hrel.out
    clear hrel
    cases st with
    | none =>
      obtain ⟨hB, hr, hl⟩ := hi
      have HX := Lib.hid (And.intro hB (And.intro hr hl))
      obtain ⟨t, hr⟩ := hr
      have c1 := hr.cell 1
      clear hr hB hl hg
      go_wp2
      go_end0
      exact ⟨rfl, by rw [HX.out.2.2]; exact ⟨HX.out.1, HX.out.2.1⟩⟩
    | some s' =>
      obtain ⟨hA, hr, ⟨f, hf, hl⟩, hle⟩ := hi
      have HX := Lib.hid (And.intro hA (And.intro hr (And.intro hf (And.intro hl hle))))
      have c1 := Blk.cell hr 1
      have f1 := Blk.frozen hr 1
      obtain ⟨f, rfl⟩ : ∃ g, f = g + 1 := ⟨f - 1, by omega⟩
      clear hA hr hf hl hle
      by_cases hz : ∃ t, s' = 0 :: t
      · obtain ⟨t, rfl⟩ := hz
        go_wp2_with fail
        refine (is_yes rb ⟨#[0]⟩ [0] t wr rfl HX.out.2.1).mono ?_
        rintro e w2 ⟨rfl, hr2, ho2⟩
        have HF := Lib.hid (And.intro (HX.out.1.next ho2) hr2)
        clear hr2 ho2 c1 f1 hg
        go_wp2
        go_end0
        refine ⟨rfl, ?_⟩
        rw [HX.out.2.2.2.1, rlistL_zero]
        show ListGood w0 rb P N d (l ++ []) _ ∧ _
        rw [List.append_nil]
        exact HF.out
      · have hz' : ∀ t, s' ≠ 0 :: t := fun t e => hz ⟨t, e⟩
        go_wp2_with fail
        refine (is_no rb ⟨#[0]⟩ s' wr (noprefix hz') HX.out.2.1).mono ?_
        rintro e w2 ⟨rfl, rfl⟩
        have hst := rlistL_step (recL n) (recL_nil n) f s' hz'
        have HS := Lib.hid (And.intro hst hg)
        clear hst hz hz' hg
        by_cases hn0 : n = 0
        · have hd16 : d = 16 := by have := HD.out; omega
          have hrec : recL n s' = none := by rw [hn0]; rfl
          have hr5 : Blk (w2.setCell ⟨rb, 1, none⟩ (.bool true)) rb 78 [.string (BA s'), .bool true] := Blk.set HX.out.2.1 1 (.bool true)
          have HF := Lib.hid (And.intro (HX.out.1.bad.next (Only.set1 w2 rb 1 (.bool true))) (And.intro hr5 hrec))
          clear hr5 hrec hn0
          subst hd16
          go_wp2
          go_end0
          refine ⟨rfl, ?_⟩
          rw [HX.out.2.2.2.1, HS.out.1, HF.out.2.2]
          exact ⟨HF.out.1, _, HF.out.2.1⟩
        · have hd16 : d < 16 := by have := HD.out; omega
          have hd17 : ¬ 16 ≤ d := by omega
          go_wp2_with fail
          refine (H.out.2.1 l s' _ hn0 HX.out.1 HX.out.2.1 (by have := HX.out.2.2.2.2; have := H.out.2.2; omega)).mono ?_
          rintro e w3 ⟨rfl, hm⟩
          obtain ⟨res, hres⟩ : ∃ r, recL n s' = r := ⟨_, rfl⟩
          rw [hres] at hm
          cases res with
          | none =>
            have HF := Lib.hid (show ListGo w0 rb P N d n s 0 w3 from ⟨l, none, rfl, hm.1, hm.2, by rw [HX.out.2.2.2.1, HS.out.1, hres]; rfl⟩)
            have hgk : 0 < gk := by have := HS.out.2; rw [this]; simp
            clear hm hres c1 f1
            go_wp2
            go_roundg 0
            case rel => exact HF
            case measure => exact hgk
          | some p =>
            have hlt := recL_less hres
            have HF := Lib.hid (show ListGo w0 rb P N d n s (p.2.length + 1) w3 from ⟨l ++ [p.1], some p.2, rfl, hm.1, hm.2, ⟨f, by have := HX.out.2.2.1; omega, by
              rw [HX.out.2.2.2.1, HS.out.1, hres]
              show ((rlistL (recL n) f p.2).map _).map _ = _
              cases rlistL (recL n) f p.2 <;> simp⟩, by rw [List.length_append]; have := HX.out.2.2.2.2; show l.length + 1 + _ ≤ _; omega⟩)
            have hgk : p.2.length + 1 < gk := by have := HS.out.2; rw [this]; show _ < s'.length + 1; omega
            clear hm hres c1 f1 hlt
            go_wp2
            go_roundg (p.2.length + 1)
            case rel => exact HF
            case measure => exact hgk
end Go.Proofs.YthlioinmeimhoaaDoor
