/- The key reader's text. -/
import Derived.Test.YthlioinmeimhoaaDoorKgA
namespace Go.Proofs.YthlioinmeimhoaaDoor
open Go.Shelf Go.RowKit Go.Lib

theorem Only.ofBelow' {B : Nat} {w w2 : World} (h : Below B w w2) : Only (fun k => B ≤ k) w w2 :=
  ⟨h.os, h.tape, h.output, h.size, fun k _ hS => h.block k (by omega)⟩
theorem own_only {S : Nat → Prop} {w w2 : World} {B size n : Nat} {e : TypeId} {v : Value} {xs : List Value} (h : w.ownsRow B e size v n xs) (ho : Only S w w2) (hS : ∀ k, B ≤ k → ¬ S k) : w2.ownsRow B e size v n xs := by
  obtain ⟨hl, h⟩ := h
  refine ⟨hl, ?_⟩
  rcases h with h | ⟨g, cap, cur, hv, hg, hh, r⟩
  · exact .inl h
  · exact .inr ⟨g, cap, cur, hv, hg, (ho.block g (lt_of_block hh) (hS g hg)).trans hh, r⟩
theorem own_onlyF {S : Nat → Prop} {w w2 : World} {B size n : Nat} {e : TypeId} {v : Value} {xs : List Value} (h : w.ownsRowF B e size v n xs) (ho : Only S w w2) (hS : ∀ k, B ≤ k → ¬ S k) : w2.ownsRowF B e size v n xs := by
  obtain ⟨hl, h⟩ := h
  refine ⟨hl, ?_⟩
  rcases h with h | ⟨g, cap, cur, fz, hv, hg, hh, r⟩
  · exact .inl h
  · exact .inr ⟨g, cap, cur, fz, hv, hg, (ho.block g (lt_of_block hh) (hS g hg)).trans hh, r⟩
theorem BH.only {S : Nat → Prop} {B b : Nat} {l : BL} {w w2 : World} (h : BH B b l w) (ho : Only S w w2) (hS : ∀ k, B ≤ k → ¬ S k) : BH B b l w2 := by
  have key : ∀ p, Lib.BuilderAtF 66 5 B b p (Lib.byteCells l) w → Lib.BuilderAtF 66 5 B b p (Lib.byteCells l) w2 := by
    rintro p ⟨hB, v, hbk, hown, hne⟩
    have hlt := lt_of_block hbk
    exact ⟨hB, v, (ho.block b hlt (hS b hB)).trans hbk, own_onlyF hown ho hS, hne⟩
  rcases h with h | h
  · exact .inl (key _ h)
  · exact .inr (key _ h)

theorem rtextL_cons (c : UInt8) (t : BL) (h : c ≠ 0) : rtextL (c :: t) = (rtextL t).map fun p => (c :: p.1, p.2) := by
  cases t with
  | nil => simp [rtextL]
  | cons d t => rw [rtextL, if_neg h]
theorem rtextL_zero (t : BL) (h1 : ∀ r, t ≠ 1 :: r) (h2 : ∀ r, t ≠ 255 :: r) : rtextL (0 :: t) = none := by
  cases t with
  | nil => simp [rtextL]
  | cons d t =>
    rw [rtextL, if_pos rfl, if_neg (fun e => h1 t (by rw [e])), if_neg (fun e => h2 t (by rw [e]))]

/-- what the loop of the reader's text has found when so much is read. -/
def TextInv (s acc : BL) (st : Option BL) : Prop := match st with
  | some r => rtextL s = (rtextL r).map (fun p => (acc ++ p.1, p.2)) ∧ acc.length + r.length ≤ s.length
  | none => rtextL s = none ∧ acc.length ≤ s.length

def TextGo (w : World) (rb P : Nat) (s : BL) (gk : Nat) (wr : World) : Prop :=
  ∃ (acc : BL) (st : Option BL), gk = (match st with | some r => r.length + 1 | none => 0) ∧ TextInv s acc st ∧ BH P P acc wr ∧ RS wr rb st ∧ Only (fun k => k = rb) w wr ∧ P + 1 ≤ wr.heap.size

/-- what the reader's text comes to. -/
def TextPost (w : World) (rb : Nat) (s : BL) (e : Ending) (w' : World) : Prop := ∃ t, e = .returned (.string t) ∧ (match rtextL s with | some p => t = BA p.1 ∧ RS w' rb (some p.2) | none => RS w' rb none) ∧ Only (fun k => k = rb) w w'

set_option maxHeartbeats 8000000 in
set_option maxRecDepth 100000 in
theorem rtext_any (rb : Nat) (s : BL) (w : World) (hs : s.length ≤ 1000000) (hR : RS w rb (some s)) :
    Calls Tryd.prog 62 #[.pointer (some ⟨rb, 0, none⟩)] w (TextPost w rb s) := by
  obtain ⟨P, hP⟩ : ∃ P, w.heap.size = P := ⟨_, rfl⟩
  have hlt := hR.lt
  have h0 : TextGo w rb P s (s.length + 1) (w.alloc (.cells #[.pointer none, .slice none 0 0] 66)) := by
    refine ⟨[], some s, rfl, ⟨?_, by simp⟩, ?_, hR.alloc _, Only.alloc _ _ _, by simp; omega⟩
    · cases rtextL s <;> rfl
    · rw [← hP]; exact Lib.IsBuilderF.of (Lib.fresh_isBuilder _ _ w)
  have H0 := Lib.hid (And.intro h0 (And.intro hP (And.intro hs (show rb < P by omega))))
  clear h0 hs hR
  rw [hP] at hlt
  go_enter Tryd.func62, Tryd.ntmps62
  go_wp2_with fail
  (try rw [hP])
  clear hP
  go_loopg [] (s.length + 1) (fun gk wr => Hid (TextGo w rb P s gk wr))
  case atStart => exact Lib.hid H0.out.1
  case round =>
    obtain ⟨acc, st, hg, hi, hb, hr, ho, hz⟩ := hrel.out
    have HI := Lib.hid (And.intro hi (And.intro hb (And.intro hr (And.intro ho hz))))
    clear hi hb ho hz hrel
    cases st with
    | none =>
      obtain ⟨t, hr⟩ := hr
      have c1 := hr.cell 1
      clear hr
      go_wp2_with fail
      refine (bh_get P P acc wr HI.out.2.1 (by have := HI.out.2.2.2.2; omega)).mono ?_
      rintro e w2 ⟨rfl, hb2⟩
      have hr2 : RS w2 rb none := by
        obtain ⟨t, hr⟩ := HI.out.2.2.1
        exact ⟨t, (hb2.block rb hlt).trans hr⟩
      have ho2 : Only (fun k => k = rb) w w2 := HI.out.2.2.2.1.trans' (Only.ofBelow' hb2) (fun i hi h => by have := H0.out.2.1; omega)
      have HF := Lib.hid (And.intro hr2 ho2)
      clear hb2 hr2 ho2 c1
      go_wp2
      go_ret
      refine ⟨BA acc, rfl, ?_, HF.out.2⟩
      rw [HI.out.1.1]
      exact HF.out.1
    | some r =>
      have c1 := Blk.cell hr 1
      have hmm : acc.length ≤ 1000000 := by have := HI.out.1.2; have := H0.out.2.2.1; omega
      have HM := Lib.hid hmm
      clear hr hmm
      -- the loop's end
      by_cases hA : ∃ r1, r = 0 :: 1 :: r1
      · obtain ⟨r1, hA⟩ := hA
        subst hA
        go_wp2_with fail
        refine (is_yes rb ⟨#[0, 1]⟩ [0, 1] r1 wr rfl HI.out.2.2.1).mono ?_
        rintro e w2 ⟨rfl, hr2, ho2⟩
        have hb2 := HI.out.2.1.only ho2 (fun k hk e => by omega)
        have hz2 : P ≤ w2.heap.size := by have := HI.out.2.2.2.2; have := ho2.size; omega
        have ho3 := HI.out.2.2.2.1.trans ho2
        have HX := Lib.hid (And.intro hr2 (And.intro hb2 (And.intro hz2 ho3)))
        clear hr2 ho2 hb2 hz2 ho3 c1
        go_wp2_with fail
        refine (bh_get P P acc w2 HX.out.2.1 HX.out.2.2.1).mono ?_
        rintro e w3 ⟨rfl, hb3⟩
        have hr3 : RS w3 rb (some r1) := (hb3.block rb hlt).trans HX.out.1
        have ho3 : Only (fun k => k = rb) w w3 := HX.out.2.2.2.trans' (Only.ofBelow' hb3) (fun i hi h => by have := H0.out.2.1; omega)
        have HF := Lib.hid (And.intro hr3 ho3)
        clear hb3 hr3 ho3
        go_wp2
        go_ret
        refine ⟨BA acc, rfl, ?_, HF.out.2⟩
        rw [HI.out.1.1, show rtextL (0 :: 1 :: r1) = some ([], r1) by rw [rtextL, if_pos rfl, if_pos rfl]]
        exact ⟨by simp, HF.out.1⟩
      · have hpA : Lib.hasPrefix r [0, 1] = false := by
          cases hp : Lib.hasPrefix r [0, 1] with
          | false => rfl
          | true =>
            obtain ⟨x, hx⟩ := List.isPrefixOf_iff_prefix.mp (show ([0, 1] : BL).isPrefixOf r = true from hp)
            exact absurd ⟨x, hx.symm⟩ hA
        go_wp2_with fail
        refine (is_no rb ⟨#[0, 1]⟩ r wr hpA HI.out.2.2.1).mono ?_
        rintro e w2 ⟨rfl, rfl⟩
        clear hpA
        by_cases hB : ∃ r1, r = 0 :: 255 :: r1
        · obtain ⟨r1, hB⟩ := hB
          subst hB
          go_wp2_with fail
          refine (is_yes rb ⟨#[0, 255]⟩ [0, 255] r1 _ rfl HI.out.2.2.1).mono ?_
          rintro e w3 ⟨rfl, hr3, ho3⟩
          have hb3 := HI.out.2.1.only ho3 (fun k hk e => by omega)
          have hz3 : P + 1 ≤ w3.heap.size := by have := HI.out.2.2.2.2; have := ho3.size; omega
          have ho4 := HI.out.2.2.2.1.trans ho3
          have HX := Lib.hid (And.intro hr3 (And.intro hb3 (And.intro hz3 ho4)))
          clear hr3 ho3 hb3 hz3 ho4 c1 hA
          go_wp2_with fail
          refine (bh_str P P acc ⟨#[0]⟩ w3 HX.out.2.1 (by have := HM.out; show acc.length + 1 ≤ _; omega) (by have := HX.out.2.2.1; omega)).mono ?_
          rintro e w4 ⟨rfl, hb4, hbl⟩
          have hr4 : RS w4 rb (some r1) := (hbl.block rb hlt).trans HX.out.1
          have ho4 : Only (fun k => k = rb) w w4 := HX.out.2.2.2.trans' (Only.ofBelow' hbl) (fun i hi h => by have := H0.out.2.1; omega)
          have hz4 : P + 1 ≤ w4.heap.size := by have := HX.out.2.2.1; have := hbl.size; omega
          have HF := Lib.hid (show TextGo w rb P s (r1.length + 1) w4 from ⟨acc ++ [0], some r1, rfl, ⟨by
            rw [HI.out.1.1, show rtextL (0 :: 255 :: r1) = (rtextL r1).map (fun p => (0 :: p.1, p.2)) by rw [rtextL, if_pos rfl, if_neg (by decide), if_pos rfl]]
            cases rtextL r1 <;> simp, by have := HI.out.1.2; simp at this ⊢; omega⟩, hb4, hr4, ho4, hz4⟩)
          have hgk : r1.length + 1 < gk := by rw [hg]; simp
          clear hb4 hbl hr4 ho4 hz4 hg
          go_wp2
          go_roundg (r1.length + 1)
          case rel => exact HF
          case measure => exact hgk
        · have hpB : Lib.hasPrefix r [0, 255] = false := by
            cases hp : Lib.hasPrefix r [0, 255] with
            | false => rfl
            | true =>
              obtain ⟨x, hx⟩ := List.isPrefixOf_iff_prefix.mp (show ([0, 255] : BL).isPrefixOf r = true from hp)
              exact absurd ⟨x, hx.symm⟩ hB
          go_wp2_with fail
          refine (is_no rb ⟨#[0, 255]⟩ r _ hpB HI.out.2.2.1).mono ?_
          rintro e w3 ⟨rfl, rfl⟩
          clear hpB
          cases r with
          | nil =>
            go_wp2_with fail
            refine (take_short rb 1 [] _ HI.out.2.2.1 (by simp)).mono ?_
            rintro e w4 ⟨rfl, hr4, ho4⟩
            obtain ⟨t4, hr4⟩ := hr4
            have hb4 := HI.out.2.1.only ho4 (fun k hk e => by omega)
            have hz4 : P + 1 ≤ w4.heap.size := by have := HI.out.2.2.2.2; have := ho4.size; omega
            have ho5 := HI.out.2.2.2.1.trans ho4
            have d1 := hr4.cell 1
            have f1 := hr4.frozen 1
            have hr5 := hr4.set 1 (.bool true)
            have ho6 := Only.set1 w4 rb 1 (.bool true)
            have HX := Lib.hid (And.intro (show Blk (w4.setCell ⟨rb, 1, none⟩ (.bool true)) rb 78 [.string t4, .bool true] from hr5) (And.intro (hb4.only ho6 (fun k hk e => by omega)) (And.intro (show P + 1 ≤ (w4.setCell ⟨rb, 1, none⟩ (.bool true)).heap.size by simp; omega) (ho5.trans ho6))))
            clear hr4 ho4 hb4 hz4 ho5 hr5 ho6 c1 hA hB
            go_wp2_with fail
            refine (bh_str P P acc ⟨#[]⟩ _ HX.out.2.1 (by have := HM.out; show acc.length + 0 ≤ _; omega) (by have := HX.out.2.2.1; omega)).mono ?_
            rintro e w5 ⟨rfl, hb5, hbl⟩
            have hr6 : RS w5 rb none := ⟨t4, (hbl.block rb hlt).trans HX.out.1⟩
            have ho6 : Only (fun k => k = rb) w w5 := HX.out.2.2.2.trans' (Only.ofBelow' hbl) (fun i hi h => by have := H0.out.2.1; omega)
            have hz6 : P + 1 ≤ w5.heap.size := by have := HX.out.2.2.1; have := hbl.size; omega
            have HF := Lib.hid (show TextGo w rb P s 0 w5 from ⟨acc ++ [], none, rfl, ⟨by rw [HI.out.1.1]; rfl, by have := HI.out.1.2; simp at this ⊢; omega⟩, hb5, hr6, ho6, hz6⟩)
            have hgk : 0 < gk := by rw [hg]; simp
            clear hb5 hbl hr6 ho6 hz6 hg d1 f1
            go_wp2
            go_roundg 0
            case rel => exact HF
            case measure => exact hgk
          | cons c r1 =>
            go_wp2_with fail
            refine (take_some rb 1 (c :: r1) _ HI.out.2.2.1 (by simp)).mono ?_
            rintro e w4 ⟨rfl, hr4, ho4⟩
            rw [show (c :: r1).take 1 = [c] from rfl]
            rw [show (c :: r1).drop 1 = r1 from rfl] at hr4
            have hb4 := HI.out.2.1.only ho4 (fun k hk e => by omega)
            have hz4 : P + 1 ≤ w4.heap.size := by have := HI.out.2.2.2.2; have := ho4.size; omega
            have ho5 := HI.out.2.2.2.1.trans ho4
            have d1 := Blk.cell hr4 1
            have f1 := Blk.frozen hr4 1
            by_cases hc : c = 0
            · have hcc : ((BA [c]).toList == [0]) = true := by rw [ba_tlx, hc]; rfl
              have hr5 : Blk (w4.setCell ⟨rb, 1, none⟩ (.bool true)) rb 78 [.string (BA r1), .bool true] := Blk.set hr4 1 (.bool true)
              have ho6 := Only.set1 w4 rb 1 (.bool true)
              have hnone : rtextL (c :: r1) = none := by
                rw [hc]
                exact rtextL_zero r1 (fun x hx => hA ⟨x, by rw [hc, hx]⟩) (fun x hx => hB ⟨x, by rw [hc, hx]⟩)
              have HX := Lib.hid (And.intro hr5 (And.intro (hb4.only ho6 (fun k hk e => by omega)) (And.intro (show P + 1 ≤ (w4.setCell ⟨rb, 1, none⟩ (.bool true)).heap.size by simp; omega) (And.intro (ho5.trans ho6) hnone))))
              obtain ⟨C, hC⟩ : ∃ C, BA [c] = C := ⟨_, rfl⟩
              rw [hC] at hcc ⊢
              have HC := Lib.hid hC
              clear hr4 ho4 hb4 hz4 ho5 hr5 ho6 c1 hA hB hnone hC hc
              go_wp2_with fail
              refine (bh_str P P acc C _ HX.out.2.1 (by rw [← HC.out]; have := HM.out; show acc.length + 1 ≤ _; omega) (by have := HX.out.2.2.1; omega)).mono ?_
              rintro e w5 ⟨rfl, hb5, hbl⟩
              have hr6 : RS w5 rb none := ⟨_, (hbl.block rb hlt).trans HX.out.1⟩
              have ho6 : Only (fun k => k = rb) w w5 := HX.out.2.2.2.1.trans' (Only.ofBelow' hbl) (fun i hi h => by have := H0.out.2.1; omega)
              have hz6 : P + 1 ≤ w5.heap.size := by have := HX.out.2.2.1; have := hbl.size; omega
              rw [← HC.out] at hb5
              have HF := Lib.hid (show TextGo w rb P s 0 w5 from ⟨acc ++ [c], none, rfl, ⟨by rw [HI.out.1.1, HX.out.2.2.2.2]; rfl, by have := HI.out.1.2; simp at this ⊢; omega⟩, hb5, hr6, ho6, hz6⟩)
              have hgk : 0 < gk := by rw [hg]; simp
              clear hb5 hbl hr6 ho6 hz6 hg d1 f1
              go_wp2
              go_roundg 0
              case rel => exact HF
              case measure => exact hgk
            · have hcc : ((BA [c]).toList == [0]) = false := by rw [ba_tlx]; simpa using hc
              have hr5 : Blk (w4.setCell ⟨rb, 1, none⟩ (.bool false)) rb 78 [.string (BA r1), .bool false] := Blk.set hr4 1 (.bool false)
              have ho6 := Only.set1 w4 rb 1 (.bool false)
              have HX := Lib.hid (And.intro hr5 (And.intro (hb4.only ho6 (fun k hk e => by omega)) (And.intro (show P + 1 ≤ (w4.setCell ⟨rb, 1, none⟩ (.bool false)).heap.size by simp; omega) (And.intro (ho5.trans ho6) (rtextL_cons c r1 hc)))))
              obtain ⟨C, hC⟩ : ∃ C, BA [c] = C := ⟨_, rfl⟩
              rw [hC] at hcc ⊢
              have HC := Lib.hid hC
              clear hr4 ho4 hb4 hz4 ho5 hr5 ho6 c1 hA hB hC hc
              go_wp2_with fail
              refine (bh_str P P acc C _ HX.out.2.1 (by rw [← HC.out]; have := HM.out; show acc.length + 1 ≤ _; omega) (by have := HX.out.2.2.1; omega)).mono ?_
              rintro e w5 ⟨rfl, hb5, hbl⟩
              have hr6 : RS w5 rb (some r1) := (hbl.block rb hlt).trans HX.out.1
              have ho6 : Only (fun k => k = rb) w w5 := HX.out.2.2.2.1.trans' (Only.ofBelow' hbl) (fun i hi h => by have := H0.out.2.1; omega)
              have hz6 : P + 1 ≤ w5.heap.size := by have := HX.out.2.2.1; have := hbl.size; omega
              rw [← HC.out] at hb5
              have HF := Lib.hid (show TextGo w rb P s (r1.length + 1) w5 from ⟨acc ++ [c], some r1, rfl, ⟨by
                rw [HI.out.1.1, HX.out.2.2.2.2]
                cases rtextL r1 <;> simp, by have := HI.out.1.2; simp at this ⊢; omega⟩, hb5, hr6, ho6, hz6⟩)
              have hgk : r1.length + 1 < gk := by rw [hg]; simp
              clear hb5 hbl hr6 ho6 hz6 hg d1 f1
              go_wp2
              go_roundg (r1.length + 1)
              case rel => exact HF
              case measure => exact hgk
end Go.Proofs.YthlioinmeimhoaaDoor
