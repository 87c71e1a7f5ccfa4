/- value.Get: the field of a name. -/
import Derived.Test.YtecnjifincahaaaGreatDoorIxP
namespace Go.Proofs.YtecnjifincahaaaGreatDoor
open Go.Shelf Go.RowKit Go.Lib

def idxP : List (BL × V) → BL → Nat → Option Nat
  | [], _, _ => none
  | f :: l, p, i => if f.1 = p then some i else idxP l p (i + 1)
theorem idxP_field : ∀ (l : List (BL × V)) (p : BL) (i : Nat), fieldP l p = (idxP l p i).bind fun k => (l[k - i]?).map (·.2)
  | [], p, i => rfl
  | f :: l, p, i => by
    unfold fieldP idxP
    by_cases h : f.1 = p
    · simp [h]
    · rw [if_neg h, if_neg h, idxP_field l p (i + 1)]
      cases hk : idxP l p (i + 1) with
      | none => rfl
      | some k =>
        have hle : i + 1 ≤ k := by
          clear h
          revert hk
          generalize i + 1 = j
          intro hk
          induction l generalizing j with
          | nil => simp [idxP] at hk
          | cons g l ih =>
            unfold idxP at hk
            split at hk
            · have := Option.some.inj hk; omega
            · have := ih (j + 1) hk; omega
        simp only [Option.bind_some]
        rw [show k - i = (k - (i + 1)) + 1 by omega, List.getElem?_cons_succ]
theorem idxP_drop (l : List (BL × V)) (p : BL) (i : Nat) (h : i < l.length) : idxP (l.drop i) p i = if l[i].1 = p then some i else idxP (l.drop (i + 1)) p (i + 1) := by
  rw [List.drop_eq_getElem_cons h, idxP]
theorem idxP_lt : ∀ (l : List (BL × V)) (p : BL) (i k : Nat), idxP l p i = some k → i ≤ k ∧ k < i + l.length
  | [], p, i, k, h => by simp [idxP] at h
  | f :: l, p, i, k, h => by
    unfold idxP at h
    split at h
    · have := Option.some.inj h; simp; omega
    · have := idxP_lt l p (i + 1) k h; simp; omega
def idxI : Option Nat → Int
  | some k => k
  | none => -1

set_option maxHeartbeats 1000000 in
set_option maxRecDepth 100000 in
theorem isname_any (NX NM : ByteArray) (q0 q1 : Int) (q2 : ByteArray) (q3 : Option Addr) (q4 q5 : Nat) (q6 : Option Addr) (q7 q8 : Nat) (pb : Nat) (w : World) (hp : w.cell? ⟨pb, 0, none⟩ = some (.string NM)) :
    Calls Tryz.prog 124 #[.agg #[.string NX, .int .i64 q0, .int .i64 q1, .string q2, .slice q3 q4 q5, .slice q6 q7 q8], .pointer (some ⟨pb, 0, none⟩)] w fun e w' => e = .returned (.bool (NX.toList == NM.toList)) ∧ Below w.heap.size w w' := by
  have hp2 := bcell ((Below.refl w.heap.size w).alloc (Nat.le_refl _) (.cells #[.string NX, .int .i64 q0, .int .i64 q1, .string q2, .slice q3 q4 q5, .slice q6 q7 q8] 72)) hp
  go_enter Tryz.func124, Tryz.ntmps124
  go_wp2
  go_ret
  exact ⟨by first | rfl | simp, (Below.refl _ w).alloc (Nat.le_refl _) _⟩
theorem bytes_eq (a b : BL) : ((BA a).toList == (BA b).toList) = decide (a = b) := by
  rw [Lib.toList_data, Lib.toList_data]
  by_cases h : a = b
  · simp [h]
  · simp [h]

set_option maxHeartbeats 4000000 in
set_option maxRecDepth 100000 in
theorem fidx_any (l : List (BL × V)) (cs : List Value) (p : Option Addr) (cap pb : Nat) (nm : BL) (S : Nat → Prop) (w : World) (hV : FsAt S w l cs) (hr : 0 < l.length → ∃ b, p = some ⟨b, 0, none⟩ ∧ ∀ k u, cs[k]? = some u → w.cell? ⟨b, k, none⟩ = some u) (hln : l.length ≤ 9223372036854775807) (hp : w.cell? ⟨pb, 0, none⟩ = some (.string (BA nm))) :
    Calls Tryz.prog 123 #[.slice p l.length cap, .func (.func 124) #[] #[.pointer (some ⟨pb, 0, none⟩)]] w fun e w' => e = .returned (.int .i64 (idxI (idxP l nm 0))) ∧ Below w.heap.size w w' := by
  have HV := Lib.hid (And.intro hV (And.intro hr hp))
  clear hV hr hp
  obtain ⟨N1, hN1⟩ : ∃ N, l.length = N := ⟨_, rfl⟩
  rw [hN1] at hln
  rw [hN1]
  have H0 := Lib.hid hN1
  clear hN1
  go_enter Tryz.func123, Tryz.ntmps123
  go_wp2_with fail
  go_loopg [8] N1 (fun gk iv wr => ∃ (i : Nat), gk + i = N1 ∧ iv = .int .i64 i ∧ Hid (idxP l nm 0 = idxP (l.drop i) nm i) ∧ Hid (Below w.heap.size w wr))
  case atStart => exact ⟨0, Nat.add_zero _, rfl, Lib.hid rfl, Lib.hid (Below.refl _ _)⟩
  case round =>
    obtain ⟨i, hg, rfl, HC, HB⟩ := hrel
    by_cases hi : i < N1
    · have hiz : (i : Int) < (N1 : Int) := by omega
      have hwK : IntKind.i64.wrap ((i : Int) + 1) = ((i + 1 : Nat) : Int) := by rw [IntWalk.i64_in _ (by omega)]; omega
      have hx1 : i < l.length := by rw [H0.out]; exact hi
      obtain ⟨b, hpe, hrb⟩ := HV.out.2.1 (by omega)
      subst hpe
      obtain ⟨d0, d1, d2, d3, d4, hx, e5, e0, e1, e2, e3, e4⟩ := HV.out.1.get i hx1
      obtain ⟨q0, q1, q2, q3, q4, q5, q6, q7, q8, hq⟩ := hx.shape
      simp only [List.cons.injEq, and_true] at hq
      obtain ⟨rfl, rfl, rfl, rfl, rfl⟩ := hq
      obtain ⟨nx, hnx⟩ : ∃ n, l[i].1 = n := ⟨_, rfl⟩
      obtain ⟨NX, hNX⟩ : ∃ n, BA nx = n := ⟨_, rfl⟩
      rw [hnx, hNX] at e5
      have a5 := bcell HB.out (hrb _ _ e5)
      have a0 := bcell HB.out (hrb _ _ e0)
      have a1 := bcell HB.out (hrb _ _ e1)
      have a2 := bcell HB.out (hrb _ _ e2)
      have a3 := bcell HB.out (hrb _ _ e3)
      have a4 := bcell HB.out (hrb _ _ e4)
      have hnext := idxP_drop l nm i hx1
      rw [hnx] at hnext
      have HN := Lib.hid (And.intro (HC.out.trans hnext) hNX)
      clear hx e5 e0 e1 e2 e3 e4 hrb hnext hnx hNX
      go_wp2_with fail
      have hcall := isname_any NX (BA nm) q0 q1 q2 q3 q4 q5 q6 q7 q8 pb _ (bcell HB.out HV.out.2.2)
      rw [← HN.out.2, bytes_eq] at hcall
      rw [← HN.out.2]
      refine (show Calls _ _ _ _ _ from hcall).mono ?_
      rintro e w4 ⟨rfl, hb4⟩
      have HB4 := Lib.hid (HB.out.trans (hb4.mono HB.out.size))
      clear hcall hb4 a5 a0 a1 a2 a3 a4
      by_cases hne : nx = nm
      · have HE := Lib.hid (show idxI (idxP l nm 0) = (i : Int) by rw [HN.out.1, if_pos hne]; rfl)
        rw [decide_eq_true hne]
        go_wp2
        go_ret
        exact ⟨by rw [HE.out]; try rfl, HB4.out⟩
      · have HE := Lib.hid (show idxP l nm 0 = idxP (l.drop (i + 1)) nm (i + 1) by rw [HN.out.1, if_neg hne])
        rw [decide_eq_false hne]
        go_wp2
        go_roundg (gk - 1)
        case rel => exact ⟨i + 1, by omega, rfl, HE, HB4⟩
        case measure => omega
    · have hiz : ¬ (i : Int) < (N1 : Int) := by omega
      have HE := Lib.hid (show idxI (idxP l nm 0) = -1 by rw [HC.out, List.drop_eq_nil_of_le (by rw [H0.out]; omega)]; rfl)
      go_wp2
      go_ret
      exact ⟨by rw [HE.out]; try rfl, HB.out⟩

theorem row_form {S : Nat → Prop} {w : World} {sl : Value} {n : Nat} {cs : List Value} (h : RowAt S w sl n cs) : ∃ p cap, sl = .slice p n cap ∧ (0 < n → ∃ b, p = some ⟨b, 0, none⟩ ∧ ∀ k u, cs[k]? = some u → w.cell? ⟨b, k, none⟩ = some u) := by
  rcases h.2 with ⟨h0, rfl⟩ | ⟨b, cap, rfl, _, hc⟩
  · exact ⟨none, 0, by rw [h0], fun h => by omega⟩
  · exact ⟨_, _, rfl, fun _ => ⟨b, rfl, hc⟩⟩
/-- the place of the field of a name. -/
def placeF : V → BL → Option Nat
  | .obj l, p => idxP l p 0
  | _, _ => none

set_option maxHeartbeats 4000000 in
set_option maxRecDepth 100000 in
theorem vat_any (v : V) (nm : BL) (S : Nat → Prop) (w : World) (c : List Value) (hv : VAt S w v c) :
    Calls Tryz.prog 107 #[.agg c.toArray, .string (BA nm)] w fun e w' => e = .returned (.int .i64 (idxI (placeF v nm))) ∧ Below w.heap.size w w' := by
  cases v with
  | obj l =>
    cases hv with
    | obj l cs sl hV hr =>
      obtain ⟨p, cap, rfl, hp⟩ := row_form hr
      obtain ⟨W0, hW0⟩ : ∃ W0, (w.alloc (.cells #[.int .i64 5, .int .i64 0, .string ⟨#[]⟩, .slice none 0 0, .slice p l.length cap] 40)).alloc (.cells #[.string (BA nm)] 9) = W0 := ⟨_, rfl⟩
      have hb0 : Below w.heap.size w W0 := by rw [← hW0]; exact ((Below.refl _ w).alloc (Nat.le_refl _) _).alloc (by simp) _
      have hk2 : W0.cell? ⟨w.heap.size + 1, 0, none⟩ = some (.string (BA nm)) := by
        have h := heap_alloc_new (w.alloc (.cells #[.int .i64 5, .int .i64 0, .string ⟨#[]⟩, .slice none 0 0, .slice p l.length cap] 40)) (.cells #[.string (BA nm)] 9)
        rw [show (w.alloc (.cells #[.int .i64 5, .int .i64 0, .string ⟨#[]⟩, .slice none 0 0, .slice p l.length cap] 40)).heap.size = w.heap.size + 1 by simp, hW0] at h
        exact (show Blk W0 (w.heap.size + 1) 9 [.string (BA nm)] from h).cell 0
      have hcall := fidx_any l cs p cap (w.heap.size + 1) nm S W0 (hV.later hb0) (fun h => by obtain ⟨b, e, h2⟩ := hp h; exact ⟨b, e, fun k u hu => bcell hb0 (h2 k u hu)⟩) hr.1 hk2
      have H0 := Lib.hid (And.intro hW0 (And.intro hb0 hcall))
      rw [show placeF (.obj l) nm = idxP l nm 0 from rfl]
      obtain ⟨z, hz⟩ : ∃ z, idxI (idxP l nm 0) = z := ⟨_, rfl⟩
      rw [hz] at H0 ⊢
      clear hW0 hb0 hk2 hcall hV hr hp hz
      go_enter Tryz.func107, Tryz.ntmps107
      go_wp2_with fail
      rw [H0.out.1]
      refine (show Calls _ _ _ _ _ from H0.out.2.2).mono ?_
      rintro e w2 ⟨rfl, hb2⟩
      have H2 := Lib.hid (H0.out.2.1.trans (hb2.mono H0.out.2.1.size))
      clear hb2
      go_wp2
      go_ret
      exact ⟨rfl, H2.out⟩
  | _ =>
    rw [show placeF _ nm = none from rfl, show idxI none = -1 from rfl]
    cases hv
    try (rename_i hro; obtain ⟨p, cap, rfl, _⟩ := row_form hro)
    all_goals (
      go_enter Tryz.func107, Tryz.ntmps107
      go_wp2
      go_ret
      exact ⟨rfl, ((Below.refl _ w).alloc (Nat.le_refl _) _).alloc (by simp) _⟩)
end Go.Proofs.YtecnjifincahaaaGreatDoor
