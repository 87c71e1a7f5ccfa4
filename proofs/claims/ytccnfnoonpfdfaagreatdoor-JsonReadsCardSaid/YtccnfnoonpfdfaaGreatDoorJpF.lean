/- The law's field (printed by wip/gen_jpf.py). -/
import Derived.Test.YtccnfnoonpfdfaaGreatDoorJpE
namespace Go.Proofs.YtccnfnoonpfdfaaGreatDoor
open Go.Shelf Go.RowKit Go.Lib

/-- what the law's read gives. -/
def LVal (s : BL) (res : Res V) (w : World) (e : Ending) (w' : World) : Prop := ∃ (c : List Value) (j k : Nat), e = .returned (.tuple #[.agg c.toArray, .int .i64 j, .int .i64 k]) ∧ LRes s res (fun b => w.heap.size ≤ b ∧ b < w'.heap.size) w' c j k ∧ Below w.heap.size w w'
def LRV (n : Nat) : Prop := ∀ (s : BL) (K : ByteArray) (_ : BA s = K) (_ : s.length ≤ 4096) (i : Nat) (_ : i ≤ s.length) (w : World), Calls Tryz.prog 37 #[.string K, .int .i64 i, .int .i64 (17 - (n : Int))] w (LVal s (valP n (s.drop i)) w)
def FldR (s : BL) (S : Nat → Prop) (w : World) (X : ByteArray) (c : List Value) (j k : Nat) : Res (BL × V) → Prop
  | .ok p => k = 0 ∧ j ≤ s.length ∧ s.drop j = p.2 ∧ X = BA p.1.1 ∧ VAt S w p.1.2 c
  | .error e => k = e ∧ 0 < k
def fldOf (t : BL) : Res V → Res (BL × V)
  | .error e => .error e
  | .ok q => .ok ((t, q.1), q.2)
/-- what the law's field gives. -/
def LFld (s : BL) (res : Res (BL × V)) (w : World) (e : Ending) (w' : World) : Prop := ∃ (Q : ByteArray) (x0 x1 : Int) (x2 : ByteArray) (x3 : Option Addr) (x4 x5 : Nat) (x6 : Option Addr) (x7 x8 j k : Nat), e = .returned (.tuple #[.agg #[.string Q, .int .i64 x0, .int .i64 x1, .string x2, .slice x3 x4 x5, .slice x6 x7 x8], .int .i64 j, .int .i64 k]) ∧ Below w.heap.size w w' ∧ FldR s (fun b => w.heap.size ≤ b ∧ b < w'.heap.size) w' Q [.int .i64 x0, .int .i64 x1, .string x2, .slice x3 x4 x5, .slice x6 x7 x8] j k res
theorem set6 {w w1 : World} {P : Nat} {a0 a1 a2 a3 a4 a5 : Value} (kz : Blk w1 P 51 [a0, a1, a2, a3, a4, a5]) (hb : Below w.heap.size w w1) (hP : w.heap.size = P) (x0 x1 x2 x3 x4 x5 : Value) :
    Blk ((((((w1.setCell ⟨P, 0, none⟩ x0).setCell ⟨P, 1, none⟩ x1).setCell ⟨P, 2, none⟩ x2).setCell ⟨P, 3, none⟩ x3).setCell ⟨P, 4, none⟩ x4).setCell ⟨P, 5, none⟩ x5) P 51 [x0, x1, x2, x3, x4, x5] ∧
    Below w.heap.size w ((((((w1.setCell ⟨P, 0, none⟩ x0).setCell ⟨P, 1, none⟩ x1).setCell ⟨P, 2, none⟩ x2).setCell ⟨P, 3, none⟩ x3).setCell ⟨P, 4, none⟩ x4).setCell ⟨P, 5, none⟩ x5) ∧
    Only (fun x => x = P) w1 ((((((w1.setCell ⟨P, 0, none⟩ x0).setCell ⟨P, 1, none⟩ x1).setCell ⟨P, 2, none⟩ x2).setCell ⟨P, 3, none⟩ x3).setCell ⟨P, 4, none⟩ x4).setCell ⟨P, 5, none⟩ x5) := by
  have ho := (((((Only.set1 w1 P 0 x0).trans (Only.set1 _ P 1 x1)).trans (Only.set1 _ P 2 x2)).trans (Only.set1 _ P 3 x3)).trans (Only.set1 _ P 4 x4)).trans (Only.set1 _ P 5 x5)
  exact ⟨(((((kz.set 0 x0).set 1 x1).set 2 x2).set 3 x3).set 4 x4).set 5 x5, hb.trans (ho.below hb.size (fun k hk e => by have e2 : k = P := e; omega)), ho⟩
theorem fieldQ_some {n : Nat} {l : List (BL × V)} {x t y r : BL} (h1 : textP x = .ok (t, y)) (h2 : hasF l t = false) (h3 : isL [58] (blankL y) = some r) : fieldQ (valP n) l x = fldOf t (valP n (blankL r)) := by
  unfold fieldQ
  rw [h1]
  simp only []
  rw [if_neg (by rw [h2]; decide), h3]
  simp only []
  cases valP n (blankL r) <;> rfl
theorem fld_last {s : BL} {res : Res V} {t : BL} {T : ByteArray} {c : List Value} {w w4 W6 : World} {N j k : Nat} (hT : BA t = T) (hres : match res with
    | .ok p => k = 0 ∧ j ≤ s.length ∧ s.drop j = p.2 ∧ VAt (fun b => N ≤ b ∧ b < w4.heap.size) w4 p.1 c
    | .error e => k = e ∧ 0 < k) (hN : w.heap.size ≤ N) (hs : w4.heap.size ≤ W6.heap.size) (hk : ∀ b, N ≤ b → ∀ i u, w4.cell? ⟨b, i, none⟩ = some u → W6.cell? ⟨b, i, none⟩ = some u) :
    FldR s (fun b => w.heap.size ≤ b ∧ b < W6.heap.size) W6 T c j k (fldOf t res) := by
  cases res with
  | error e => exact hres
  | ok p => exact ⟨hres.1, hres.2.1, hres.2.2.1, hT.symm, hres.2.2.2.keep (fun b hb => ⟨Nat.le_trans hN hb.1, Nat.lt_of_lt_of_le hb.2 hs⟩) (fun b hb => hk b hb.1)⟩
theorem text_some {x t : BL} {m : Nat} (h : readL x = some (t, m)) : textP x = .ok (t, x.drop m) := by unfold textP; rw [h]
theorem text_none {x : BL} (h : readL x = none) : textP x = .error 1 := by unfold textP; rw [h]
theorem drop_baJ {s : BL} {K : ByteArray} (h : BA s = K) (i : Nat) (hi : i ≤ s.length) : (K.extract i s.length).data.toList = s.drop i := by
  have hs : K.size = s.length := by rw [← h, ba_size]
  have := piece_ba K i (s.length - i) (by omega)
  rw [show i + (s.length - i) = s.length by omega] at this
  rw [this, ← h]
  show (s.drop i).take _ = _
  exact List.take_of_length_le (by rw [List.length_drop]; exact Nat.le_refl _)
set_option maxHeartbeats 8000000 in
set_option maxRecDepth 100000 in
theorem lfield_any (n : Nat) (hrec : LRV n) (s : BL) (K : ByteArray) (hK : BA s = K) (hs : s.length ≤ 4096) (i : Nat) (hi : i ≤ s.length) (S : Nat → Prop) (l : List (BL × V)) (cs : List Value) (sp : Option Addr) (sn sc : Nat) (w : World) (hV : FsAt S w l cs) (hr : RowAt S w (.slice sp sn sc) l.length cs) (hl : l.length ≤ 1000000) :
    Calls Tryz.prog 101 #[.string K, .int .i64 i, .int .i64 (17 - (n : Int)), .slice sp sn sc] w (LFld s (fieldQ (valP n) l (s.drop i)) w) := by
  have hN : K.size = s.length := by rw [← hK, ba_size]
  obtain ⟨N1, hN1⟩ : ∃ N, l.length = N := ⟨_, rfl⟩
  have hform : ∃ p cap, (Value.slice sp sn sc) = .slice p N1 cap ∧ (0 < N1 → ∃ b, p = some ⟨b, 0, none⟩ ∧ ∀ k u, cs[k]? = some u → w.cell? ⟨b, k, none⟩ = some u) := by
    rcases hr.2 with ⟨h0, h1⟩ | ⟨b, cap, h1, _, h2⟩
    · rw [h1]; exact ⟨none, 0, by rw [← hN1, h0], fun h => by omega⟩
    · rw [h1, hN1]; exact ⟨_, _, rfl, fun _ => ⟨b, rfl, h2⟩⟩
  obtain ⟨p, cap, hsl, hrow⟩ := hform
  rw [hsl]
  rw [hN1] at hl
  obtain ⟨d, hd⟩ : ∃ d : Int, 17 - (n : Int) = d := ⟨_, rfl⟩
  have hrec2 := hrec s K hK hs
  rw [hd] at hrec2 ⊢
  obtain ⟨P, hP⟩ : ∃ P, w.heap.size = P := ⟨_, rfl⟩
  obtain ⟨W0, hW0⟩ : ∃ W, w.alloc (.cells #[.string ⟨#[]⟩, .int .i64 0, .int .i64 0, .string ⟨#[]⟩, .slice none 0 0, .slice none 0 0] 51) = W := ⟨_, rfl⟩
  have hb0 : Below w.heap.size w W0 := by rw [← hW0]; exact (Below.refl _ w).alloc (Nat.le_refl _) _
  have k0 : Blk W0 P 51 [.string ⟨#[]⟩, .int .i64 0, .int .i64 0, .string ⟨#[]⟩, .slice none 0 0, .slice none 0 0] := by rw [← hW0, ← hP]; exact heap_alloc_new w _
  have HV := Lib.hid (And.intro hV (And.intro hrow hN1))
  have H0 := Lib.hid (And.intro hW0 (And.intro hP (And.intro hb0 (And.intro k0 hK))))
  have HR := Lib.hid hrec2
  clear hV hr hrow hW0 hP hb0 k0 hN1 hsl hrec2 hrec hK hd
  go_enter Tryz.func101, Tryz.ntmps101
  by_cases hil : i < s.length
  · have hiz : (i : Int) < (K.size : Int) := by omega
    have hiz2 : (i : Int) < (s.length : Int) := by omega
    go_wp2_with fail
    (try rw [H0.out.1])
    (try rw [H0.out.2.1])
    have hE := drop_baJ H0.out.2.2.2.2 i hi
    obtain ⟨E, hEE⟩ : ∃ E, K.extract i s.length = E := ⟨_, rfl⟩
    rw [hEE] at hE
    have hrd := read_any E W0 (by rw [size_eq, hE, List.length_drop]; omega)
    rw [hE] at hrd
    have HE := Lib.hid (And.intro hrd hEE)
    clear hrd hEE hE
    (try rw [HE.out.2])
    refine (show Calls _ _ _ _ _ from HE.out.1).mono ?_
    rintro e w1 ⟨hR, hb1⟩
    unfold Rd at hR
    have HB1 := Lib.hid (And.intro (H0.out.2.2.1.trans (hb1.mono H0.out.2.2.1.size)) (H0.out.2.2.2.1.below hb1))
    clear hb1
    cases hrl : readL (s.drop i) with
    | none =>
      rw [hrl] at hR
      subst hR
      have HQ := Lib.hid (show fieldQ (valP n) l (s.drop i) = .error 1 by unfold fieldQ; rw [text_none hrl])
      clear hrl
      have z0 := (HB1.out.2).cell 0
      have y0 := (HB1.out.2).frozen 0
      have z1 := (HB1.out.2).cell 1
      have y1 := (HB1.out.2).frozen 1
      have z2 := (HB1.out.2).cell 2
      have y2 := (HB1.out.2).frozen 2
      have z3 := (HB1.out.2).cell 3
      have y3 := (HB1.out.2).frozen 3
      have z4 := (HB1.out.2).cell 4
      have y4 := (HB1.out.2).frozen 4
      have z5 := (HB1.out.2).cell 5
      have y5 := (HB1.out.2).frozen 5
      go_wp2
      have h6 := set6 HB1.out.2 HB1.out.1 H0.out.2.1 (.string ⟨#[]⟩) (.int .i64 0) (.int .i64 0) (.string ⟨#[]⟩) (.slice none 0 0) (.slice none 0 0)
      obtain ⟨W6, hW6⟩ : ∃ W, ((((((w1).setCell ⟨P, 0, none⟩ (.string ⟨#[]⟩)).setCell ⟨P, 1, none⟩ (.int .i64 0)).setCell ⟨P, 2, none⟩ (.int .i64 0)).setCell ⟨P, 3, none⟩ (.string ⟨#[]⟩)).setCell ⟨P, 4, none⟩ (.slice none 0 0)).setCell ⟨P, 5, none⟩ (.slice none 0 0) = W := ⟨_, rfl⟩
      rw [hW6] at h6
      (try rw [hW6])
      have v0 := h6.1.cell 0
      have v1 := h6.1.cell 1
      have v2 := h6.1.cell 2
      have v3 := h6.1.cell 3
      have v4 := h6.1.cell 4
      have v5 := h6.1.cell 5
      (try simp only [Exit.inBlock, Exit.then])
      refine bodyPost_ret (v := .tuple #[.agg #[.string ⟨#[]⟩, .int .i64 0, .int .i64 0, .string ⟨#[]⟩, .slice none 0 0, .slice none 0 0], .int .i64 i, .int .i64 1]) ?_ rfl ⟨_, _, _, _, _, _, _, _, _, _, i, 1, rfl, h6.2.1, by rw [HQ.out]; exact ⟨rfl, by decide⟩⟩
      rw [results_cell_tmp2 rfl]
      go_simp
    | some tm =>
      obtain ⟨t, m⟩ := tm
      rw [hrl] at hR
      subst hR
      have hml := readL_le hrl
      rw [List.length_drop] at hml
      have hm0 : ((m : Int) == 0) = false := beq_eq_false_iff_ne.2 (by omega)
      have hmz : ¬ (m : Int) = 0 := by omega
      obtain ⟨T, hT⟩ : ∃ T, BA t = T := ⟨_, rfl⟩
      rw [hT]
      have HT := Lib.hid (And.intro (text_some hrl) hT)
      clear hrl hT
      go_wp2_with fail
      go_loopg [35] N1 (fun gk iv wr => ∃ (j : Nat), gk + j = N1 ∧ iv = .int .i64 j ∧ Hid (hasF l t = hasF (l.drop j) t ∧ Below w1.heap.size w1 wr))
      case atStart => exact ⟨0, Nat.add_zero _, rfl, Lib.hid ⟨rfl, Below.refl _ _⟩⟩
      case round =>
        obtain ⟨j, hg, rfl, HC⟩ := hrel
        by_cases hj : j < N1
        · have hjz : (j : Int) < (N1 : Int) := by omega
          have hwK : IntKind.i64.wrap ((j : Int) + 1) = ((j + 1 : Nat) : Int) := by rw [IntWalk.i64_in _ (by omega)]; omega
          have hx1 : j < l.length := by rw [HV.out.2.2]; exact hj
          obtain ⟨b, hpe, hrb⟩ := HV.out.2.1 (by omega)
          subst hpe
          obtain ⟨d0, d1, d2, d3, d4, hx, e5, e0, e1, e2, e3, e4⟩ := HV.out.1.get j hx1
          obtain ⟨q0, q1, q2, q3, q4, q5, q6, q7, q8, hq⟩ := hx.shape
          simp only [List.cons.injEq, and_true] at hq
          obtain ⟨rfl, rfl, rfl, rfl, rfl⟩ := hq
          obtain ⟨NX, hNX⟩ : ∃ n, BA l[j].1 = n := ⟨_, rfl⟩
          rw [hNX] at e5
          have hbw : Below w.heap.size w wr := HB1.out.1.trans (HC.out.2.mono HB1.out.1.size)
          have a5 := bcell hbw (hrb _ _ e5)
          have a0 := bcell hbw (hrb _ _ e0)
          have a1 := bcell hbw (hrb _ _ e1)
          have a2 := bcell hbw (hrb _ _ e2)
          have a3 := bcell hbw (hrb _ _ e3)
          have a4 := bcell hbw (hrb _ _ e4)
          have hstep : hasF (l.drop j) t = ((l[j].1 == t) || hasF (l.drop (j + 1)) t) := by
            rw [List.drop_eq_getElem_cons hx1]; rfl
          have kP : Blk wr P 51 [.string ⟨#[]⟩, .int .i64 0, .int .i64 0, .string ⟨#[]⟩, .slice none 0 0, .slice none 0 0] := HB1.out.2.below HC.out.2
          have HX := Lib.hid (And.intro hNX (And.intro hstep (And.intro hbw kP)))
          clear hx e5 e0 e1 e2 e3 e4 hrb hNX hstep hbw kP
          cases hc : (l[j].1 == t) with
          | true =>
            have h3 : (NX.toList == T.toList) = true := by rw [← HX.out.1, ← HT.out.2, beq_iff_eq.1 hc]; simp
            have HQ := Lib.hid (show fieldQ (valP n) l (s.drop i) = .error 5 by
              unfold fieldQ
              rw [HT.out.1]
              simp only []
              rw [if_pos (by rw [HC.out.1, HX.out.2.1, hc]; rfl)])
            clear hc
            have kA := HX.out.2.2.2.alloc (.cells #[.string NX, .int .i64 q0, .int .i64 q1, .string q2, .slice q3 q4 q5, .slice q6 q7 q8] 51)
            have z0 := (kA).cell 0
            have y0 := (kA).frozen 0
            have z1 := (kA).cell 1
            have y1 := (kA).frozen 1
            have z2 := (kA).cell 2
            have y2 := (kA).frozen 2
            have z3 := (kA).cell 3
            have y3 := (kA).frozen 3
            have z4 := (kA).cell 4
            have y4 := (kA).frozen 4
            have z5 := (kA).cell 5
            have y5 := (kA).frozen 5
            go_wp2
            have h6 := set6 kA (HX.out.2.2.1.alloc HX.out.2.2.1.size _) H0.out.2.1 (.string ⟨#[]⟩) (.int .i64 0) (.int .i64 0) (.string ⟨#[]⟩) (.slice none 0 0) (.slice none 0 0)
            obtain ⟨W6, hW6⟩ : ∃ W, ((((((wr.alloc (.cells #[.string NX, .int .i64 q0, .int .i64 q1, .string q2, .slice q3 q4 q5, .slice q6 q7 q8] 51)).setCell ⟨P, 0, none⟩ (.string ⟨#[]⟩)).setCell ⟨P, 1, none⟩ (.int .i64 0)).setCell ⟨P, 2, none⟩ (.int .i64 0)).setCell ⟨P, 3, none⟩ (.string ⟨#[]⟩)).setCell ⟨P, 4, none⟩ (.slice none 0 0)).setCell ⟨P, 5, none⟩ (.slice none 0 0) = W := ⟨_, rfl⟩
            rw [hW6] at h6
            (try rw [hW6])
            have v0 := h6.1.cell 0
            have v1 := h6.1.cell 1
            have v2 := h6.1.cell 2
            have v3 := h6.1.cell 3
            have v4 := h6.1.cell 4
            have v5 := h6.1.cell 5
            (try simp only [Exit.inBlock, Exit.then])
            refine bodyPost_ret (v := .tuple #[.agg #[.string ⟨#[]⟩, .int .i64 0, .int .i64 0, .string ⟨#[]⟩, .slice none 0 0, .slice none 0 0], .int .i64 i, .int .i64 5]) ?_ rfl ⟨_, _, _, _, _, _, _, _, _, _, i, 5, rfl, h6.2.1, by rw [HQ.out]; exact ⟨rfl, by decide⟩⟩
            rw [results_cell_tmp2 rfl]
            go_simp
          | false =>
            have h3 : (NX.toList == T.toList) = false := by
              rw [← HX.out.1, ← HT.out.2, Lib.toList_data, Lib.toList_data]; exact hc
            have HN := Lib.hid (show hasF l t = hasF (l.drop (j + 1)) t by rw [HC.out.1, HX.out.2.1, hc]; rfl)
            have HB2 := Lib.hid (HC.out.2.trans (((Below.refl _ wr).alloc (Nat.le_refl _) (.cells #[.string NX, .int .i64 q0, .int .i64 q1, .string q2, .slice q3 q4 q5, .slice q6 q7 q8] 51)).mono HC.out.2.size))
            clear hc
            go_wp2
            go_roundg (gk - 1)
            case rel => exact ⟨j + 1, by omega, rfl, Lib.hid ⟨HN.out, HB2.out⟩⟩
            case measure => omega
        · have hjz : ¬ (j : Int) < (N1 : Int) := by omega
          have hbw : Below w.heap.size w wr := HB1.out.1.trans (HC.out.2.mono HB1.out.1.size)
          have kP : Blk wr P 51 [.string ⟨#[]⟩, .int .i64 0, .int .i64 0, .string ⟨#[]⟩, .slice none 0 0, .slice none 0 0] := HB1.out.2.below HC.out.2
          have hno : hasF l t = false := by rw [HC.out.1, List.drop_eq_nil_of_le (by rw [HV.out.2.2]; omega)]; rfl
          have HX := Lib.hid (And.intro hbw (And.intro kP hno))
          clear hbw kP hno
          obtain ⟨i2, hi2⟩ : ∃ x, i + m = x := ⟨_, rfl⟩
          have hi2s : i2 ≤ s.length := by omega
          have hwm : IntKind.i64.wrap ((i : Int) + (m : Int)) = (i2 : Int) := by rw [IntWalk.i64_in _ (by omega)]; omega
          go_wp2_with fail
          refine (show Calls _ _ _ _ _ from lblank_any s K H0.out.2.2.2.2 i2 hi2s hs wr).mono ?_
          rintro e w3 ⟨j1, rfl, hj1a, hj1, hj1d, hw3⟩
          replace hw3 := hw3.symm
          subst hw3
          have hdr : blankL ((s.drop i).drop m) = s.drop j1 := by rw [hj1d, List.drop_drop, hi2]
          have HD := Lib.hid hdr
          clear hdr hj1d
          go_wp2_with fail
          refine (show Calls _ _ _ _ _ from lis_any s [58] K ⟨#[58]⟩ H0.out.2.2.2.2 rfl j1 hj1 hs (by decide) _).mono ?_
          rintro e w3 ⟨rfl, hw3⟩
          replace hw3 := hw3.symm
          subst hw3
          cases hcol : isL [58] (s.drop j1) with
          | none =>
            have HQ := Lib.hid (show fieldQ (valP n) l (s.drop i) = .error 1 by
              unfold fieldQ
              rw [HT.out.1]
              simp only []
              rw [if_neg (by rw [HX.out.2.2]; decide), HD.out, hcol])
            clear hcol
            (try simp only [Option.isSome_none])
            have z0 := (HX.out.2.1).cell 0
            have y0 := (HX.out.2.1).frozen 0
            have z1 := (HX.out.2.1).cell 1
            have y1 := (HX.out.2.1).frozen 1
            have z2 := (HX.out.2.1).cell 2
            have y2 := (HX.out.2.1).frozen 2
            have z3 := (HX.out.2.1).cell 3
            have y3 := (HX.out.2.1).frozen 3
            have z4 := (HX.out.2.1).cell 4
            have y4 := (HX.out.2.1).frozen 4
            have z5 := (HX.out.2.1).cell 5
            have y5 := (HX.out.2.1).frozen 5
            go_wp2
            have h6 := set6 HX.out.2.1 HX.out.1 H0.out.2.1 (.string ⟨#[]⟩) (.int .i64 0) (.int .i64 0) (.string ⟨#[]⟩) (.slice none 0 0) (.slice none 0 0)
            obtain ⟨W6, hW6⟩ : ∃ W, ((((((wr).setCell ⟨P, 0, none⟩ (.string ⟨#[]⟩)).setCell ⟨P, 1, none⟩ (.int .i64 0)).setCell ⟨P, 2, none⟩ (.int .i64 0)).setCell ⟨P, 3, none⟩ (.string ⟨#[]⟩)).setCell ⟨P, 4, none⟩ (.slice none 0 0)).setCell ⟨P, 5, none⟩ (.slice none 0 0) = W := ⟨_, rfl⟩
            rw [hW6] at h6
            (try rw [hW6])
            have v0 := h6.1.cell 0
            have v1 := h6.1.cell 1
            have v2 := h6.1.cell 2
            have v3 := h6.1.cell 3
            have v4 := h6.1.cell 4
            have v5 := h6.1.cell 5
            (try simp only [Exit.inBlock, Exit.then])
            refine bodyPost_ret (v := .tuple #[.agg #[.string ⟨#[]⟩, .int .i64 0, .int .i64 0, .string ⟨#[]⟩, .slice none 0 0, .slice none 0 0], .int .i64 j1, .int .i64 1]) ?_ rfl ⟨_, _, _, _, _, _, _, _, _, _, j1, 1, rfl, h6.2.1, by rw [HQ.out]; exact ⟨rfl, by decide⟩⟩
            rw [results_cell_tmp2 rfl]
            go_simp
          | some r =>
            have hlen := congrArg List.length (isL_len hcol)
            rw [List.length_append, List.length_drop] at hlen
            have hj1l : j1 + 1 ≤ s.length := by simp only [List.length_cons, List.length_nil] at hlen; omega
            have hr2 : r = s.drop (j1 + 1) := by
              have := isL_len hcol
              have h2 := congrArg (List.drop 1) this
              rw [List.drop_drop] at h2
              exact h2.symm
            have HC2 := Lib.hid (And.intro hcol hr2)
            clear hcol hlen hr2
            have hwj : IntKind.i64.wrap ((j1 : Int) + 1) = ((j1 + 1 : Nat) : Int) := by rw [IntWalk.i64_in _ (by omega)]; omega
            (try simp only [Option.isSome_some])
            obtain ⟨j1b, hj1b⟩ : ∃ x, j1 + 1 = x := ⟨_, rfl⟩
            rw [hj1b] at hwj hj1l
            go_wp2_with fail
            refine (show Calls _ _ _ _ _ from lblank_any s K H0.out.2.2.2.2 j1b hj1l hs _).mono ?_
            rintro e w3 ⟨j2, rfl, hj2a, hj2, hj2d, hw3⟩
            replace hw3 := hw3.symm
            subst hw3
            have HD2 := Lib.hid (show s.drop j2 = blankL r by rw [hj2d, HC2.out.2, hj1b])
            clear hj2d
            go_wp2_with fail
            have hcall := HR.out j2 hj2 wr
            refine (show Calls _ _ _ _ _ from hcall).mono ?_
            rintro e w4 ⟨c, j3, k3, rfl, ⟨⟨q0, q1, q2, q3, q4, q5, q6, q7, q8, rfl⟩, hres⟩, hb4⟩
            clear hcall
            obtain ⟨W4, hW4⟩ : ∃ W, w4.alloc (.cells #[.int .i64 q0, .int .i64 q1, .string q2, .slice q3 q4 q5, .slice q6 q7 q8] 28) = W := ⟨_, rfl⟩
            have hb4a : Below w4.heap.size w4 W4 := by rw [← hW4]; exact (Below.refl _ w4).alloc (Nat.le_refl _) _
            have k4 : Blk W4 P 51 [.string ⟨#[]⟩, .int .i64 0, .int .i64 0, .string ⟨#[]⟩, .slice none 0 0, .slice none 0 0] := (HX.out.2.1.below hb4).below hb4a
            have hbW4 : Below w.heap.size w W4 := (HX.out.1.trans (hb4.mono HX.out.1.size)).trans (hb4a.mono (Nat.le_trans HX.out.1.size hb4.size))
            have H4 := Lib.hid (And.intro hW4 (And.intro hb4a (And.intro k4 (And.intro hbW4 hb4))))
            have k4x : Blk (w4.alloc (.cells #[.int .i64 q0, .int .i64 q1, .string q2, .slice q3 q4 q5, .slice q6 q7 q8] 28)) P 51 [.string ⟨#[]⟩, .int .i64 0, .int .i64 0, .string ⟨#[]⟩, .slice none 0 0, .slice none 0 0] := by rw [hW4]; exact k4
            have HRS := Lib.hid hres
            clear hW4 hb4a k4 hbW4 hb4 hres
            have z0 := (k4x).cell 0
            have y0 := (k4x).frozen 0
            have z1 := (k4x).cell 1
            have y1 := (k4x).frozen 1
            have z2 := (k4x).cell 2
            have y2 := (k4x).frozen 2
            have z3 := (k4x).cell 3
            have y3 := (k4x).frozen 3
            have z4 := (k4x).cell 4
            have y4 := (k4x).frozen 4
            have z5 := (k4x).cell 5
            have y5 := (k4x).frozen 5
            clear k4x
            go_wp2
            (try rw [H4.out.1])
            have h6 := set6 H4.out.2.2.1 H4.out.2.2.2.1 H0.out.2.1 (.string T) (.int .i64 q0) (.int .i64 q1) (.string q2) (.slice q3 q4 q5) (.slice q6 q7 q8)
            obtain ⟨W6, hW6⟩ : ∃ W, ((((((W4).setCell ⟨P, 0, none⟩ (.string T)).setCell ⟨P, 1, none⟩ (.int .i64 q0)).setCell ⟨P, 2, none⟩ (.int .i64 q1)).setCell ⟨P, 3, none⟩ (.string q2)).setCell ⟨P, 4, none⟩ (.slice q3 q4 q5)).setCell ⟨P, 5, none⟩ (.slice q6 q7 q8) = W := ⟨_, rfl⟩
            rw [hW6] at h6
            (try rw [hW6])
            have v0 := h6.1.cell 0
            have v1 := h6.1.cell 1
            have v2 := h6.1.cell 2
            have v3 := h6.1.cell 3
            have v4 := h6.1.cell 4
            have v5 := h6.1.cell 5
            (try simp only [Exit.inBlock, Exit.then])
            refine bodyPost_ret (v := .tuple #[.agg #[.string T, .int .i64 q0, .int .i64 q1, .string q2, .slice q3 q4 q5, .slice q6 q7 q8], .int .i64 j3, .int .i64 k3]) ?_ rfl ⟨_, _, _, _, _, _, _, _, _, _, j3, k3, rfl, h6.2.1, by rw [fieldQ_some HT.out.1 HX.out.2.2 (by rw [HD.out]; exact HC2.out.1), ← HD2.out]; exact fld_last HT.out.2 HRS.out HX.out.1.size (Nat.le_trans H4.out.2.1.size h6.2.2.size) (fun b hb i u hu => h6.2.2.cell (fun e => by have e2 : b = P := e; have := HX.out.2.1.lt; omega) (bcell H4.out.2.1 hu))⟩
            rw [results_cell_tmp2 rfl]
            go_simp
  · have hiz : ¬ (i : Int) < (K.size : Int) := by omega
    have hiz2 : ¬ (i : Int) < (s.length : Int) := by omega
    have HQ := Lib.hid (show fieldQ (valP n) l (s.drop i) = .error 1 by
      unfold fieldQ
      rw [List.drop_eq_nil_of_le (by omega), text_none (by rfl)])
    have kW : Blk W0 P 51 [.string ⟨#[]⟩, .int .i64 0, .int .i64 0, .string ⟨#[]⟩, .slice none 0 0, .slice none 0 0] := H0.out.2.2.2.1
    have hbW := H0.out.2.2.1
    go_upto_region 2 with fail
    (try rw [H0.out.1])
    (try rw [H0.out.2.1])
    have z0 := (kW).cell 0
    have y0 := (kW).frozen 0
    have z1 := (kW).cell 1
    have y1 := (kW).frozen 1
    have z2 := (kW).cell 2
    have y2 := (kW).frozen 2
    have z3 := (kW).cell 3
    have y3 := (kW).frozen 3
    have z4 := (kW).cell 4
    have y4 := (kW).frozen 4
    have z5 := (kW).cell 5
    have y5 := (kW).frozen 5
    go_wp2
    have h6 := set6 kW hbW H0.out.2.1 (.string ⟨#[]⟩) (.int .i64 0) (.int .i64 0) (.string ⟨#[]⟩) (.slice none 0 0) (.slice none 0 0)
    obtain ⟨W6, hW6⟩ : ∃ W, ((((((W0).setCell ⟨P, 0, none⟩ (.string ⟨#[]⟩)).setCell ⟨P, 1, none⟩ (.int .i64 0)).setCell ⟨P, 2, none⟩ (.int .i64 0)).setCell ⟨P, 3, none⟩ (.string ⟨#[]⟩)).setCell ⟨P, 4, none⟩ (.slice none 0 0)).setCell ⟨P, 5, none⟩ (.slice none 0 0) = W := ⟨_, rfl⟩
    rw [hW6] at h6
    (try rw [hW6])
    have v0 := h6.1.cell 0
    have v1 := h6.1.cell 1
    have v2 := h6.1.cell 2
    have v3 := h6.1.cell 3
    have v4 := h6.1.cell 4
    have v5 := h6.1.cell 5
    (try simp only [Exit.inBlock, Exit.then])
    refine bodyPost_ret (v := .tuple #[.agg #[.string ⟨#[]⟩, .int .i64 0, .int .i64 0, .string ⟨#[]⟩, .slice none 0 0, .slice none 0 0], .int .i64 i, .int .i64 1]) ?_ rfl ⟨_, _, _, _, _, _, _, _, _, _, i, 1, rfl, h6.2.1, by rw [HQ.out]; exact ⟨rfl, by decide⟩⟩
    rw [results_cell_tmp2 rfl]
    go_simp
end Go.Proofs.YtccnfnoonpfdfaaGreatDoor
