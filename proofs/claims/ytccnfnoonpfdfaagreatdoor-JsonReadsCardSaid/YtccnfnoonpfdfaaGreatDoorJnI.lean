/- The JSON reader's number (printed by wip/gen_jni.py). -/
import Derived.Test.YtccnfnoonpfdfaaGreatDoorJnH
namespace Go.Proofs.YtccnfnoonpfdfaaGreatDoor
open Go.Shelf Go.RowKit Go.Lib

/-- five cells of a value's kinds. -/
def Shape (c : List Value) : Prop := ∃ k n s p1 l1 c1 p2 l2 c2, c = [.int .i64 k, .int .i64 n, .string s, .slice p1 l1 c1, .slice p2 l2 c2]
/-- a value that was read, and a reader behind it; or one at which something is wrong. -/
def MRes (S : Nat → Prop) (w : World) (rb : Nat) (s : BL) (res : Res V) (c : List Value) : Prop := match res with
  | .ok p => VAt S w p.1 c ∧ RS w rb s (.ok p.2)
  | .error e => RS w rb s (.error e)
/-- what the reader's value comes to. -/
def ValPost (w : World) (rb : Nat) (s : BL) (res : Res V) (e : Ending) (w' : World) : Prop :=
  ∃ c, e = .returned (.agg c.toArray) ∧ Shape c ∧ MRes (fun b => w.heap.size ≤ b ∧ b < w'.heap.size) w' rb s res c ∧ Only (· = rb) w w'
def vst {α : Type} (st : Except Nat BL) (f : BL → Res α) : Res α := match st with
  | .ok r => f r
  | .error e => .error e
/-- the reader's value, where values may stand n deeper still. -/
def RV (n : Nat) : Prop := ∀ (w : World) (rb : Nat) (s : BL) (st : Except Nat BL), s.length ≤ 1000000 → RS w rb s st → Env w → 11 ≤ rb → Calls Tryz.prog 32 #[.pointer (some ⟨rb, 0, none⟩), .int .i64 (17 - (n : Int))] w (ValPost w rb s (vst st (valP n)))

/-- what is laid into the result's cell at the end. -/
theorem cell_end {w w4 W5 : World} {rb P : Nat} {s : BL} {res : Res V} {c0 c1 c2 c3 c4 z0 z1 z2 z3 z4 : Value} (hP : w.heap.size = P) (hrb : rb < P) (hz : Blk w4 P 28 [z0, z1, z2, z3, z4]) (ho : Only (· = rb) w w4)
    (hsh : Shape [c0, c1, c2, c3, c4]) (hm : MRes (fun b => P < b ∧ b < w4.heap.size) w4 rb s res [c0, c1, c2, c3, c4])
    (hW5 : (((((w4.setCell ⟨P, 0, none⟩ c0).setCell ⟨P, 1, none⟩ c1).setCell ⟨P, 2, none⟩ c2).setCell ⟨P, 3, none⟩ c3).setCell ⟨P, 4, none⟩ c4) = W5) :
    Blk W5 P 28 [c0, c1, c2, c3, c4] ∧ ValPost w rb s res (.returned (.agg #[c0, c1, c2, c3, c4])) W5 := by
  obtain ⟨hB, ho5⟩ := put5 hz hW5
  have hs5 := ho5.size
  refine ⟨hB, _, rfl, hsh, ?_, ho.trans' ho5 (fun i hi e => by have e2 : i = P := e; omega)⟩
  cases res with
  | error e => exact RS.only (show RS w4 rb s (.error e) from hm) ho5 (fun e => by have e2 : rb = P := e; omega)
  | ok p => exact ⟨hm.1.keep (fun b hb => ⟨by omega, by omega⟩) (fun b hb k u hu => ho5.cell (by show ¬ b = P; omega) hu), hm.2.only ho5 (fun e => by have e2 : rb = P := e; omega)⟩

def numR (r : BL) : Res V := match isL [45] r with
  | some t => numP true t
  | none => numP false r
theorem numR_eq (r : BL) : numR r = numP (isL [45] r).isSome ((isL [45] r).getD r) := by
  unfold numR
  cases isL [45] r <;> rfl
theorem ba_add (a b : BL) : BA a ++ BA b = BA (a ++ b) := by
  apply ByteArray.ext
  simp
/-- the signs that no whole number has behind it. -/
theorem dot_contains (c : UInt8) : ([46, 101, 69] : BL).contains c = (c == 46 || c == 101 || c == 69) := by
  simp only [List.contains_cons, List.contains_nil, Bool.or_false, Bool.or_assoc]
theorem index_dot (c : UInt8) : (isDot [c] = true → 0 ≤ Lib.indexByte [46, 101, 69] c) ∧ (isDot [c] = false → Lib.indexByte [46, 101, 69] c = -1) := by
  have : isDot [c] = ([46, 101, 69] : BL).contains c := by rw [dot_contains]; rfl
  rw [this]; exact index_one _ _
theorem isDot_cons (c : UInt8) (t : BL) : isDot (c :: t) = isDot [c] := rfl
/-- what stands at the end of a number's digits. -/
structure NumS (s : BL) (m : Bool) (r2 : BL) (k3 : Nat) (T : ByteArray) : Prop where
  le : k3 ≤ s.length
  drop : s.drop k3 = r2.drop (takeN r2).length
  text : T = BA (sgnL m ++ takeN r2)
theorem numP_none {m : Bool} {r2 : BL} (h : takeN r2 = []) : numP m r2 = .error 1 := by unfold numP; rw [if_pos h]
theorem numP_dot {m : Bool} {r2 : BL} (h : takeN r2 ≠ []) (hd : isDot (r2.drop (takeN r2).length) = true) : numP m r2 = .error 4 := by unfold numP; rw [if_neg h, if_pos hd]
theorem numP_far {m : Bool} {r2 : BL} (h : takeN r2 ≠ []) (hf : ∀ v, Lib.parseIntB 64 (sgnL m ++ takeN r2) ≠ .ok v) : numP m r2 = .error 4 := by
  have hp := parse_num m (takeN r2) h (takeN_all r2)
  unfold numP
  rw [if_neg h]
  split
  · rfl
  · have : ¬ fits m (numOf (takeN r2)) := fun hh => hf _ (hp.1 hh)
    unfold fits at this
    rw [if_neg this]
theorem numP_ok {m : Bool} {r2 : BL} {n : Int} (h : takeN r2 ≠ []) (hd : isDot (r2.drop (takeN r2).length) = false) (hn : Lib.parseIntB 64 (sgnL m ++ takeN r2) = .ok n) : numP m r2 = .ok (.int n, r2.drop (takeN r2).length) ∧ -9223372036854775808 ≤ n ∧ n ≤ 9223372036854775807 := by
  have hp := parse_num m (takeN r2) h (takeN_all r2)
  have hf : fits m (numOf (takeN r2)) := by
    by_cases hf : fits m (numOf (takeN r2))
    · exact hf
    · rw [hp.2 hf] at hn; cases hn
  rw [hp.1 hf] at hn
  injection hn with hn
  unfold numP
  rw [if_neg h, if_neg (by rw [hd]; decide), if_pos (by unfold fits at hf; exact hf)]
  refine ⟨by rw [hn], ?_⟩
  rw [← hn]
  unfold fits at hf
  cases m with
  | true => simp only [if_true]; omega
  | false => simp only [Bool.false_eq_true, if_false]; rcases hf with hf | ⟨hf, _⟩; omega; cases hf

set_option maxHeartbeats 8000000 in
set_option maxRecDepth 100000 in
theorem num_pn (rb : Nat) (s r r2 : BL) (w : World) (hs : s.length ≤ 1000000) (hR : RS w rb s (.ok r)) (hE : Env w) (hrb : 11 ≤ rb) (hb : isB [45] (.ok r) = false) (hst : isS [45] (.ok r) = .ok r2) (hz : ∀ t, r2 ≠ 48 :: t) (hn : numR r = numP false r2) :
    Calls Tryz.prog 62 #[.pointer (some ⟨rb, 0, none⟩)] w (ValPost w rb s (numR r)) := by
  rw [hn]
  obtain ⟨P, hP⟩ : ∃ P, w.heap.size = P := ⟨_, rfl⟩
  obtain ⟨W0, hW0⟩ : ∃ W, w.alloc (.cells #[.int .i64 0, .int .i64 0, .string ⟨#[]⟩, .slice none 0 0, .slice none 0 0] 28) = W := ⟨_, rfl⟩
  have hlt := hR.lt
  have hb0 : Below w.heap.size w W0 := by rw [← hW0]; exact (Below.refl _ w).alloc (Nat.le_refl _) _
  have hz0 : Blk W0 P 28 [.int .i64 0, .int .i64 0, .string ⟨#[]⟩, .slice none 0 0, .slice none 0 0] := by rw [← hW0, ← hP]; exact heap_alloc_new w _
  have hc := is_any rb ⟨#[45]⟩ [45] s (.ok r) W0 rfl hs (hR.below hb0)
  rw [hb, hst] at hc
  have hEW := hE.below (by omega) hb0
  have H := Lib.hid (And.intro hc (And.intro hz0 (And.intro hb0 (And.intro hs (And.intro hP (And.intro hW0 (And.intro hrb (And.intro hlt (And.intro hz hEW)))))))))
  clear hc hz0 hb0 hs hW0 hrb hlt hz hR hE hb hst hEW hn
  go_enter Tryz.func62, Tryz.ntmps62
  go_wp2_with fail
  rw [H.out.2.2.2.2.2.1]
  (try rw [hP])
  clear hP
  refine H.out.1.mono ?_
  rintro e w2 ⟨rfl, hr2, ho2⟩
  obtain ⟨k2, hk2, hd2, hB2⟩ := hr2
  have hz2 : Blk w2 P 28 [.int .i64 0, .int .i64 0, .string ⟨#[]⟩, .slice none 0 0, .slice none 0 0] := H.out.2.1.only ho2 (fun e => by have e2 : P = rb := e; have := H.out.2.2.2.2.2.2.2.1; have := H.out.2.2.2.2.1; omega)
  have hE2 : Env w2 := H.out.2.2.2.2.2.2.2.2.2.only (by have := H.out.2.2.1.size; have := H.out.2.2.2.2.2.2.1; have := H.out.2.2.2.2.2.2.2.1; omega) ho2 (fun g hg e => by have e2 : g = rb := e; have := H.out.2.2.2.2.2.2.1; omega)
  have hO2 : Only (· = rb) w w2 := (Only.ofBelow H.out.2.2.1 (· = rb)).trans ho2
  obtain ⟨S, hS⟩ : ∃ S, BA s = S := ⟨_, rfl⟩
  have hSs : S.size = s.length := by rw [← hS, ba_size]
  have hB' : Blk w2 rb 64 [.string S, .int .i64 k2, .int .i64 0] := by rw [← hS]; exact hB2
  obtain ⟨X, hX⟩ : ∃ X, S.extract k2 S.size = X := ⟨_, rfl⟩
  have hXL : X.data.toList = r2 := by rw [← hX, ← hS, ba_ext, hd2]
  have hkz : (k2 : Int) ≤ (S.size : Int) := by omega
  have hk0 : (0 : Int) ≤ (k2 : Int) := by omega
  have c0 := hB'.cell 0
  have c1 := hB'.cell 1
  have f1 := hB'.frozen 1
  have cP : ∀ W, Calls Tryz.prog 60 #[.string X, .string ⟨#[48]⟩] W fun e w' => e = .returned (.bool false) ∧ w' = W := fun W => by
    have cP := Tryz.strings_HasPrefix X ⟨#[48]⟩ W
    rw [hXL, show (⟨#[48]⟩ : ByteArray).data.toList = [48] from rfl, isL_prefix, show (isL [48] r2).isSome = false from by
      cases r2 with
      | nil => rfl
      | cons c t => rw [isL_ne _ _ (fun e => H.out.2.2.2.2.2.2.2.2.1 t (by rw [e]))]; rfl] at cP
    exact cP
  have htk : takeN r2 = digsL r2 := by
    cases r2 with
    | nil => rfl
    | cons c t => simp only [takeN]; rw [if_neg (fun e => H.out.2.2.2.2.2.2.2.2.1 t (by rw [e]))]
  have H2 := Lib.hid (And.intro hB2 (And.intro hz2 (And.intro hO2 (And.intro hE2 (And.intro hd2 (And.intro hk2 (And.intro htk cP)))))))
  clear hB2 hz2 hO2 hE2 hd2 htk cP hk2 hS hSs hB' hXL ho2
  go_wp2
  go_quiet ((go_at_call 60; exact Calls.quiet_of_same (H2.out.2.2.2.2.2.2.2 _)))
  go_wp2_with fail
  refine (digits_rb rb s k2 0 (w2.drewN nq) H.out.2.2.2.1 H2.out.2.2.2.2.2.1 H2.out.1).mono ?_
  rintro e w3 ⟨rfl, hB3, ho3'⟩
  have ho3 : Only (· = rb) w2 w3 := (Only.drewN _ w2 nq).trans ho3'
  rw [H2.out.2.2.2.2.1] at hB3 ⊢
  have hz3 := H2.out.2.1.only ho3 (fun e => by have e2 : P = rb := e; have := H.out.2.2.2.2.2.2.2.1; have := H.out.2.2.2.2.1; omega)
  have hE3 := H2.out.2.2.2.1.only (by have := H2.out.1.lt; have := H.out.2.2.2.2.2.2.1; omega) ho3 (fun g hg e => by have e2 : g = rb := e; have := H.out.2.2.2.2.2.2.1; omega)
  have hO3 := H2.out.2.2.1.trans ho3
  obtain ⟨k3, hk3⟩ : ∃ k, k2 + (digsL r2).length = k := ⟨_, rfl⟩
  have hdl := digs_le r2
  have hr2l := congrArg List.length H2.out.2.2.2.2.1
  rw [List.length_drop] at hr2l
  obtain ⟨D, hD⟩ : ∃ D, BA (digsL r2) = D := ⟨_, rfl⟩
  obtain ⟨T, hT⟩ : ∃ T : ByteArray, (⟨#[]⟩ : ByteArray) ++ D = T := ⟨_, rfl⟩
  have hnS : NumS s false r2 k3 T := ⟨by have := H2.out.2.2.2.2.2.1; omega, by rw [H2.out.2.2.2.2.2.2.1, ← hk3, ← List.drop_drop, H2.out.2.2.2.2.1], by rw [← hT, ← hD, H2.out.2.2.2.2.2.2.1]; exact ba_add [] (digsL r2)⟩
  rw [hk3] at hB3
  have HN := Lib.hid (And.intro hB3 (And.intro hz3 (And.intro hO3 (And.intro hE3 hnS))))
  have HT := Lib.hid (show (takeN r2).length ≤ s.length by rw [H2.out.2.2.2.2.2.2.1]; omega)
  rw [hD]
  have hDs : D.size ≤ 1000000 := by rw [← hD, ba_size]; have := H.out.2.2.2.1; omega
  have hg1 : ¬ 9223372036854775807 < D.size := by omega
  have hg2 : ¬ 9223372036854775807 < 0 + D.size := by omega
  clear hB3 ho3 ho3' hz3 hE3 hO3 hk3 hD hnS hdl hr2l c0 c1 f1 hX hDs
  have hParse := parse_any T w3 (by rw [HN.out.2.2.2.2.text, ba_size, List.length_append]; have h1 := HN.out.2.2.2.2.le; have h2 := takeN_le r2; have h3 := HT.out; have h4 : (sgnL false).length ≤ 1 := (by decide); have := H.out.2.2.2.1; omega) HN.out.2.2.2.1
  have HPA := Lib.hid hParse
  clear hParse
  go_wp2_with fail
  refine HPA.out.mono ?_
  rintro e w4 ⟨n, ev, rfl, hev, hb4⟩
  have hB4 : RB w4 rb s k3 0 := Blk.below HN.out.1 hb4
  have hz4 : Blk w4 P 28 [.int .i64 0, .int .i64 0, .string ⟨#[]⟩, .slice none 0 0, .slice none 0 0] := HN.out.2.1.below hb4
  have ho4 : Only (· = rb) w w4 := HN.out.2.2.1.trans (Only.ofBelow hb4 (· = rb))
  rw [show T.data.toList = sgnL false ++ takeN r2 by rw [HN.out.2.2.2.2.text]] at hev
  obtain ⟨S3, hS3⟩ : ∃ S, BA s = S := ⟨_, rfl⟩
  have hSs3 : S3.size = s.length := by rw [← hS3, ba_size]
  have hB4' : Blk w4 rb 64 [.string S3, .int .i64 k3, .int .i64 0] := by rw [← hS3]; exact hB4
  by_cases hT0 : takeN r2 = []
  · have hnum := numP_none (m := false) hT0
    have hTe : T = ⟨#[]⟩ := by rw [HN.out.2.2.2.2.text, hT0]; rfl
    subst hTe
    have H4 := Lib.hid (And.intro hB4 (And.intro hz4 (And.intro ho4 hnum)))
    clear hB4 hz4 ho4 hnum hev hS3 hSs3 hB4' hT0 hb4
    go_wp2_with fail
    refine (wrong_rb rb s k3 0 1 (w4) H4.out.1).mono ?_
    rintro e w5 ⟨rfl, hB5, ho5⟩
    rw [if_pos rfl] at hB5
    have hz5 : Blk w5 P 28 [.int .i64 0, .int .i64 0, .string ⟨#[]⟩, .slice none 0 0, .slice none 0 0] := Blk.only (w := w4) H4.out.2.1 ho5 (fun e => by have e2 : P = rb := e; have := H.out.2.2.2.2.2.2.2.1; have := H.out.2.2.2.2.1; omega)
    obtain ⟨W5, hW5⟩ : ∃ W5, (((((w5.setCell ⟨P, 0, none⟩ (.int .i64 2)).setCell ⟨P, 1, none⟩ (.int .i64 n)).setCell ⟨P, 2, none⟩ (.string ⟨#[]⟩)).setCell ⟨P, 3, none⟩ (.slice none 0 0)).setCell ⟨P, 4, none⟩ (.slice none 0 0)) = W5 := ⟨_, rfl⟩
    have HF := Lib.hid (And.intro hW5 (cell_end (res := numP false r2) H.out.2.2.2.2.1 (by have := H.out.2.2.2.2.2.2.2.1; have := H.out.2.2.2.2.1; omega) hz5 (H4.out.2.2.1.trans ho5) ⟨_, _, _, _, _, _, _, _, _, rfl⟩ (by rw [H4.out.2.2.2]; exact RS.of HN.out.2.2.2.2.le hB5 (by decide)) hW5))
    have r0 := hz5.cell 0
    have g0 := hz5.frozen 0
    have r1 := hz5.cell 1
    have g1 := hz5.frozen 1
    have r2 := hz5.cell 2
    have g2 := hz5.frozen 2
    have r3 := hz5.cell 3
    have g3 := hz5.frozen 3
    have r4 := hz5.cell 4
    have g4 := hz5.frozen 4
    clear hW5 hB5 ho5 hz5
    go_wp2
    rw [HF.out.1]
    (try simp only [Exit.inBlock, Exit.then])
    refine bodyPost_ret ?_ rfl HF.out.2.2
    exact results_cell_row rfl _ W5 P 28 _ (0, 0) _ rfl HF.out.2.1 Tryz.underlying28 rfl (by kernel_rfl)
  · have hTne := hT0
    have hx : ∃ c t, takeN r2 = c :: t ∧ c ≠ 45 := by
      have hall := takeN_all r2
      revert hTne hall
      cases takeN r2 with
      | nil => intro h; exact absurd rfl h
      | cons c t => intro _ hall; exact ⟨c, t, rfl, by rintro rfl; exact absurd (hall 45 (List.mem_cons_self ..)) (by decide)⟩
    have hq1 : T.toList.isEmpty = false := by
      obtain ⟨c, t, hct, _⟩ := hx
      rw [Lib.toList_data, HN.out.2.2.2.2.text]
      show (sgnL false ++ takeN r2).isEmpty = false
      rw [hct]; rfl
    have hq2 : (T.toList == [45]) = false := by
      obtain ⟨c, t, hct, hc⟩ := hx
      rw [Lib.toList_data, HN.out.2.2.2.2.text]
      show ((sgnL false ++ takeN r2) == [45]) = false
      rw [hct, beq_eq_false_iff_ne]
      intro e
      rw [show sgnL false = [] from rfl] at e; injection e with e1 e2; exact hc e1
    rcases hev with ⟨rfl, hpo⟩ | ⟨⟨ty, uu, rfl⟩, hpn⟩
    · -- the number is one
      by_cases hp : k3 < S3.size
      · have hpz : (k3 : Int) < (S3.size : Int) := by omega
        have hple : (k3 : Int) ≤ (S3.size : Int) := by omega
        have hp0 : (0 : Int) ≤ (k3 : Int) := by omega
        obtain ⟨b, hb⟩ : ∃ b, S3[k3]'hp = b := ⟨_, rfl⟩
        have hsb : s[k3]'(by omega) = b := by
          have h9 := hS3
          subst h9
          rw [← hb]; rfl
        have hdr : r2.drop (takeN r2).length = b :: s.drop (k3 + 1) := by rw [← HN.out.2.2.2.2.drop, List.drop_eq_getElem_cons (by omega), hsb]
        have cI : ∀ W, Calls Tryz.prog 55 #[.string ⟨#[46, 101, 69]⟩, .int .u8 (b.toNat : Int)] W fun e w' => e = .returned (.int .i64 (Lib.indexByte [46, 101, 69] b)) ∧ w' = W := fun W => by
          have h := Tryz.strings_IndexByte ⟨#[46, 101, 69]⟩ (b.toNat : Int) W
          rw [show ((b.toNat : Int).toNat.toUInt8) = b by simp] at h
          exact h
        have hix := index_dot b
        obtain ⟨Z, hZ⟩ : ∃ Z, Lib.indexByte [46, 101, 69] b = Z := ⟨_, rfl⟩
        rw [hZ] at hix
        simp only [hZ] at cI
        have HC := Lib.hid cI
        have e0 := hB4'.cell 0
        have e1 := hB4'.cell 1
        clear hsb hZ cI
        cases hdt : isDot [b] with
        | true =>
          have hz : 0 ≤ Z := hix.1 hdt
          have hnum := numP_dot (m := false) hTne (by rw [hdr, isDot_cons]; exact hdt)
          have H4 := Lib.hid (And.intro hB4 (And.intro hz4 (And.intro ho4 hnum)))
          clear hB4 hz4 ho4 hnum hpo hS3 hSs3 hB4' hTne hx hdr hdt hix hb4
          go_wp2
          go_quiet ((go_at_call 55; exact Calls.quiet_of_same (HC.out _)))
          go_wp2_with fail
          refine (wrong_rb rb s k3 0 4 (w4.drewN _) H4.out.1).mono ?_
          rintro e w5 ⟨rfl, hB5, ho5⟩
          rw [if_pos rfl] at hB5
          have hz5 : Blk w5 P 28 [.int .i64 0, .int .i64 0, .string ⟨#[]⟩, .slice none 0 0, .slice none 0 0] := Blk.only (w := w4.drewN _) H4.out.2.1 ho5 (fun e => by have e2 : P = rb := e; have := H.out.2.2.2.2.2.2.2.1; have := H.out.2.2.2.2.1; omega)
          obtain ⟨W5, hW5⟩ : ∃ W5, (((((w5.setCell ⟨P, 0, none⟩ (.int .i64 2)).setCell ⟨P, 1, none⟩ (.int .i64 n)).setCell ⟨P, 2, none⟩ (.string ⟨#[]⟩)).setCell ⟨P, 3, none⟩ (.slice none 0 0)).setCell ⟨P, 4, none⟩ (.slice none 0 0)) = W5 := ⟨_, rfl⟩
          have HF := Lib.hid (And.intro hW5 (cell_end (res := numP false r2) H.out.2.2.2.2.1 (by have := H.out.2.2.2.2.2.2.2.1; have := H.out.2.2.2.2.1; omega) hz5 ((H4.out.2.2.1.trans (Only.drewN _ _ _)).trans ho5) ⟨_, _, _, _, _, _, _, _, _, rfl⟩ (by rw [H4.out.2.2.2]; exact RS.of HN.out.2.2.2.2.le hB5 (by decide)) hW5))
          have r0 := hz5.cell 0
          have g0 := hz5.frozen 0
          have r1 := hz5.cell 1
          have g1 := hz5.frozen 1
          have r2 := hz5.cell 2
          have g2 := hz5.frozen 2
          have r3 := hz5.cell 3
          have g3 := hz5.frozen 3
          have r4 := hz5.cell 4
          have g4 := hz5.frozen 4
          clear hW5 hB5 ho5 hz5
          go_wp2
          rw [HF.out.1]
          (try simp only [Exit.inBlock, Exit.then])
          refine bodyPost_ret ?_ rfl HF.out.2.2
          exact results_cell_row rfl _ W5 P 28 _ (0, 0) _ rfl HF.out.2.1 Tryz.underlying28 rfl (by kernel_rfl)
        | false =>
          have hz : Z = -1 := hix.2 hdt
          subst hz
          obtain ⟨hnum, hrg⟩ := numP_ok hTne (by rw [hdr, isDot_cons]; exact hdt) hpo
          have H4 := Lib.hid (And.intro hB4 (And.intro hz4 (And.intro ho4 (And.intro hnum hrg))))
          clear hB4 ho4 hnum hpo hS3 hSs3 hB4' hTne hx hdr hdt hix hb4 hrg
          have r0 := hz4.cell 0
          have g0 := hz4.frozen 0
          go_wp2
          go_quiet ((go_at_call 55; exact Calls.quiet_of_same (HC.out _)))
          skip
          obtain ⟨W5, hW5⟩ : ∃ W5, ((((((w4.drewN nq).setCell ⟨P, 0, none⟩ (.int .i64 2)).setCell ⟨P, 1, none⟩ (.int .i64 n)).setCell ⟨P, 2, none⟩ (.string ⟨#[]⟩)).setCell ⟨P, 3, none⟩ (.slice none 0 0)).setCell ⟨P, 4, none⟩ (.slice none 0 0)) = W5 := ⟨_, rfl⟩
          have hz5 : Blk (w4.drewN nq) P 28 [.int .i64 0, .int .i64 0, .string ⟨#[]⟩, .slice none 0 0, .slice none 0 0] := H4.out.2.1
          have HF := Lib.hid (And.intro hW5 (cell_end (res := numP false r2) H.out.2.2.2.2.1 (by have := H.out.2.2.2.2.2.2.2.1; have := H.out.2.2.2.2.1; omega) hz5 (H4.out.2.2.1.trans (Only.drewN _ _ _)) ⟨_, _, _, _, _, _, _, _, _, rfl⟩ (by rw [H4.out.2.2.2.1]; exact ⟨VAt.int n H4.out.2.2.2.2, k3, HN.out.2.2.2.2.le, HN.out.2.2.2.2.drop, H4.out.1⟩) hW5))
          have r0 := hz5.cell 0
          have g0 := hz5.frozen 0
          have r1 := hz5.cell 1
          have g1 := hz5.frozen 1
          have r2 := hz5.cell 2
          have g2 := hz5.frozen 2
          have r3 := hz5.cell 3
          have g3 := hz5.frozen 3
          have r4 := hz5.cell 4
          have g4 := hz5.frozen 4
          clear hW5 hz5
          go_wp2
          rw [HF.out.1]
          (try simp only [Exit.inBlock, Exit.then])
          refine bodyPost_ret ?_ rfl HF.out.2.2
          exact results_cell_row rfl _ W5 P 28 _ (0, 0) _ rfl HF.out.2.1 Tryz.underlying28 rfl (by kernel_rfl)
      · have hpz : ¬ (k3 : Int) < (S3.size : Int) := by omega
        have hpd : decide (k3 < S3.size) = false := decide_eq_false hp
        have hdr : r2.drop (takeN r2).length = [] := by rw [← HN.out.2.2.2.2.drop, List.drop_eq_nil_of_le (by omega)]
        obtain ⟨hnum, hrg⟩ := numP_ok hTne (by rw [hdr]; rfl) hpo
        have H4 := Lib.hid (And.intro hB4 (And.intro hz4 (And.intro ho4 (And.intro hnum hrg))))
        have e0 := hB4'.cell 0
        have e1 := hB4'.cell 1
        clear hB4 ho4 hnum hpo hS3 hSs3 hB4' hTne hx hdr hb4 hrg
        go_wp2
        go_quiet (fail)
        skip
        obtain ⟨W5, hW5⟩ : ∃ W5, ((((((w4.drewN nq).setCell ⟨P, 0, none⟩ (.int .i64 2)).setCell ⟨P, 1, none⟩ (.int .i64 n)).setCell ⟨P, 2, none⟩ (.string ⟨#[]⟩)).setCell ⟨P, 3, none⟩ (.slice none 0 0)).setCell ⟨P, 4, none⟩ (.slice none 0 0)) = W5 := ⟨_, rfl⟩
        have hz5 : Blk (w4.drewN nq) P 28 [.int .i64 0, .int .i64 0, .string ⟨#[]⟩, .slice none 0 0, .slice none 0 0] := H4.out.2.1
        have HF := Lib.hid (And.intro hW5 (cell_end (res := numP false r2) H.out.2.2.2.2.1 (by have := H.out.2.2.2.2.2.2.2.1; have := H.out.2.2.2.2.1; omega) hz5 (H4.out.2.2.1.trans (Only.drewN _ _ _)) ⟨_, _, _, _, _, _, _, _, _, rfl⟩ (by rw [H4.out.2.2.2.1]; exact ⟨VAt.int n H4.out.2.2.2.2, k3, HN.out.2.2.2.2.le, HN.out.2.2.2.2.drop, H4.out.1⟩) hW5))
        have r0 := hz5.cell 0
        have g0 := hz5.frozen 0
        have r1 := hz5.cell 1
        have g1 := hz5.frozen 1
        have r2 := hz5.cell 2
        have g2 := hz5.frozen 2
        have r3 := hz5.cell 3
        have g3 := hz5.frozen 3
        have r4 := hz5.cell 4
        have g4 := hz5.frozen 4
        clear hW5 hz5
        go_wp2
        rw [HF.out.1]
        (try simp only [Exit.inBlock, Exit.then])
        refine bodyPost_ret ?_ rfl HF.out.2.2
        exact results_cell_row rfl _ W5 P 28 _ (0, 0) _ rfl HF.out.2.1 Tryz.underlying28 rfl (by kernel_rfl)
    · -- no number of 64 bits
      have hnum := numP_far (m := false) hTne hpn
      have H4 := Lib.hid (And.intro hB4 (And.intro hz4 (And.intro ho4 hnum)))
      have e0 := hB4'.cell 0
      have e1 := hB4'.cell 1
      clear hB4 hz4 ho4 hnum hpn hS3 hSs3 hB4' hTne hx hb4
      go_wp2
      go_quiet (fail)
      go_wp2_with fail
      refine (wrong_rb rb s k3 0 4 (w4.drewN _) H4.out.1).mono ?_
      rintro e w5 ⟨rfl, hB5, ho5⟩
      rw [if_pos rfl] at hB5
      have hz5 : Blk w5 P 28 [.int .i64 0, .int .i64 0, .string ⟨#[]⟩, .slice none 0 0, .slice none 0 0] := Blk.only (w := w4.drewN _) H4.out.2.1 ho5 (fun e => by have e2 : P = rb := e; have := H.out.2.2.2.2.2.2.2.1; have := H.out.2.2.2.2.1; omega)
      obtain ⟨W5, hW5⟩ : ∃ W5, (((((w5.setCell ⟨P, 0, none⟩ (.int .i64 2)).setCell ⟨P, 1, none⟩ (.int .i64 n)).setCell ⟨P, 2, none⟩ (.string ⟨#[]⟩)).setCell ⟨P, 3, none⟩ (.slice none 0 0)).setCell ⟨P, 4, none⟩ (.slice none 0 0)) = W5 := ⟨_, rfl⟩
      have HF := Lib.hid (And.intro hW5 (cell_end (res := numP false r2) H.out.2.2.2.2.1 (by have := H.out.2.2.2.2.2.2.2.1; have := H.out.2.2.2.2.1; omega) hz5 ((H4.out.2.2.1.trans (Only.drewN _ _ _)).trans ho5) ⟨_, _, _, _, _, _, _, _, _, rfl⟩ (by rw [H4.out.2.2.2]; exact RS.of HN.out.2.2.2.2.le hB5 (by decide)) hW5))
      have r0 := hz5.cell 0
      have g0 := hz5.frozen 0
      have r1 := hz5.cell 1
      have g1 := hz5.frozen 1
      have r2 := hz5.cell 2
      have g2 := hz5.frozen 2
      have r3 := hz5.cell 3
      have g3 := hz5.frozen 3
      have r4 := hz5.cell 4
      have g4 := hz5.frozen 4
      clear hW5 hB5 ho5 hz5
      go_wp2
      rw [HF.out.1]
      (try simp only [Exit.inBlock, Exit.then])
      refine bodyPost_ret ?_ rfl HF.out.2.2
      exact results_cell_row rfl _ W5 P 28 _ (0, 0) _ rfl HF.out.2.1 Tryz.underlying28 rfl (by kernel_rfl)

set_option maxHeartbeats 8000000 in
set_option maxRecDepth 100000 in
theorem num_pz (rb : Nat) (s r r2 : BL) (w : World) (hs : s.length ≤ 1000000) (hR : RS w rb s (.ok r)) (hE : Env w) (hrb : 11 ≤ rb) (hb : isB [45] (.ok r) = false) (hst : isS [45] (.ok r) = .ok r2) (hz : ∃ t, r2 = 48 :: t) (hn : numR r = numP false r2) :
    Calls Tryz.prog 62 #[.pointer (some ⟨rb, 0, none⟩)] w (ValPost w rb s (numR r)) := by
  rw [hn]
  obtain ⟨P, hP⟩ : ∃ P, w.heap.size = P := ⟨_, rfl⟩
  obtain ⟨W0, hW0⟩ : ∃ W, w.alloc (.cells #[.int .i64 0, .int .i64 0, .string ⟨#[]⟩, .slice none 0 0, .slice none 0 0] 28) = W := ⟨_, rfl⟩
  have hlt := hR.lt
  have hb0 : Below w.heap.size w W0 := by rw [← hW0]; exact (Below.refl _ w).alloc (Nat.le_refl _) _
  have hz0 : Blk W0 P 28 [.int .i64 0, .int .i64 0, .string ⟨#[]⟩, .slice none 0 0, .slice none 0 0] := by rw [← hW0, ← hP]; exact heap_alloc_new w _
  have hc := is_any rb ⟨#[45]⟩ [45] s (.ok r) W0 rfl hs (hR.below hb0)
  rw [hb, hst] at hc
  have hEW := hE.below (by omega) hb0
  have H := Lib.hid (And.intro hc (And.intro hz0 (And.intro hb0 (And.intro hs (And.intro hP (And.intro hW0 (And.intro hrb (And.intro hlt (And.intro hz hEW)))))))))
  clear hc hz0 hb0 hs hW0 hrb hlt hz hR hE hb hst hEW hn
  go_enter Tryz.func62, Tryz.ntmps62
  go_wp2_with fail
  rw [H.out.2.2.2.2.2.1]
  (try rw [hP])
  clear hP
  refine H.out.1.mono ?_
  rintro e w2 ⟨rfl, hr2, ho2⟩
  obtain ⟨k2, hk2, hd2, hB2⟩ := hr2
  have hz2 : Blk w2 P 28 [.int .i64 0, .int .i64 0, .string ⟨#[]⟩, .slice none 0 0, .slice none 0 0] := H.out.2.1.only ho2 (fun e => by have e2 : P = rb := e; have := H.out.2.2.2.2.2.2.2.1; have := H.out.2.2.2.2.1; omega)
  have hE2 : Env w2 := H.out.2.2.2.2.2.2.2.2.2.only (by have := H.out.2.2.1.size; have := H.out.2.2.2.2.2.2.1; have := H.out.2.2.2.2.2.2.2.1; omega) ho2 (fun g hg e => by have e2 : g = rb := e; have := H.out.2.2.2.2.2.2.1; omega)
  have hO2 : Only (· = rb) w w2 := (Only.ofBelow H.out.2.2.1 (· = rb)).trans ho2
  obtain ⟨S, hS⟩ : ∃ S, BA s = S := ⟨_, rfl⟩
  have hSs : S.size = s.length := by rw [← hS, ba_size]
  have hB' : Blk w2 rb 64 [.string S, .int .i64 k2, .int .i64 0] := by rw [← hS]; exact hB2
  obtain ⟨X, hX⟩ : ∃ X, S.extract k2 S.size = X := ⟨_, rfl⟩
  have hXL : X.data.toList = r2 := by rw [← hX, ← hS, ba_ext, hd2]
  have hkz : (k2 : Int) ≤ (S.size : Int) := by omega
  have hk0 : (0 : Int) ≤ (k2 : Int) := by omega
  have c0 := hB'.cell 0
  have c1 := hB'.cell 1
  have f1 := hB'.frozen 1
  have cP : ∀ W, Calls Tryz.prog 60 #[.string X, .string ⟨#[48]⟩] W fun e w' => e = .returned (.bool true) ∧ w' = W := fun W => by
    have cP := Tryz.strings_HasPrefix X ⟨#[48]⟩ W
    rw [hXL, show (⟨#[48]⟩ : ByteArray).data.toList = [48] from rfl, isL_prefix, show (isL [48] r2).isSome = true from by
      obtain ⟨t, rfl⟩ := H.out.2.2.2.2.2.2.2.2.1
      rw [isL_one]; rfl] at cP
    exact cP
  have hr2l : k2 + 1 ≤ s.length := by
    obtain ⟨t, rfl⟩ := H.out.2.2.2.2.2.2.2.2.1
    have := congrArg List.length hd2
    rw [List.length_drop, List.length_cons] at this
    omega
  have htk : takeN r2 = [48] := by
    obtain ⟨t, rfl⟩ := H.out.2.2.2.2.2.2.2.2.1
    simp only [takeN, if_true]
  have hw1 : IntKind.i64.wrap ((k2 : Int) + 1) = ((k2 + 1 : Nat) : Int) := by rw [IntWalk.i64_in _ (by have := H.out.2.2.2.1; omega)]; omega
  have H2 := Lib.hid (And.intro hB2 (And.intro hz2 (And.intro hO2 (And.intro hE2 (And.intro hd2 (And.intro hr2l (And.intro htk cP)))))))
  clear hB2 hz2 hO2 hE2 hd2 hr2l htk cP hk2 hS hSs hB' hXL ho2
  go_wp2
  go_quiet ((go_at_call 60; exact Calls.quiet_of_same (H2.out.2.2.2.2.2.2.2 _)))
  obtain ⟨w3, hw3⟩ : ∃ w3, (w2.drewN nq).setCell ⟨rb, 1, none⟩ (.int .i64 ((k2 : Int) + 1)) = w3 := ⟨_, rfl⟩
  have hB3 : RB w3 rb s (k2 + 1) 0 := by rw [← hw3]; exact Blk.set (w := w2.drewN nq) H2.out.1 1 _
  have ho3 : Only (· = rb) w2 w3 := by rw [← hw3]; exact (Only.drewN _ w2 nq).trans (Only.set1 _ _ _ _)
  have hz3 := H2.out.2.1.only ho3 (fun e => by have e2 : P = rb := e; have := H.out.2.2.2.2.2.2.2.1; have := H.out.2.2.2.2.1; omega)
  have hE3 := H2.out.2.2.2.1.only (by have := H2.out.1.lt; have := H.out.2.2.2.2.2.2.1; omega) ho3 (fun g hg e => by have e2 : g = rb := e; have := H.out.2.2.2.2.2.2.1; omega)
  have hO3 := H2.out.2.2.1.trans ho3
  have HW := Lib.hid hw3
  clear hw3
  go_wp2_with fail
  have hw3 := HW.out
  obtain ⟨k3, hk3⟩ : ∃ k, k2 + 1 = k := ⟨_, rfl⟩
  obtain ⟨T, hT⟩ : ∃ T : ByteArray, (⟨#[]⟩ : ByteArray) ++ ⟨#[48]⟩ = T := ⟨_, rfl⟩
  have hnS : NumS s false r2 k3 T := ⟨by rw [← hk3]; exact H2.out.2.2.2.2.2.1, by rw [H2.out.2.2.2.2.2.2.1, ← hk3, ← List.drop_drop, H2.out.2.2.2.2.1]; rfl, by rw [← hT, H2.out.2.2.2.2.2.2.1]; rfl⟩
  rw [hk3] at hB3
  have HN := Lib.hid (And.intro hB3 (And.intro hz3 (And.intro hO3 (And.intro hE3 hnS))))
  have HZ := Lib.hid H2.out.2.2.2.2.2.2.1
  have HT := Lib.hid (show (takeN r2).length ≤ s.length by rw [H2.out.2.2.2.2.2.2.1]; have := H2.out.2.2.2.2.2.1; simp; omega)
  (try rw [hw3])
  (try simp only [hT])
  clear hB3 ho3 hz3 hE3 hO3 hw3 hk3 hT hnS c0 c1 f1 hX
  have hParse := parse_any T w3 (by rw [HN.out.2.2.2.2.text, ba_size, List.length_append]; have h1 := HN.out.2.2.2.2.le; have h2 := takeN_le r2; have h3 := HT.out; have h4 : (sgnL false).length ≤ 1 := (by decide); have := H.out.2.2.2.1; omega) HN.out.2.2.2.1
  have HPA := Lib.hid hParse
  clear hParse
  go_wp2_with fail
  refine HPA.out.mono ?_
  rintro e w4 ⟨n, ev, rfl, hev, hb4⟩
  have hB4 : RB w4 rb s k3 0 := Blk.below HN.out.1 hb4
  have hz4 : Blk w4 P 28 [.int .i64 0, .int .i64 0, .string ⟨#[]⟩, .slice none 0 0, .slice none 0 0] := HN.out.2.1.below hb4
  have ho4 : Only (· = rb) w w4 := HN.out.2.2.1.trans (Only.ofBelow hb4 (· = rb))
  rw [show T.data.toList = sgnL false ++ takeN r2 by rw [HN.out.2.2.2.2.text]] at hev
  obtain ⟨S3, hS3⟩ : ∃ S, BA s = S := ⟨_, rfl⟩
  have hSs3 : S3.size = s.length := by rw [← hS3, ba_size]
  have hB4' : Blk w4 rb 64 [.string S3, .int .i64 k3, .int .i64 0] := by rw [← hS3]; exact hB4
  have hTne : takeN r2 ≠ [] := by rw [HZ.out]; decide
  have hx : ∃ c t, takeN r2 = c :: t ∧ c ≠ 45 := by
    have hall := takeN_all r2
    revert hTne hall
    cases takeN r2 with
    | nil => intro h; exact absurd rfl h
    | cons c t => intro _ hall; exact ⟨c, t, rfl, by rintro rfl; exact absurd (hall 45 (List.mem_cons_self ..)) (by decide)⟩
  have hq1 : T.toList.isEmpty = false := by
    obtain ⟨c, t, hct, _⟩ := hx
    rw [Lib.toList_data, HN.out.2.2.2.2.text]
    show (sgnL false ++ takeN r2).isEmpty = false
    rw [hct]; rfl
  have hq2 : (T.toList == [45]) = false := by
    obtain ⟨c, t, hct, hc⟩ := hx
    rw [Lib.toList_data, HN.out.2.2.2.2.text]
    show ((sgnL false ++ takeN r2) == [45]) = false
    rw [hct, beq_eq_false_iff_ne]
    intro e
    rw [show sgnL false = [] from rfl] at e; injection e with e1 e2; exact hc e1
  rcases hev with ⟨rfl, hpo⟩ | ⟨⟨ty, uu, rfl⟩, hpn⟩
  · -- the number is one
    by_cases hp : k3 < S3.size
    · have hpz : (k3 : Int) < (S3.size : Int) := by omega
      have hple : (k3 : Int) ≤ (S3.size : Int) := by omega
      have hp0 : (0 : Int) ≤ (k3 : Int) := by omega
      obtain ⟨b, hb⟩ : ∃ b, S3[k3]'hp = b := ⟨_, rfl⟩
      have hsb : s[k3]'(by omega) = b := by
        have h9 := hS3
        subst h9
        rw [← hb]; rfl
      have hdr : r2.drop (takeN r2).length = b :: s.drop (k3 + 1) := by rw [← HN.out.2.2.2.2.drop, List.drop_eq_getElem_cons (by omega), hsb]
      have cI : ∀ W, Calls Tryz.prog 55 #[.string ⟨#[46, 101, 69]⟩, .int .u8 (b.toNat : Int)] W fun e w' => e = .returned (.int .i64 (Lib.indexByte [46, 101, 69] b)) ∧ w' = W := fun W => by
        have h := Tryz.strings_IndexByte ⟨#[46, 101, 69]⟩ (b.toNat : Int) W
        rw [show ((b.toNat : Int).toNat.toUInt8) = b by simp] at h
        exact h
      have hix := index_dot b
      obtain ⟨Z, hZ⟩ : ∃ Z, Lib.indexByte [46, 101, 69] b = Z := ⟨_, rfl⟩
      rw [hZ] at hix
      simp only [hZ] at cI
      have HC := Lib.hid cI
      have e0 := hB4'.cell 0
      have e1 := hB4'.cell 1
      clear hsb hZ cI
      cases hdt : isDot [b] with
      | true =>
        have hz : 0 ≤ Z := hix.1 hdt
        have hnum := numP_dot (m := false) hTne (by rw [hdr, isDot_cons]; exact hdt)
        have H4 := Lib.hid (And.intro hB4 (And.intro hz4 (And.intro ho4 hnum)))
        clear hB4 hz4 ho4 hnum hpo hS3 hSs3 hB4' hTne hx hdr hdt hix hb4
        go_wp2
        go_quiet ((go_at_call 55; exact Calls.quiet_of_same (HC.out _)))
        go_wp2_with fail
        refine (wrong_rb rb s k3 0 4 (w4.drewN _) H4.out.1).mono ?_
        rintro e w5 ⟨rfl, hB5, ho5⟩
        rw [if_pos rfl] at hB5
        have hz5 : Blk w5 P 28 [.int .i64 0, .int .i64 0, .string ⟨#[]⟩, .slice none 0 0, .slice none 0 0] := Blk.only (w := w4.drewN _) H4.out.2.1 ho5 (fun e => by have e2 : P = rb := e; have := H.out.2.2.2.2.2.2.2.1; have := H.out.2.2.2.2.1; omega)
        obtain ⟨W5, hW5⟩ : ∃ W5, (((((w5.setCell ⟨P, 0, none⟩ (.int .i64 2)).setCell ⟨P, 1, none⟩ (.int .i64 n)).setCell ⟨P, 2, none⟩ (.string ⟨#[]⟩)).setCell ⟨P, 3, none⟩ (.slice none 0 0)).setCell ⟨P, 4, none⟩ (.slice none 0 0)) = W5 := ⟨_, rfl⟩
        have HF := Lib.hid (And.intro hW5 (cell_end (res := numP false r2) H.out.2.2.2.2.1 (by have := H.out.2.2.2.2.2.2.2.1; have := H.out.2.2.2.2.1; omega) hz5 ((H4.out.2.2.1.trans (Only.drewN _ _ _)).trans ho5) ⟨_, _, _, _, _, _, _, _, _, rfl⟩ (by rw [H4.out.2.2.2]; exact RS.of HN.out.2.2.2.2.le hB5 (by decide)) hW5))
        have r0 := hz5.cell 0
        have g0 := hz5.frozen 0
        have r1 := hz5.cell 1
        have g1 := hz5.frozen 1
        have r2 := hz5.cell 2
        have g2 := hz5.frozen 2
        have r3 := hz5.cell 3
        have g3 := hz5.frozen 3
        have r4 := hz5.cell 4
        have g4 := hz5.frozen 4
        clear hW5 hB5 ho5 hz5
        go_wp2
        rw [HF.out.1]
        (try simp only [Exit.inBlock, Exit.then])
        refine bodyPost_ret ?_ rfl HF.out.2.2
        exact results_cell_row rfl _ W5 P 28 _ (0, 0) _ rfl HF.out.2.1 Tryz.underlying28 rfl (by kernel_rfl)
      | false =>
        have hz : Z = -1 := hix.2 hdt
        subst hz
        obtain ⟨hnum, hrg⟩ := numP_ok hTne (by rw [hdr, isDot_cons]; exact hdt) hpo
        have H4 := Lib.hid (And.intro hB4 (And.intro hz4 (And.intro ho4 (And.intro hnum hrg))))
        clear hB4 ho4 hnum hpo hS3 hSs3 hB4' hTne hx hdr hdt hix hb4 hrg
        have r0 := hz4.cell 0
        have g0 := hz4.frozen 0
        go_wp2
        go_quiet ((go_at_call 55; exact Calls.quiet_of_same (HC.out _)))
        skip
        obtain ⟨W5, hW5⟩ : ∃ W5, ((((((w4.drewN nq).setCell ⟨P, 0, none⟩ (.int .i64 2)).setCell ⟨P, 1, none⟩ (.int .i64 n)).setCell ⟨P, 2, none⟩ (.string ⟨#[]⟩)).setCell ⟨P, 3, none⟩ (.slice none 0 0)).setCell ⟨P, 4, none⟩ (.slice none 0 0)) = W5 := ⟨_, rfl⟩
        have hz5 : Blk (w4.drewN nq) P 28 [.int .i64 0, .int .i64 0, .string ⟨#[]⟩, .slice none 0 0, .slice none 0 0] := H4.out.2.1
        have HF := Lib.hid (And.intro hW5 (cell_end (res := numP false r2) H.out.2.2.2.2.1 (by have := H.out.2.2.2.2.2.2.2.1; have := H.out.2.2.2.2.1; omega) hz5 (H4.out.2.2.1.trans (Only.drewN _ _ _)) ⟨_, _, _, _, _, _, _, _, _, rfl⟩ (by rw [H4.out.2.2.2.1]; exact ⟨VAt.int n H4.out.2.2.2.2, k3, HN.out.2.2.2.2.le, HN.out.2.2.2.2.drop, H4.out.1⟩) hW5))
        have r0 := hz5.cell 0
        have g0 := hz5.frozen 0
        have r1 := hz5.cell 1
        have g1 := hz5.frozen 1
        have r2 := hz5.cell 2
        have g2 := hz5.frozen 2
        have r3 := hz5.cell 3
        have g3 := hz5.frozen 3
        have r4 := hz5.cell 4
        have g4 := hz5.frozen 4
        clear hW5 hz5
        go_wp2
        rw [HF.out.1]
        (try simp only [Exit.inBlock, Exit.then])
        refine bodyPost_ret ?_ rfl HF.out.2.2
        exact results_cell_row rfl _ W5 P 28 _ (0, 0) _ rfl HF.out.2.1 Tryz.underlying28 rfl (by kernel_rfl)
    · have hpz : ¬ (k3 : Int) < (S3.size : Int) := by omega
      have hpd : decide (k3 < S3.size) = false := decide_eq_false hp
      have hdr : r2.drop (takeN r2).length = [] := by rw [← HN.out.2.2.2.2.drop, List.drop_eq_nil_of_le (by omega)]
      obtain ⟨hnum, hrg⟩ := numP_ok hTne (by rw [hdr]; rfl) hpo
      have H4 := Lib.hid (And.intro hB4 (And.intro hz4 (And.intro ho4 (And.intro hnum hrg))))
      have e0 := hB4'.cell 0
      have e1 := hB4'.cell 1
      clear hB4 ho4 hnum hpo hS3 hSs3 hB4' hTne hx hdr hb4 hrg
      go_wp2
      go_quiet (fail)
      skip
      obtain ⟨W5, hW5⟩ : ∃ W5, ((((((w4.drewN nq).setCell ⟨P, 0, none⟩ (.int .i64 2)).setCell ⟨P, 1, none⟩ (.int .i64 n)).setCell ⟨P, 2, none⟩ (.string ⟨#[]⟩)).setCell ⟨P, 3, none⟩ (.slice none 0 0)).setCell ⟨P, 4, none⟩ (.slice none 0 0)) = W5 := ⟨_, rfl⟩
      have hz5 : Blk (w4.drewN nq) P 28 [.int .i64 0, .int .i64 0, .string ⟨#[]⟩, .slice none 0 0, .slice none 0 0] := H4.out.2.1
      have HF := Lib.hid (And.intro hW5 (cell_end (res := numP false r2) H.out.2.2.2.2.1 (by have := H.out.2.2.2.2.2.2.2.1; have := H.out.2.2.2.2.1; omega) hz5 (H4.out.2.2.1.trans (Only.drewN _ _ _)) ⟨_, _, _, _, _, _, _, _, _, rfl⟩ (by rw [H4.out.2.2.2.1]; exact ⟨VAt.int n H4.out.2.2.2.2, k3, HN.out.2.2.2.2.le, HN.out.2.2.2.2.drop, H4.out.1⟩) hW5))
      have r0 := hz5.cell 0
      have g0 := hz5.frozen 0
      have r1 := hz5.cell 1
      have g1 := hz5.frozen 1
      have r2 := hz5.cell 2
      have g2 := hz5.frozen 2
      have r3 := hz5.cell 3
      have g3 := hz5.frozen 3
      have r4 := hz5.cell 4
      have g4 := hz5.frozen 4
      clear hW5 hz5
      go_wp2
      rw [HF.out.1]
      (try simp only [Exit.inBlock, Exit.then])
      refine bodyPost_ret ?_ rfl HF.out.2.2
      exact results_cell_row rfl _ W5 P 28 _ (0, 0) _ rfl HF.out.2.1 Tryz.underlying28 rfl (by kernel_rfl)
  · -- no number of 64 bits
    have hnum := numP_far (m := false) hTne hpn
    have H4 := Lib.hid (And.intro hB4 (And.intro hz4 (And.intro ho4 hnum)))
    have e0 := hB4'.cell 0
    have e1 := hB4'.cell 1
    clear hB4 hz4 ho4 hnum hpn hS3 hSs3 hB4' hTne hx hb4
    go_wp2
    go_quiet (fail)
    go_wp2_with fail
    refine (wrong_rb rb s k3 0 4 (w4.drewN _) H4.out.1).mono ?_
    rintro e w5 ⟨rfl, hB5, ho5⟩
    rw [if_pos rfl] at hB5
    have hz5 : Blk w5 P 28 [.int .i64 0, .int .i64 0, .string ⟨#[]⟩, .slice none 0 0, .slice none 0 0] := Blk.only (w := w4.drewN _) H4.out.2.1 ho5 (fun e => by have e2 : P = rb := e; have := H.out.2.2.2.2.2.2.2.1; have := H.out.2.2.2.2.1; omega)
    obtain ⟨W5, hW5⟩ : ∃ W5, (((((w5.setCell ⟨P, 0, none⟩ (.int .i64 2)).setCell ⟨P, 1, none⟩ (.int .i64 n)).setCell ⟨P, 2, none⟩ (.string ⟨#[]⟩)).setCell ⟨P, 3, none⟩ (.slice none 0 0)).setCell ⟨P, 4, none⟩ (.slice none 0 0)) = W5 := ⟨_, rfl⟩
    have HF := Lib.hid (And.intro hW5 (cell_end (res := numP false r2) H.out.2.2.2.2.1 (by have := H.out.2.2.2.2.2.2.2.1; have := H.out.2.2.2.2.1; omega) hz5 ((H4.out.2.2.1.trans (Only.drewN _ _ _)).trans ho5) ⟨_, _, _, _, _, _, _, _, _, rfl⟩ (by rw [H4.out.2.2.2]; exact RS.of HN.out.2.2.2.2.le hB5 (by decide)) hW5))
    have r0 := hz5.cell 0
    have g0 := hz5.frozen 0
    have r1 := hz5.cell 1
    have g1 := hz5.frozen 1
    have r2 := hz5.cell 2
    have g2 := hz5.frozen 2
    have r3 := hz5.cell 3
    have g3 := hz5.frozen 3
    have r4 := hz5.cell 4
    have g4 := hz5.frozen 4
    clear hW5 hB5 ho5 hz5
    go_wp2
    rw [HF.out.1]
    (try simp only [Exit.inBlock, Exit.then])
    refine bodyPost_ret ?_ rfl HF.out.2.2
    exact results_cell_row rfl _ W5 P 28 _ (0, 0) _ rfl HF.out.2.1 Tryz.underlying28 rfl (by kernel_rfl)

set_option maxHeartbeats 8000000 in
set_option maxRecDepth 100000 in
theorem num_mn (rb : Nat) (s r r2 : BL) (w : World) (hs : s.length ≤ 1000000) (hR : RS w rb s (.ok r)) (hE : Env w) (hrb : 11 ≤ rb) (hb : isB [45] (.ok r) = true) (hst : isS [45] (.ok r) = .ok r2) (hz : ∀ t, r2 ≠ 48 :: t) (hn : numR r = numP true r2) :
    Calls Tryz.prog 62 #[.pointer (some ⟨rb, 0, none⟩)] w (ValPost w rb s (numR r)) := by
  rw [hn]
  obtain ⟨P, hP⟩ : ∃ P, w.heap.size = P := ⟨_, rfl⟩
  obtain ⟨W0, hW0⟩ : ∃ W, w.alloc (.cells #[.int .i64 0, .int .i64 0, .string ⟨#[]⟩, .slice none 0 0, .slice none 0 0] 28) = W := ⟨_, rfl⟩
  have hlt := hR.lt
  have hb0 : Below w.heap.size w W0 := by rw [← hW0]; exact (Below.refl _ w).alloc (Nat.le_refl _) _
  have hz0 : Blk W0 P 28 [.int .i64 0, .int .i64 0, .string ⟨#[]⟩, .slice none 0 0, .slice none 0 0] := by rw [← hW0, ← hP]; exact heap_alloc_new w _
  have hc := is_any rb ⟨#[45]⟩ [45] s (.ok r) W0 rfl hs (hR.below hb0)
  rw [hb, hst] at hc
  have hEW := hE.below (by omega) hb0
  have H := Lib.hid (And.intro hc (And.intro hz0 (And.intro hb0 (And.intro hs (And.intro hP (And.intro hW0 (And.intro hrb (And.intro hlt (And.intro hz hEW)))))))))
  clear hc hz0 hb0 hs hW0 hrb hlt hz hR hE hb hst hEW hn
  go_enter Tryz.func62, Tryz.ntmps62
  go_wp2_with fail
  rw [H.out.2.2.2.2.2.1]
  (try rw [hP])
  clear hP
  refine H.out.1.mono ?_
  rintro e w2 ⟨rfl, hr2, ho2⟩
  obtain ⟨k2, hk2, hd2, hB2⟩ := hr2
  have hz2 : Blk w2 P 28 [.int .i64 0, .int .i64 0, .string ⟨#[]⟩, .slice none 0 0, .slice none 0 0] := H.out.2.1.only ho2 (fun e => by have e2 : P = rb := e; have := H.out.2.2.2.2.2.2.2.1; have := H.out.2.2.2.2.1; omega)
  have hE2 : Env w2 := H.out.2.2.2.2.2.2.2.2.2.only (by have := H.out.2.2.1.size; have := H.out.2.2.2.2.2.2.1; have := H.out.2.2.2.2.2.2.2.1; omega) ho2 (fun g hg e => by have e2 : g = rb := e; have := H.out.2.2.2.2.2.2.1; omega)
  have hO2 : Only (· = rb) w w2 := (Only.ofBelow H.out.2.2.1 (· = rb)).trans ho2
  obtain ⟨S, hS⟩ : ∃ S, BA s = S := ⟨_, rfl⟩
  have hSs : S.size = s.length := by rw [← hS, ba_size]
  have hB' : Blk w2 rb 64 [.string S, .int .i64 k2, .int .i64 0] := by rw [← hS]; exact hB2
  obtain ⟨X, hX⟩ : ∃ X, S.extract k2 S.size = X := ⟨_, rfl⟩
  have hXL : X.data.toList = r2 := by rw [← hX, ← hS, ba_ext, hd2]
  have hkz : (k2 : Int) ≤ (S.size : Int) := by omega
  have hk0 : (0 : Int) ≤ (k2 : Int) := by omega
  have c0 := hB'.cell 0
  have c1 := hB'.cell 1
  have f1 := hB'.frozen 1
  have cP : ∀ W, Calls Tryz.prog 60 #[.string X, .string ⟨#[48]⟩] W fun e w' => e = .returned (.bool false) ∧ w' = W := fun W => by
    have cP := Tryz.strings_HasPrefix X ⟨#[48]⟩ W
    rw [hXL, show (⟨#[48]⟩ : ByteArray).data.toList = [48] from rfl, isL_prefix, show (isL [48] r2).isSome = false from by
      cases r2 with
      | nil => rfl
      | cons c t => rw [isL_ne _ _ (fun e => H.out.2.2.2.2.2.2.2.2.1 t (by rw [e]))]; rfl] at cP
    exact cP
  have htk : takeN r2 = digsL r2 := by
    cases r2 with
    | nil => rfl
    | cons c t => simp only [takeN]; rw [if_neg (fun e => H.out.2.2.2.2.2.2.2.2.1 t (by rw [e]))]
  have H2 := Lib.hid (And.intro hB2 (And.intro hz2 (And.intro hO2 (And.intro hE2 (And.intro hd2 (And.intro hk2 (And.intro htk cP)))))))
  clear hB2 hz2 hO2 hE2 hd2 htk cP hk2 hS hSs hB' hXL ho2
  go_wp2
  go_quiet ((go_at_call 60; exact Calls.quiet_of_same (H2.out.2.2.2.2.2.2.2 _)))
  go_wp2_with fail
  refine (digits_rb rb s k2 0 (w2.drewN nq) H.out.2.2.2.1 H2.out.2.2.2.2.2.1 H2.out.1).mono ?_
  rintro e w3 ⟨rfl, hB3, ho3'⟩
  have ho3 : Only (· = rb) w2 w3 := (Only.drewN _ w2 nq).trans ho3'
  rw [H2.out.2.2.2.2.1] at hB3 ⊢
  have hz3 := H2.out.2.1.only ho3 (fun e => by have e2 : P = rb := e; have := H.out.2.2.2.2.2.2.2.1; have := H.out.2.2.2.2.1; omega)
  have hE3 := H2.out.2.2.2.1.only (by have := H2.out.1.lt; have := H.out.2.2.2.2.2.2.1; omega) ho3 (fun g hg e => by have e2 : g = rb := e; have := H.out.2.2.2.2.2.2.1; omega)
  have hO3 := H2.out.2.2.1.trans ho3
  obtain ⟨k3, hk3⟩ : ∃ k, k2 + (digsL r2).length = k := ⟨_, rfl⟩
  have hdl := digs_le r2
  have hr2l := congrArg List.length H2.out.2.2.2.2.1
  rw [List.length_drop] at hr2l
  obtain ⟨D, hD⟩ : ∃ D, BA (digsL r2) = D := ⟨_, rfl⟩
  obtain ⟨T, hT⟩ : ∃ T : ByteArray, (⟨#[45]⟩ : ByteArray) ++ D = T := ⟨_, rfl⟩
  have hnS : NumS s true r2 k3 T := ⟨by have := H2.out.2.2.2.2.2.1; omega, by rw [H2.out.2.2.2.2.2.2.1, ← hk3, ← List.drop_drop, H2.out.2.2.2.2.1], by rw [← hT, ← hD, H2.out.2.2.2.2.2.2.1]; exact ba_add [45] (digsL r2)⟩
  rw [hk3] at hB3
  have HN := Lib.hid (And.intro hB3 (And.intro hz3 (And.intro hO3 (And.intro hE3 hnS))))
  have HT := Lib.hid (show (takeN r2).length ≤ s.length by rw [H2.out.2.2.2.2.2.2.1]; omega)
  rw [hD]
  have hDs : D.size ≤ 1000000 := by rw [← hD, ba_size]; have := H.out.2.2.2.1; omega
  have hg1 : ¬ 9223372036854775807 < 1 + D.size := by omega
  have hg2 : ¬ 9223372036854775807 < D.size + 1 := by omega
  clear hB3 ho3 ho3' hz3 hE3 hO3 hk3 hD hnS hdl hr2l c0 c1 f1 hX hDs
  have hParse := parse_any T w3 (by rw [HN.out.2.2.2.2.text, ba_size, List.length_append]; have h1 := HN.out.2.2.2.2.le; have h2 := takeN_le r2; have h3 := HT.out; have h4 : (sgnL true).length ≤ 1 := (by decide); have := H.out.2.2.2.1; omega) HN.out.2.2.2.1
  have HPA := Lib.hid hParse
  clear hParse
  go_wp2_with fail
  refine HPA.out.mono ?_
  rintro e w4 ⟨n, ev, rfl, hev, hb4⟩
  have hB4 : RB w4 rb s k3 0 := Blk.below HN.out.1 hb4
  have hz4 : Blk w4 P 28 [.int .i64 0, .int .i64 0, .string ⟨#[]⟩, .slice none 0 0, .slice none 0 0] := HN.out.2.1.below hb4
  have ho4 : Only (· = rb) w w4 := HN.out.2.2.1.trans (Only.ofBelow hb4 (· = rb))
  rw [show T.data.toList = sgnL true ++ takeN r2 by rw [HN.out.2.2.2.2.text]] at hev
  obtain ⟨S3, hS3⟩ : ∃ S, BA s = S := ⟨_, rfl⟩
  have hSs3 : S3.size = s.length := by rw [← hS3, ba_size]
  have hB4' : Blk w4 rb 64 [.string S3, .int .i64 k3, .int .i64 0] := by rw [← hS3]; exact hB4
  by_cases hT0 : takeN r2 = []
  · have hnum := numP_none (m := true) hT0
    have hTe : T = ⟨#[45]⟩ := by rw [HN.out.2.2.2.2.text, hT0]; rfl
    subst hTe
    have H4 := Lib.hid (And.intro hB4 (And.intro hz4 (And.intro ho4 hnum)))
    clear hB4 hz4 ho4 hnum hev hS3 hSs3 hB4' hT0 hb4
    go_wp2_with fail
    refine (wrong_rb rb s k3 0 1 (w4) H4.out.1).mono ?_
    rintro e w5 ⟨rfl, hB5, ho5⟩
    rw [if_pos rfl] at hB5
    have hz5 : Blk w5 P 28 [.int .i64 0, .int .i64 0, .string ⟨#[]⟩, .slice none 0 0, .slice none 0 0] := Blk.only (w := w4) H4.out.2.1 ho5 (fun e => by have e2 : P = rb := e; have := H.out.2.2.2.2.2.2.2.1; have := H.out.2.2.2.2.1; omega)
    obtain ⟨W5, hW5⟩ : ∃ W5, (((((w5.setCell ⟨P, 0, none⟩ (.int .i64 2)).setCell ⟨P, 1, none⟩ (.int .i64 n)).setCell ⟨P, 2, none⟩ (.string ⟨#[]⟩)).setCell ⟨P, 3, none⟩ (.slice none 0 0)).setCell ⟨P, 4, none⟩ (.slice none 0 0)) = W5 := ⟨_, rfl⟩
    have HF := Lib.hid (And.intro hW5 (cell_end (res := numP true r2) H.out.2.2.2.2.1 (by have := H.out.2.2.2.2.2.2.2.1; have := H.out.2.2.2.2.1; omega) hz5 (H4.out.2.2.1.trans ho5) ⟨_, _, _, _, _, _, _, _, _, rfl⟩ (by rw [H4.out.2.2.2]; exact RS.of HN.out.2.2.2.2.le hB5 (by decide)) hW5))
    have r0 := hz5.cell 0
    have g0 := hz5.frozen 0
    have r1 := hz5.cell 1
    have g1 := hz5.frozen 1
    have r2 := hz5.cell 2
    have g2 := hz5.frozen 2
    have r3 := hz5.cell 3
    have g3 := hz5.frozen 3
    have r4 := hz5.cell 4
    have g4 := hz5.frozen 4
    clear hW5 hB5 ho5 hz5
    go_wp2
    rw [HF.out.1]
    (try simp only [Exit.inBlock, Exit.then])
    refine bodyPost_ret ?_ rfl HF.out.2.2
    exact results_cell_row rfl _ W5 P 28 _ (0, 0) _ rfl HF.out.2.1 Tryz.underlying28 rfl (by kernel_rfl)
  · have hTne := hT0
    have hx : ∃ c t, takeN r2 = c :: t ∧ c ≠ 45 := by
      have hall := takeN_all r2
      revert hTne hall
      cases takeN r2 with
      | nil => intro h; exact absurd rfl h
      | cons c t => intro _ hall; exact ⟨c, t, rfl, by rintro rfl; exact absurd (hall 45 (List.mem_cons_self ..)) (by decide)⟩
    have hq1 : T.toList.isEmpty = false := by
      obtain ⟨c, t, hct, _⟩ := hx
      rw [Lib.toList_data, HN.out.2.2.2.2.text]
      show (sgnL true ++ takeN r2).isEmpty = false
      rw [hct]; rfl
    have hq2 : (T.toList == [45]) = false := by
      obtain ⟨c, t, hct, hc⟩ := hx
      rw [Lib.toList_data, HN.out.2.2.2.2.text]
      show ((sgnL true ++ takeN r2) == [45]) = false
      rw [hct, beq_eq_false_iff_ne]
      intro e
      rw [show sgnL true = [45] from rfl] at e; cases e
    rcases hev with ⟨rfl, hpo⟩ | ⟨⟨ty, uu, rfl⟩, hpn⟩
    · -- the number is one
      by_cases hp : k3 < S3.size
      · have hpz : (k3 : Int) < (S3.size : Int) := by omega
        have hple : (k3 : Int) ≤ (S3.size : Int) := by omega
        have hp0 : (0 : Int) ≤ (k3 : Int) := by omega
        obtain ⟨b, hb⟩ : ∃ b, S3[k3]'hp = b := ⟨_, rfl⟩
        have hsb : s[k3]'(by omega) = b := by
          have h9 := hS3
          subst h9
          rw [← hb]; rfl
        have hdr : r2.drop (takeN r2).length = b :: s.drop (k3 + 1) := by rw [← HN.out.2.2.2.2.drop, List.drop_eq_getElem_cons (by omega), hsb]
        have cI : ∀ W, Calls Tryz.prog 55 #[.string ⟨#[46, 101, 69]⟩, .int .u8 (b.toNat : Int)] W fun e w' => e = .returned (.int .i64 (Lib.indexByte [46, 101, 69] b)) ∧ w' = W := fun W => by
          have h := Tryz.strings_IndexByte ⟨#[46, 101, 69]⟩ (b.toNat : Int) W
          rw [show ((b.toNat : Int).toNat.toUInt8) = b by simp] at h
          exact h
        have hix := index_dot b
        obtain ⟨Z, hZ⟩ : ∃ Z, Lib.indexByte [46, 101, 69] b = Z := ⟨_, rfl⟩
        rw [hZ] at hix
        simp only [hZ] at cI
        have HC := Lib.hid cI
        have e0 := hB4'.cell 0
        have e1 := hB4'.cell 1
        clear hsb hZ cI
        cases hdt : isDot [b] with
        | true =>
          have hz : 0 ≤ Z := hix.1 hdt
          have hnum := numP_dot (m := true) hTne (by rw [hdr, isDot_cons]; exact hdt)
          have H4 := Lib.hid (And.intro hB4 (And.intro hz4 (And.intro ho4 hnum)))
          clear hB4 hz4 ho4 hnum hpo hS3 hSs3 hB4' hTne hx hdr hdt hix hb4
          go_wp2
          go_quiet ((go_at_call 55; exact Calls.quiet_of_same (HC.out _)))
          go_wp2_with fail
          refine (wrong_rb rb s k3 0 4 (w4.drewN _) H4.out.1).mono ?_
          rintro e w5 ⟨rfl, hB5, ho5⟩
          rw [if_pos rfl] at hB5
          have hz5 : Blk w5 P 28 [.int .i64 0, .int .i64 0, .string ⟨#[]⟩, .slice none 0 0, .slice none 0 0] := Blk.only (w := w4.drewN _) H4.out.2.1 ho5 (fun e => by have e2 : P = rb := e; have := H.out.2.2.2.2.2.2.2.1; have := H.out.2.2.2.2.1; omega)
          obtain ⟨W5, hW5⟩ : ∃ W5, (((((w5.setCell ⟨P, 0, none⟩ (.int .i64 2)).setCell ⟨P, 1, none⟩ (.int .i64 n)).setCell ⟨P, 2, none⟩ (.string ⟨#[]⟩)).setCell ⟨P, 3, none⟩ (.slice none 0 0)).setCell ⟨P, 4, none⟩ (.slice none 0 0)) = W5 := ⟨_, rfl⟩
          have HF := Lib.hid (And.intro hW5 (cell_end (res := numP true r2) H.out.2.2.2.2.1 (by have := H.out.2.2.2.2.2.2.2.1; have := H.out.2.2.2.2.1; omega) hz5 ((H4.out.2.2.1.trans (Only.drewN _ _ _)).trans ho5) ⟨_, _, _, _, _, _, _, _, _, rfl⟩ (by rw [H4.out.2.2.2]; exact RS.of HN.out.2.2.2.2.le hB5 (by decide)) hW5))
          have r0 := hz5.cell 0
          have g0 := hz5.frozen 0
          have r1 := hz5.cell 1
          have g1 := hz5.frozen 1
          have r2 := hz5.cell 2
          have g2 := hz5.frozen 2
          have r3 := hz5.cell 3
          have g3 := hz5.frozen 3
          have r4 := hz5.cell 4
          have g4 := hz5.frozen 4
          clear hW5 hB5 ho5 hz5
          go_wp2
          rw [HF.out.1]
          (try simp only [Exit.inBlock, Exit.then])
          refine bodyPost_ret ?_ rfl HF.out.2.2
          exact results_cell_row rfl _ W5 P 28 _ (0, 0) _ rfl HF.out.2.1 Tryz.underlying28 rfl (by kernel_rfl)
        | false =>
          have hz : Z = -1 := hix.2 hdt
          subst hz
          obtain ⟨hnum, hrg⟩ := numP_ok hTne (by rw [hdr, isDot_cons]; exact hdt) hpo
          have H4 := Lib.hid (And.intro hB4 (And.intro hz4 (And.intro ho4 (And.intro hnum hrg))))
          clear hB4 ho4 hnum hpo hS3 hSs3 hB4' hTne hx hdr hdt hix hb4 hrg
          have r0 := hz4.cell 0
          have g0 := hz4.frozen 0
          go_wp2
          go_quiet ((go_at_call 55; exact Calls.quiet_of_same (HC.out _)))
          skip
          obtain ⟨W5, hW5⟩ : ∃ W5, ((((((w4.drewN nq).setCell ⟨P, 0, none⟩ (.int .i64 2)).setCell ⟨P, 1, none⟩ (.int .i64 n)).setCell ⟨P, 2, none⟩ (.string ⟨#[]⟩)).setCell ⟨P, 3, none⟩ (.slice none 0 0)).setCell ⟨P, 4, none⟩ (.slice none 0 0)) = W5 := ⟨_, rfl⟩
          have hz5 : Blk (w4.drewN nq) P 28 [.int .i64 0, .int .i64 0, .string ⟨#[]⟩, .slice none 0 0, .slice none 0 0] := H4.out.2.1
          have HF := Lib.hid (And.intro hW5 (cell_end (res := numP true r2) H.out.2.2.2.2.1 (by have := H.out.2.2.2.2.2.2.2.1; have := H.out.2.2.2.2.1; omega) hz5 (H4.out.2.2.1.trans (Only.drewN _ _ _)) ⟨_, _, _, _, _, _, _, _, _, rfl⟩ (by rw [H4.out.2.2.2.1]; exact ⟨VAt.int n H4.out.2.2.2.2, k3, HN.out.2.2.2.2.le, HN.out.2.2.2.2.drop, H4.out.1⟩) hW5))
          have r0 := hz5.cell 0
          have g0 := hz5.frozen 0
          have r1 := hz5.cell 1
          have g1 := hz5.frozen 1
          have r2 := hz5.cell 2
          have g2 := hz5.frozen 2
          have r3 := hz5.cell 3
          have g3 := hz5.frozen 3
          have r4 := hz5.cell 4
          have g4 := hz5.frozen 4
          clear hW5 hz5
          go_wp2
          rw [HF.out.1]
          (try simp only [Exit.inBlock, Exit.then])
          refine bodyPost_ret ?_ rfl HF.out.2.2
          exact results_cell_row rfl _ W5 P 28 _ (0, 0) _ rfl HF.out.2.1 Tryz.underlying28 rfl (by kernel_rfl)
      · have hpz : ¬ (k3 : Int) < (S3.size : Int) := by omega
        have hpd : decide (k3 < S3.size) = false := decide_eq_false hp
        have hdr : r2.drop (takeN r2).length = [] := by rw [← HN.out.2.2.2.2.drop, List.drop_eq_nil_of_le (by omega)]
        obtain ⟨hnum, hrg⟩ := numP_ok hTne (by rw [hdr]; rfl) hpo
        have H4 := Lib.hid (And.intro hB4 (And.intro hz4 (And.intro ho4 (And.intro hnum hrg))))
        have e0 := hB4'.cell 0
        have e1 := hB4'.cell 1
        clear hB4 ho4 hnum hpo hS3 hSs3 hB4' hTne hx hdr hb4 hrg
        go_wp2
        go_quiet (fail)
        skip
        obtain ⟨W5, hW5⟩ : ∃ W5, ((((((w4.drewN nq).setCell ⟨P, 0, none⟩ (.int .i64 2)).setCell ⟨P, 1, none⟩ (.int .i64 n)).setCell ⟨P, 2, none⟩ (.string ⟨#[]⟩)).setCell ⟨P, 3, none⟩ (.slice none 0 0)).setCell ⟨P, 4, none⟩ (.slice none 0 0)) = W5 := ⟨_, rfl⟩
        have hz5 : Blk (w4.drewN nq) P 28 [.int .i64 0, .int .i64 0, .string ⟨#[]⟩, .slice none 0 0, .slice none 0 0] := H4.out.2.1
        have HF := Lib.hid (And.intro hW5 (cell_end (res := numP true r2) H.out.2.2.2.2.1 (by have := H.out.2.2.2.2.2.2.2.1; have := H.out.2.2.2.2.1; omega) hz5 (H4.out.2.2.1.trans (Only.drewN _ _ _)) ⟨_, _, _, _, _, _, _, _, _, rfl⟩ (by rw [H4.out.2.2.2.1]; exact ⟨VAt.int n H4.out.2.2.2.2, k3, HN.out.2.2.2.2.le, HN.out.2.2.2.2.drop, H4.out.1⟩) hW5))
        have r0 := hz5.cell 0
        have g0 := hz5.frozen 0
        have r1 := hz5.cell 1
        have g1 := hz5.frozen 1
        have r2 := hz5.cell 2
        have g2 := hz5.frozen 2
        have r3 := hz5.cell 3
        have g3 := hz5.frozen 3
        have r4 := hz5.cell 4
        have g4 := hz5.frozen 4
        clear hW5 hz5
        go_wp2
        rw [HF.out.1]
        (try simp only [Exit.inBlock, Exit.then])
        refine bodyPost_ret ?_ rfl HF.out.2.2
        exact results_cell_row rfl _ W5 P 28 _ (0, 0) _ rfl HF.out.2.1 Tryz.underlying28 rfl (by kernel_rfl)
    · -- no number of 64 bits
      have hnum := numP_far (m := true) hTne hpn
      have H4 := Lib.hid (And.intro hB4 (And.intro hz4 (And.intro ho4 hnum)))
      have e0 := hB4'.cell 0
      have e1 := hB4'.cell 1
      clear hB4 hz4 ho4 hnum hpn hS3 hSs3 hB4' hTne hx hb4
      go_wp2
      go_quiet (fail)
      go_wp2_with fail
      refine (wrong_rb rb s k3 0 4 (w4.drewN _) H4.out.1).mono ?_
      rintro e w5 ⟨rfl, hB5, ho5⟩
      rw [if_pos rfl] at hB5
      have hz5 : Blk w5 P 28 [.int .i64 0, .int .i64 0, .string ⟨#[]⟩, .slice none 0 0, .slice none 0 0] := Blk.only (w := w4.drewN _) H4.out.2.1 ho5 (fun e => by have e2 : P = rb := e; have := H.out.2.2.2.2.2.2.2.1; have := H.out.2.2.2.2.1; omega)
      obtain ⟨W5, hW5⟩ : ∃ W5, (((((w5.setCell ⟨P, 0, none⟩ (.int .i64 2)).setCell ⟨P, 1, none⟩ (.int .i64 n)).setCell ⟨P, 2, none⟩ (.string ⟨#[]⟩)).setCell ⟨P, 3, none⟩ (.slice none 0 0)).setCell ⟨P, 4, none⟩ (.slice none 0 0)) = W5 := ⟨_, rfl⟩
      have HF := Lib.hid (And.intro hW5 (cell_end (res := numP true r2) H.out.2.2.2.2.1 (by have := H.out.2.2.2.2.2.2.2.1; have := H.out.2.2.2.2.1; omega) hz5 ((H4.out.2.2.1.trans (Only.drewN _ _ _)).trans ho5) ⟨_, _, _, _, _, _, _, _, _, rfl⟩ (by rw [H4.out.2.2.2]; exact RS.of HN.out.2.2.2.2.le hB5 (by decide)) hW5))
      have r0 := hz5.cell 0
      have g0 := hz5.frozen 0
      have r1 := hz5.cell 1
      have g1 := hz5.frozen 1
      have r2 := hz5.cell 2
      have g2 := hz5.frozen 2
      have r3 := hz5.cell 3
      have g3 := hz5.frozen 3
      have r4 := hz5.cell 4
      have g4 := hz5.frozen 4
      clear hW5 hB5 ho5 hz5
      go_wp2
      rw [HF.out.1]
      (try simp only [Exit.inBlock, Exit.then])
      refine bodyPost_ret ?_ rfl HF.out.2.2
      exact results_cell_row rfl _ W5 P 28 _ (0, 0) _ rfl HF.out.2.1 Tryz.underlying28 rfl (by kernel_rfl)

set_option maxHeartbeats 8000000 in
set_option maxRecDepth 100000 in
theorem num_mz (rb : Nat) (s r r2 : BL) (w : World) (hs : s.length ≤ 1000000) (hR : RS w rb s (.ok r)) (hE : Env w) (hrb : 11 ≤ rb) (hb : isB [45] (.ok r) = true) (hst : isS [45] (.ok r) = .ok r2) (hz : ∃ t, r2 = 48 :: t) (hn : numR r = numP true r2) :
    Calls Tryz.prog 62 #[.pointer (some ⟨rb, 0, none⟩)] w (ValPost w rb s (numR r)) := by
  rw [hn]
  obtain ⟨P, hP⟩ : ∃ P, w.heap.size = P := ⟨_, rfl⟩
  obtain ⟨W0, hW0⟩ : ∃ W, w.alloc (.cells #[.int .i64 0, .int .i64 0, .string ⟨#[]⟩, .slice none 0 0, .slice none 0 0] 28) = W := ⟨_, rfl⟩
  have hlt := hR.lt
  have hb0 : Below w.heap.size w W0 := by rw [← hW0]; exact (Below.refl _ w).alloc (Nat.le_refl _) _
  have hz0 : Blk W0 P 28 [.int .i64 0, .int .i64 0, .string ⟨#[]⟩, .slice none 0 0, .slice none 0 0] := by rw [← hW0, ← hP]; exact heap_alloc_new w _
  have hc := is_any rb ⟨#[45]⟩ [45] s (.ok r) W0 rfl hs (hR.below hb0)
  rw [hb, hst] at hc
  have hEW := hE.below (by omega) hb0
  have H := Lib.hid (And.intro hc (And.intro hz0 (And.intro hb0 (And.intro hs (And.intro hP (And.intro hW0 (And.intro hrb (And.intro hlt (And.intro hz hEW)))))))))
  clear hc hz0 hb0 hs hW0 hrb hlt hz hR hE hb hst hEW hn
  go_enter Tryz.func62, Tryz.ntmps62
  go_wp2_with fail
  rw [H.out.2.2.2.2.2.1]
  (try rw [hP])
  clear hP
  refine H.out.1.mono ?_
  rintro e w2 ⟨rfl, hr2, ho2⟩
  obtain ⟨k2, hk2, hd2, hB2⟩ := hr2
  have hz2 : Blk w2 P 28 [.int .i64 0, .int .i64 0, .string ⟨#[]⟩, .slice none 0 0, .slice none 0 0] := H.out.2.1.only ho2 (fun e => by have e2 : P = rb := e; have := H.out.2.2.2.2.2.2.2.1; have := H.out.2.2.2.2.1; omega)
  have hE2 : Env w2 := H.out.2.2.2.2.2.2.2.2.2.only (by have := H.out.2.2.1.size; have := H.out.2.2.2.2.2.2.1; have := H.out.2.2.2.2.2.2.2.1; omega) ho2 (fun g hg e => by have e2 : g = rb := e; have := H.out.2.2.2.2.2.2.1; omega)
  have hO2 : Only (· = rb) w w2 := (Only.ofBelow H.out.2.2.1 (· = rb)).trans ho2
  obtain ⟨S, hS⟩ : ∃ S, BA s = S := ⟨_, rfl⟩
  have hSs : S.size = s.length := by rw [← hS, ba_size]
  have hB' : Blk w2 rb 64 [.string S, .int .i64 k2, .int .i64 0] := by rw [← hS]; exact hB2
  obtain ⟨X, hX⟩ : ∃ X, S.extract k2 S.size = X := ⟨_, rfl⟩
  have hXL : X.data.toList = r2 := by rw [← hX, ← hS, ba_ext, hd2]
  have hkz : (k2 : Int) ≤ (S.size : Int) := by omega
  have hk0 : (0 : Int) ≤ (k2 : Int) := by omega
  have c0 := hB'.cell 0
  have c1 := hB'.cell 1
  have f1 := hB'.frozen 1
  have cP : ∀ W, Calls Tryz.prog 60 #[.string X, .string ⟨#[48]⟩] W fun e w' => e = .returned (.bool true) ∧ w' = W := fun W => by
    have cP := Tryz.strings_HasPrefix X ⟨#[48]⟩ W
    rw [hXL, show (⟨#[48]⟩ : ByteArray).data.toList = [48] from rfl, isL_prefix, show (isL [48] r2).isSome = true from by
      obtain ⟨t, rfl⟩ := H.out.2.2.2.2.2.2.2.2.1
      rw [isL_one]; rfl] at cP
    exact cP
  have hr2l : k2 + 1 ≤ s.length := by
    obtain ⟨t, rfl⟩ := H.out.2.2.2.2.2.2.2.2.1
    have := congrArg List.length hd2
    rw [List.length_drop, List.length_cons] at this
    omega
  have htk : takeN r2 = [48] := by
    obtain ⟨t, rfl⟩ := H.out.2.2.2.2.2.2.2.2.1
    simp only [takeN, if_true]
  have hw1 : IntKind.i64.wrap ((k2 : Int) + 1) = ((k2 + 1 : Nat) : Int) := by rw [IntWalk.i64_in _ (by have := H.out.2.2.2.1; omega)]; omega
  have H2 := Lib.hid (And.intro hB2 (And.intro hz2 (And.intro hO2 (And.intro hE2 (And.intro hd2 (And.intro hr2l (And.intro htk cP)))))))
  clear hB2 hz2 hO2 hE2 hd2 hr2l htk cP hk2 hS hSs hB' hXL ho2
  go_wp2
  go_quiet ((go_at_call 60; exact Calls.quiet_of_same (H2.out.2.2.2.2.2.2.2 _)))
  obtain ⟨w3, hw3⟩ : ∃ w3, (w2.drewN nq).setCell ⟨rb, 1, none⟩ (.int .i64 ((k2 : Int) + 1)) = w3 := ⟨_, rfl⟩
  have hB3 : RB w3 rb s (k2 + 1) 0 := by rw [← hw3]; exact Blk.set (w := w2.drewN nq) H2.out.1 1 _
  have ho3 : Only (· = rb) w2 w3 := by rw [← hw3]; exact (Only.drewN _ w2 nq).trans (Only.set1 _ _ _ _)
  have hz3 := H2.out.2.1.only ho3 (fun e => by have e2 : P = rb := e; have := H.out.2.2.2.2.2.2.2.1; have := H.out.2.2.2.2.1; omega)
  have hE3 := H2.out.2.2.2.1.only (by have := H2.out.1.lt; have := H.out.2.2.2.2.2.2.1; omega) ho3 (fun g hg e => by have e2 : g = rb := e; have := H.out.2.2.2.2.2.2.1; omega)
  have hO3 := H2.out.2.2.1.trans ho3
  have HW := Lib.hid hw3
  clear hw3
  go_wp2_with fail
  have hw3 := HW.out
  obtain ⟨k3, hk3⟩ : ∃ k, k2 + 1 = k := ⟨_, rfl⟩
  obtain ⟨T, hT⟩ : ∃ T : ByteArray, (⟨#[45]⟩ : ByteArray) ++ ⟨#[48]⟩ = T := ⟨_, rfl⟩
  have hnS : NumS s true r2 k3 T := ⟨by rw [← hk3]; exact H2.out.2.2.2.2.2.1, by rw [H2.out.2.2.2.2.2.2.1, ← hk3, ← List.drop_drop, H2.out.2.2.2.2.1]; rfl, by rw [← hT, H2.out.2.2.2.2.2.2.1]; rfl⟩
  rw [hk3] at hB3
  have HN := Lib.hid (And.intro hB3 (And.intro hz3 (And.intro hO3 (And.intro hE3 hnS))))
  have HZ := Lib.hid H2.out.2.2.2.2.2.2.1
  have HT := Lib.hid (show (takeN r2).length ≤ s.length by rw [H2.out.2.2.2.2.2.2.1]; have := H2.out.2.2.2.2.2.1; simp; omega)
  (try rw [hw3])
  (try simp only [hT])
  clear hB3 ho3 hz3 hE3 hO3 hw3 hk3 hT hnS c0 c1 f1 hX
  have hParse := parse_any T w3 (by rw [HN.out.2.2.2.2.text, ba_size, List.length_append]; have h1 := HN.out.2.2.2.2.le; have h2 := takeN_le r2; have h3 := HT.out; have h4 : (sgnL true).length ≤ 1 := (by decide); have := H.out.2.2.2.1; omega) HN.out.2.2.2.1
  have HPA := Lib.hid hParse
  clear hParse
  go_wp2_with fail
  refine HPA.out.mono ?_
  rintro e w4 ⟨n, ev, rfl, hev, hb4⟩
  have hB4 : RB w4 rb s k3 0 := Blk.below HN.out.1 hb4
  have hz4 : Blk w4 P 28 [.int .i64 0, .int .i64 0, .string ⟨#[]⟩, .slice none 0 0, .slice none 0 0] := HN.out.2.1.below hb4
  have ho4 : Only (· = rb) w w4 := HN.out.2.2.1.trans (Only.ofBelow hb4 (· = rb))
  rw [show T.data.toList = sgnL true ++ takeN r2 by rw [HN.out.2.2.2.2.text]] at hev
  obtain ⟨S3, hS3⟩ : ∃ S, BA s = S := ⟨_, rfl⟩
  have hSs3 : S3.size = s.length := by rw [← hS3, ba_size]
  have hB4' : Blk w4 rb 64 [.string S3, .int .i64 k3, .int .i64 0] := by rw [← hS3]; exact hB4
  have hTne : takeN r2 ≠ [] := by rw [HZ.out]; decide
  have hx : ∃ c t, takeN r2 = c :: t ∧ c ≠ 45 := by
    have hall := takeN_all r2
    revert hTne hall
    cases takeN r2 with
    | nil => intro h; exact absurd rfl h
    | cons c t => intro _ hall; exact ⟨c, t, rfl, by rintro rfl; exact absurd (hall 45 (List.mem_cons_self ..)) (by decide)⟩
  have hq1 : T.toList.isEmpty = false := by
    obtain ⟨c, t, hct, _⟩ := hx
    rw [Lib.toList_data, HN.out.2.2.2.2.text]
    show (sgnL true ++ takeN r2).isEmpty = false
    rw [hct]; rfl
  have hq2 : (T.toList == [45]) = false := by
    obtain ⟨c, t, hct, hc⟩ := hx
    rw [Lib.toList_data, HN.out.2.2.2.2.text]
    show ((sgnL true ++ takeN r2) == [45]) = false
    rw [hct, beq_eq_false_iff_ne]
    intro e
    rw [show sgnL true = [45] from rfl] at e; cases e
  rcases hev with ⟨rfl, hpo⟩ | ⟨⟨ty, uu, rfl⟩, hpn⟩
  · -- the number is one
    by_cases hp : k3 < S3.size
    · have hpz : (k3 : Int) < (S3.size : Int) := by omega
      have hple : (k3 : Int) ≤ (S3.size : Int) := by omega
      have hp0 : (0 : Int) ≤ (k3 : Int) := by omega
      obtain ⟨b, hb⟩ : ∃ b, S3[k3]'hp = b := ⟨_, rfl⟩
      have hsb : s[k3]'(by omega) = b := by
        have h9 := hS3
        subst h9
        rw [← hb]; rfl
      have hdr : r2.drop (takeN r2).length = b :: s.drop (k3 + 1) := by rw [← HN.out.2.2.2.2.drop, List.drop_eq_getElem_cons (by omega), hsb]
      have cI : ∀ W, Calls Tryz.prog 55 #[.string ⟨#[46, 101, 69]⟩, .int .u8 (b.toNat : Int)] W fun e w' => e = .returned (.int .i64 (Lib.indexByte [46, 101, 69] b)) ∧ w' = W := fun W => by
        have h := Tryz.strings_IndexByte ⟨#[46, 101, 69]⟩ (b.toNat : Int) W
        rw [show ((b.toNat : Int).toNat.toUInt8) = b by simp] at h
        exact h
      have hix := index_dot b
      obtain ⟨Z, hZ⟩ : ∃ Z, Lib.indexByte [46, 101, 69] b = Z := ⟨_, rfl⟩
      rw [hZ] at hix
      simp only [hZ] at cI
      have HC := Lib.hid cI
      have e0 := hB4'.cell 0
      have e1 := hB4'.cell 1
      clear hsb hZ cI
      cases hdt : isDot [b] with
      | true =>
        have hz : 0 ≤ Z := hix.1 hdt
        have hnum := numP_dot (m := true) hTne (by rw [hdr, isDot_cons]; exact hdt)
        have H4 := Lib.hid (And.intro hB4 (And.intro hz4 (And.intro ho4 hnum)))
        clear hB4 hz4 ho4 hnum hpo hS3 hSs3 hB4' hTne hx hdr hdt hix hb4
        go_wp2
        go_quiet ((go_at_call 55; exact Calls.quiet_of_same (HC.out _)))
        go_wp2_with fail
        refine (wrong_rb rb s k3 0 4 (w4.drewN _) H4.out.1).mono ?_
        rintro e w5 ⟨rfl, hB5, ho5⟩
        rw [if_pos rfl] at hB5
        have hz5 : Blk w5 P 28 [.int .i64 0, .int .i64 0, .string ⟨#[]⟩, .slice none 0 0, .slice none 0 0] := Blk.only (w := w4.drewN _) H4.out.2.1 ho5 (fun e => by have e2 : P = rb := e; have := H.out.2.2.2.2.2.2.2.1; have := H.out.2.2.2.2.1; omega)
        obtain ⟨W5, hW5⟩ : ∃ W5, (((((w5.setCell ⟨P, 0, none⟩ (.int .i64 2)).setCell ⟨P, 1, none⟩ (.int .i64 n)).setCell ⟨P, 2, none⟩ (.string ⟨#[]⟩)).setCell ⟨P, 3, none⟩ (.slice none 0 0)).setCell ⟨P, 4, none⟩ (.slice none 0 0)) = W5 := ⟨_, rfl⟩
        have HF := Lib.hid (And.intro hW5 (cell_end (res := numP true r2) H.out.2.2.2.2.1 (by have := H.out.2.2.2.2.2.2.2.1; have := H.out.2.2.2.2.1; omega) hz5 ((H4.out.2.2.1.trans (Only.drewN _ _ _)).trans ho5) ⟨_, _, _, _, _, _, _, _, _, rfl⟩ (by rw [H4.out.2.2.2]; exact RS.of HN.out.2.2.2.2.le hB5 (by decide)) hW5))
        have r0 := hz5.cell 0
        have g0 := hz5.frozen 0
        have r1 := hz5.cell 1
        have g1 := hz5.frozen 1
        have r2 := hz5.cell 2
        have g2 := hz5.frozen 2
        have r3 := hz5.cell 3
        have g3 := hz5.frozen 3
        have r4 := hz5.cell 4
        have g4 := hz5.frozen 4
        clear hW5 hB5 ho5 hz5
        go_wp2
        rw [HF.out.1]
        (try simp only [Exit.inBlock, Exit.then])
        refine bodyPost_ret ?_ rfl HF.out.2.2
        exact results_cell_row rfl _ W5 P 28 _ (0, 0) _ rfl HF.out.2.1 Tryz.underlying28 rfl (by kernel_rfl)
      | false =>
        have hz : Z = -1 := hix.2 hdt
        subst hz
        obtain ⟨hnum, hrg⟩ := numP_ok hTne (by rw [hdr, isDot_cons]; exact hdt) hpo
        have H4 := Lib.hid (And.intro hB4 (And.intro hz4 (And.intro ho4 (And.intro hnum hrg))))
        clear hB4 ho4 hnum hpo hS3 hSs3 hB4' hTne hx hdr hdt hix hb4 hrg
        have r0 := hz4.cell 0
        have g0 := hz4.frozen 0
        go_wp2
        go_quiet ((go_at_call 55; exact Calls.quiet_of_same (HC.out _)))
        skip
        obtain ⟨W5, hW5⟩ : ∃ W5, ((((((w4.drewN nq).setCell ⟨P, 0, none⟩ (.int .i64 2)).setCell ⟨P, 1, none⟩ (.int .i64 n)).setCell ⟨P, 2, none⟩ (.string ⟨#[]⟩)).setCell ⟨P, 3, none⟩ (.slice none 0 0)).setCell ⟨P, 4, none⟩ (.slice none 0 0)) = W5 := ⟨_, rfl⟩
        have hz5 : Blk (w4.drewN nq) P 28 [.int .i64 0, .int .i64 0, .string ⟨#[]⟩, .slice none 0 0, .slice none 0 0] := H4.out.2.1
        have HF := Lib.hid (And.intro hW5 (cell_end (res := numP true r2) H.out.2.2.2.2.1 (by have := H.out.2.2.2.2.2.2.2.1; have := H.out.2.2.2.2.1; omega) hz5 (H4.out.2.2.1.trans (Only.drewN _ _ _)) ⟨_, _, _, _, _, _, _, _, _, rfl⟩ (by rw [H4.out.2.2.2.1]; exact ⟨VAt.int n H4.out.2.2.2.2, k3, HN.out.2.2.2.2.le, HN.out.2.2.2.2.drop, H4.out.1⟩) hW5))
        have r0 := hz5.cell 0
        have g0 := hz5.frozen 0
        have r1 := hz5.cell 1
        have g1 := hz5.frozen 1
        have r2 := hz5.cell 2
        have g2 := hz5.frozen 2
        have r3 := hz5.cell 3
        have g3 := hz5.frozen 3
        have r4 := hz5.cell 4
        have g4 := hz5.frozen 4
        clear hW5 hz5
        go_wp2
        rw [HF.out.1]
        (try simp only [Exit.inBlock, Exit.then])
        refine bodyPost_ret ?_ rfl HF.out.2.2
        exact results_cell_row rfl _ W5 P 28 _ (0, 0) _ rfl HF.out.2.1 Tryz.underlying28 rfl (by kernel_rfl)
    · have hpz : ¬ (k3 : Int) < (S3.size : Int) := by omega
      have hpd : decide (k3 < S3.size) = false := decide_eq_false hp
      have hdr : r2.drop (takeN r2).length = [] := by rw [← HN.out.2.2.2.2.drop, List.drop_eq_nil_of_le (by omega)]
      obtain ⟨hnum, hrg⟩ := numP_ok hTne (by rw [hdr]; rfl) hpo
      have H4 := Lib.hid (And.intro hB4 (And.intro hz4 (And.intro ho4 (And.intro hnum hrg))))
      have e0 := hB4'.cell 0
      have e1 := hB4'.cell 1
      clear hB4 ho4 hnum hpo hS3 hSs3 hB4' hTne hx hdr hb4 hrg
      go_wp2
      go_quiet (fail)
      skip
      obtain ⟨W5, hW5⟩ : ∃ W5, ((((((w4.drewN nq).setCell ⟨P, 0, none⟩ (.int .i64 2)).setCell ⟨P, 1, none⟩ (.int .i64 n)).setCell ⟨P, 2, none⟩ (.string ⟨#[]⟩)).setCell ⟨P, 3, none⟩ (.slice none 0 0)).setCell ⟨P, 4, none⟩ (.slice none 0 0)) = W5 := ⟨_, rfl⟩
      have hz5 : Blk (w4.drewN nq) P 28 [.int .i64 0, .int .i64 0, .string ⟨#[]⟩, .slice none 0 0, .slice none 0 0] := H4.out.2.1
      have HF := Lib.hid (And.intro hW5 (cell_end (res := numP true r2) H.out.2.2.2.2.1 (by have := H.out.2.2.2.2.2.2.2.1; have := H.out.2.2.2.2.1; omega) hz5 (H4.out.2.2.1.trans (Only.drewN _ _ _)) ⟨_, _, _, _, _, _, _, _, _, rfl⟩ (by rw [H4.out.2.2.2.1]; exact ⟨VAt.int n H4.out.2.2.2.2, k3, HN.out.2.2.2.2.le, HN.out.2.2.2.2.drop, H4.out.1⟩) hW5))
      have r0 := hz5.cell 0
      have g0 := hz5.frozen 0
      have r1 := hz5.cell 1
      have g1 := hz5.frozen 1
      have r2 := hz5.cell 2
      have g2 := hz5.frozen 2
      have r3 := hz5.cell 3
      have g3 := hz5.frozen 3
      have r4 := hz5.cell 4
      have g4 := hz5.frozen 4
      clear hW5 hz5
      go_wp2
      rw [HF.out.1]
      (try simp only [Exit.inBlock, Exit.then])
      refine bodyPost_ret ?_ rfl HF.out.2.2
      exact results_cell_row rfl _ W5 P 28 _ (0, 0) _ rfl HF.out.2.1 Tryz.underlying28 rfl (by kernel_rfl)
  · -- no number of 64 bits
    have hnum := numP_far (m := true) hTne hpn
    have H4 := Lib.hid (And.intro hB4 (And.intro hz4 (And.intro ho4 hnum)))
    have e0 := hB4'.cell 0
    have e1 := hB4'.cell 1
    clear hB4 hz4 ho4 hnum hpn hS3 hSs3 hB4' hTne hx hb4
    go_wp2
    go_quiet (fail)
    go_wp2_with fail
    refine (wrong_rb rb s k3 0 4 (w4.drewN _) H4.out.1).mono ?_
    rintro e w5 ⟨rfl, hB5, ho5⟩
    rw [if_pos rfl] at hB5
    have hz5 : Blk w5 P 28 [.int .i64 0, .int .i64 0, .string ⟨#[]⟩, .slice none 0 0, .slice none 0 0] := Blk.only (w := w4.drewN _) H4.out.2.1 ho5 (fun e => by have e2 : P = rb := e; have := H.out.2.2.2.2.2.2.2.1; have := H.out.2.2.2.2.1; omega)
    obtain ⟨W5, hW5⟩ : ∃ W5, (((((w5.setCell ⟨P, 0, none⟩ (.int .i64 2)).setCell ⟨P, 1, none⟩ (.int .i64 n)).setCell ⟨P, 2, none⟩ (.string ⟨#[]⟩)).setCell ⟨P, 3, none⟩ (.slice none 0 0)).setCell ⟨P, 4, none⟩ (.slice none 0 0)) = W5 := ⟨_, rfl⟩
    have HF := Lib.hid (And.intro hW5 (cell_end (res := numP true r2) H.out.2.2.2.2.1 (by have := H.out.2.2.2.2.2.2.2.1; have := H.out.2.2.2.2.1; omega) hz5 ((H4.out.2.2.1.trans (Only.drewN _ _ _)).trans ho5) ⟨_, _, _, _, _, _, _, _, _, rfl⟩ (by rw [H4.out.2.2.2]; exact RS.of HN.out.2.2.2.2.le hB5 (by decide)) hW5))
    have r0 := hz5.cell 0
    have g0 := hz5.frozen 0
    have r1 := hz5.cell 1
    have g1 := hz5.frozen 1
    have r2 := hz5.cell 2
    have g2 := hz5.frozen 2
    have r3 := hz5.cell 3
    have g3 := hz5.frozen 3
    have r4 := hz5.cell 4
    have g4 := hz5.frozen 4
    clear hW5 hB5 ho5 hz5
    go_wp2
    rw [HF.out.1]
    (try simp only [Exit.inBlock, Exit.then])
    refine bodyPost_ret ?_ rfl HF.out.2.2
    exact results_cell_row rfl _ W5 P 28 _ (0, 0) _ rfl HF.out.2.1 Tryz.underlying28 rfl (by kernel_rfl)

theorem number_any (rb : Nat) (s r : BL) (w : World) (hs : s.length ≤ 1000000) (hR : RS w rb s (.ok r)) (hE : Env w) (hrb : 11 ≤ rb) :
    Calls Tryz.prog 62 #[.pointer (some ⟨rb, 0, none⟩)] w (ValPost w rb s (numR r)) := by
  have hn := numR_eq r
  obtain ⟨m, hm⟩ : ∃ m, (isL [45] r).isSome = m := ⟨_, rfl⟩
  obtain ⟨r2, hr2⟩ : ∃ r2, (isL [45] r).getD r = r2 := ⟨_, rfl⟩
  rw [hm, hr2] at hn
  have hb : isB [45] (.ok r) = m := hm
  have hst : isS [45] (.ok r) = .ok r2 := by rw [← hr2]; rfl
  by_cases hz : ∃ t, r2 = 48 :: t
  · cases m with
    | true => exact num_mz rb s r r2 w hs hR hE hrb hb hst hz hn
    | false => exact num_pz rb s r r2 w hs hR hE hrb hb hst hz hn
  · have hz' : ∀ t, r2 ≠ 48 :: t := fun t e => hz ⟨t, e⟩
    cases m with
    | true => exact num_mn rb s r r2 w hs hR hE hrb hb hst hz' hn
    | false => exact num_pn rb s r r2 w hs hR hE hrb hb hst hz' hn
end Go.Proofs.YtccnfnoonpfdfaaGreatDoor
