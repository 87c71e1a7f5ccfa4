/- The JSON reader's parts, at any bytes: wrong, blank, is, must. -/
import Derived.Test.YtccnfnoonpfdfaaGreatDoorJnC
import Derived.Test.YtccnfnoonpfdfaaGreatDoorJnA
namespace Go.Proofs.YtccnfnoonpfdfaaGreatDoor
open Go.Shelf Go.RowKit Go.Lib

/-- a reader of a text, at a place, with a code. -/
def RB (w : World) (rb : Nat) (s : BL) (k c : Nat) : Prop := Blk w rb 64 [.string (BA s), .int .i64 k, .int .i64 c]
/-- a reader that has so much left; or one at which something is wrong. -/
def RS (w : World) (rb : Nat) (s : BL) : Except Nat BL → Prop
  | .ok r => ∃ k, k ≤ s.length ∧ s.drop k = r ∧ RB w rb s k 0
  | .error c => c ≠ 0 ∧ ∃ k, k ≤ s.length ∧ RB w rb s k c
theorem RS.lt {w : World} {rb : Nat} {s : BL} {st : Except Nat BL} (h : RS w rb s st) : rb < w.heap.size := by
  cases st with
  | ok r => obtain ⟨k, _, _, h⟩ := h; exact Blk.lt h
  | error c => obtain ⟨_, k, _, h⟩ := h; exact Blk.lt h
theorem RS.only {S : Nat → Prop} {w w2 : World} {rb : Nat} {s : BL} {st : Except Nat BL} (h : RS w rb s st) (hb : Only S w w2) (hs : ¬ S rb) : RS w2 rb s st := by
  cases st with
  | ok r => obtain ⟨k, h1, h2, h⟩ := h; exact ⟨k, h1, h2, Blk.only h hb hs⟩
  | error c => obtain ⟨h1, k, h2, h⟩ := h; exact ⟨h1, k, h2, Blk.only h hb hs⟩
theorem RS.below {w w2 : World} {rb : Nat} {s : BL} {st : Except Nat BL} (h : RS w rb s st) (hb : Below w.heap.size w w2) : RS w2 rb s st := h.only (Only.ofBelow hb (fun _ => False)) (fun e => e)
/-- whatever the state: a place and a code. -/
theorem RS.any {w : World} {rb : Nat} {s : BL} {st : Except Nat BL} (h : RS w rb s st) : ∃ k c, k ≤ s.length ∧ RB w rb s k c ∧ ((c = 0 ∧ st = .ok (s.drop k)) ∨ (c ≠ 0 ∧ st = .error c)) := by
  cases st with
  | ok r => obtain ⟨k, h1, h2, h⟩ := h; exact ⟨k, 0, h1, h, .inl ⟨rfl, by rw [h2]⟩⟩
  | error c => obtain ⟨h1, k, h2, h⟩ := h; exact ⟨k, c, h2, h, .inr ⟨h1, rfl⟩⟩
theorem RS.of {w : World} {rb : Nat} {s : BL} {k c : Nat} (hk : k ≤ s.length) (h : RB w rb s k c) (hc : c ≠ 0) : RS w rb s (.error c) := ⟨hc, k, hk, h⟩
theorem RS.ok {w : World} {rb : Nat} {s : BL} {k : Nat} (hk : k ≤ s.length) (h : RB w rb s k 0) : RS w rb s (.ok (s.drop k)) := ⟨k, hk, rfl, h⟩

/-- what is wrong first is kept. -/
def fell (st : Except Nat BL) (c : Nat) : Except Nat BL := match st with
  | .ok _ => .error c
  | .error e => .error e
theorem code_eq (c : Nat) : ((c : Int) == 0) = decide (c = 0) := by
  by_cases h : c = 0
  · subst h; rfl
  · rw [decide_eq_false h]; exact beq_eq_false_iff_ne.2 (by omega)
set_option maxHeartbeats 2000000 in
set_option maxRecDepth 100000 in
theorem wrong_rb (rb : Nat) (s : BL) (k c d : Nat) (w : World) (hB : RB w rb s k c) :
    Calls Tryz.prog 33 #[.pointer (some ⟨rb, 0, none⟩), .int .i64 d] w fun e w' => e = .returned (.tuple #[]) ∧ RB w' rb s k (if c = 0 then d else c) ∧ Only (· = rb) w w' := by
  have c2 := Blk.cell hB 2
  have f2 := Blk.frozen hB 2
  have H := Lib.hid hB
  clear hB
  by_cases hc : c = 0
  · subst hc
    go_enter Tryz.func33, Tryz.ntmps33
    go_wp2
    go_end0
    exact ⟨rfl, Blk.set H.out 2 _, Only.set1 _ _ _ _⟩
  · have hcz : ¬ (c : Int) = 0 := by omega
    have hcz2 : ((c : Int) == 0) = false := beq_eq_false_iff_ne.2 hcz
    go_enter Tryz.func33, Tryz.ntmps33
    go_wp2
    go_end0
    exact ⟨rfl, by first | exact H.out | (rw [if_neg hc]; exact H.out), Only.refl _ _⟩
theorem wrong_any (rb : Nat) (s : BL) (st : Except Nat BL) (d : Nat) (hd : d ≠ 0) (w : World) (hR : RS w rb s st) :
    Calls Tryz.prog 33 #[.pointer (some ⟨rb, 0, none⟩), .int .i64 d] w fun e w' => e = .returned (.tuple #[]) ∧ RS w' rb s (fell st d) ∧ Only (· = rb) w w' := by
  obtain ⟨k, c, hk, hB, h⟩ := hR.any
  refine (wrong_rb rb s k c d w hB).mono ?_
  rintro e w' ⟨rfl, hB2, ho⟩
  refine ⟨rfl, ?_, ho⟩
  rcases h with ⟨rfl, rfl⟩ | ⟨hc, rfl⟩
  · exact RS.of hk hB2 hd
  · rw [if_neg hc] at hB2
    exact RS.of hk hB2 hc

theorem blank_drop (s : BL) (k : Nat) (h : k < s.length) : blankL (s.drop k) = if isBlank s[k] then blankL (s.drop (k + 1)) else s.drop k := by
  rw [List.drop_eq_getElem_cons h, blankL]
theorem index_one (l : BL) (c : UInt8) : (l.contains c = true → 0 ≤ Lib.indexByte l c) ∧ (l.contains c = false → Lib.indexByte l c = -1) := by
  induction l with
  | nil => exact ⟨fun h => by simp at h, fun _ => rfl⟩
  | cons b l ih =>
    rw [List.contains_cons]
    unfold Lib.indexByte
    by_cases hb : b = c
    · subst hb
      simp
    · have h1 : (b == c) = false := beq_eq_false_iff_ne.2 hb
      have h2 : (c == b) = false := beq_eq_false_iff_ne.2 (Ne.symm hb)
      rw [h1, h2, Bool.false_or]
      simp only [Bool.false_eq_true, if_false]
      refine ⟨fun h => ?_, fun h => ?_⟩
      · have := ih.1 h
        rw [show (Lib.indexByte l c == -1) = false from beq_eq_false_iff_ne.2 (by omega)]
        simp only [Bool.false_eq_true, if_false]
        omega
      · rw [ih.2 h]; rfl
theorem blank_contains (c : UInt8) : ([32, 9, 10, 13] : BL).contains c = isBlank c := by
  unfold isBlank
  simp only [List.contains_cons, List.contains_nil, Bool.or_false, Bool.or_assoc]
theorem index_blank (c : UInt8) : (isBlank c = true → 0 ≤ Lib.indexByte [32, 9, 10, 13] c) ∧ (isBlank c = false → Lib.indexByte [32, 9, 10, 13] c = -1) := by
  rw [← blank_contains]; exact index_one _ _

set_option maxHeartbeats 4000000 in
set_option maxRecDepth 100000 in
theorem blank_rb (rb : Nat) (s : BL) (k c : Nat) (w : World) (hs : s.length ≤ 1000000) (hk : k ≤ s.length) (hB : RB w rb s k c) :
    Calls Tryz.prog 31 #[.pointer (some ⟨rb, 0, none⟩)] w fun e w' => e = .returned (.tuple #[]) ∧ (∃ k', k' ≤ s.length ∧ s.drop k' = blankL (s.drop k) ∧ RB w' rb s k' c) ∧ Only (· = rb) w w' := by
  obtain ⟨S, hS⟩ : ∃ S, BA s = S := ⟨_, rfl⟩
  have hSs : S.size = s.length := by rw [← hS, ba_size]
  have H := Lib.hid (And.intro hB (And.intro hs (And.intro hS hSs)))
  clear hB hs hS hSs
  go_enter Tryz.func31, Tryz.ntmps31
  go_wp2_with fail
  go_loopg [] (s.length - k) (fun gk wr => ∃ k', gk + k' = s.length ∧ Hid (RB wr rb s k' c ∧ blankL (s.drop k') = blankL (s.drop k) ∧ Only (· = rb) w wr))
  case atStart => exact ⟨k, by omega, Lib.hid ⟨H.out.1, rfl, Only.refl _ _⟩⟩
  case round =>
    obtain ⟨k', hg, HI⟩ := hrel
    have hB : Blk wr rb 64 [.string S, .int .i64 k', .int .i64 c] := by rw [← H.out.2.2.1]; exact HI.out.1
    have c0 := hB.cell 0
    have c1 := hB.cell 1
    have f1 := hB.frozen 1
    have HB := Lib.hid hB
    clear hB
    have hSs := H.out.2.2.2
    by_cases hp : k' < S.size
    · have hpz : (k' : Int) < (S.size : Int) := by omega
      have hple : (k' : Int) ≤ (S.size : Int) := by omega
      have hp0 : (0 : Int) ≤ (k' : Int) := by omega
      obtain ⟨b, hb⟩ : ∃ b, S[k']'hp = b := ⟨_, rfl⟩
      have hsb : s[k']'(by omega) = b := by
        have := H.out.2.2.1
        subst this
        rw [← hb]; rfl
      have hst := blank_drop s k' (by omega)
      rw [hsb] at hst
      have hw1 : IntKind.i64.wrap ((k' : Int) + 1) = ((k' + 1 : Nat) : Int) := by rw [IntWalk.i64_in _ (by have := H.out.2.1; omega)]; omega
      have cI : ∀ W, Calls Tryz.prog 55 #[.string ⟨#[32, 9, 10, 13]⟩, .int .u8 (b.toNat : Int)] W fun e w' => e = .returned (.int .i64 (Lib.indexByte [32, 9, 10, 13] b)) ∧ w' = W := fun W => by
        have h := Tryz.strings_IndexByte ⟨#[32, 9, 10, 13]⟩ (b.toNat : Int) W
        rw [show ((b.toNat : Int).toNat.toUInt8) = b by simp] at h
        exact h
      have hix := index_blank b
      obtain ⟨Z, hZ⟩ : ∃ Z, Lib.indexByte [32, 9, 10, 13] b = Z := ⟨_, rfl⟩
      rw [hZ] at hix
      simp only [hZ] at cI
      have HC := Lib.hid cI
      have HS := Lib.hid hst
      clear cI hst hsb hZ
      cases hbl : isBlank b with
      | true =>
        have hz : 0 ≤ Z := hix.1 hbl
        have hE := HS.out
        rw [hbl, if_pos rfl] at hE
        have HF := Lib.hid (show ∀ n, RB ((wr.drewN n).setCell ⟨rb, 1, none⟩ (.int .i64 ((k' + 1 : Nat) : Int))) rb s (k' + 1) c ∧ blankL (s.drop (k' + 1)) = blankL (s.drop k) ∧ Only (· = rb) w ((wr.drewN n).setCell ⟨rb, 1, none⟩ (.int .i64 ((k' + 1 : Nat) : Int))) from fun n => ⟨Blk.set (w := wr.drewN n) HI.out.1 1 _, hE.symm.trans HI.out.2.1, (HI.out.2.2.trans (Only.drewN _ _ n)).trans (Only.set1 _ _ _ _)⟩)
        have hgi : ∀ n, gk = n + 1 → n + (k' + 1) = s.length := fun n hn => by omega
        have hgp : ∃ n, gk = n + 1 := ⟨gk - 1, by omega⟩
        obtain ⟨gn, rfl⟩ := hgp
        have hgi := hgi gn rfl
        have HG := Lib.hid hgi
        clear hE hix hbl hSs hgi hg
        go_wp2
        go_quiet ((go_at_call 55; exact Calls.quiet_of_same (HC.out _)))
        go_wp2
        go_roundg gn
        case rel => exact ⟨k' + 1, HG.out, Lib.hid (HF.out _)⟩
        case measure => omega
      | false =>
        have hz : Z = -1 := hix.2 hbl
        subst hz
        have hE := HS.out
        rw [hbl, if_neg (by decide)] at hE
        have HF := Lib.hid (show ∀ n, (∃ k', k' ≤ s.length ∧ s.drop k' = blankL (s.drop k) ∧ RB (wr.drewN n) rb s k' c) ∧ Only (· = rb) w (wr.drewN n) from fun n => ⟨⟨k', by omega, by rw [← HI.out.2.1, hE], HI.out.1⟩, HI.out.2.2.trans (Only.drewN _ _ n)⟩)
        clear hE hix hbl hSs hg
        go_wp2
        go_quiet ((go_at_call 55; exact Calls.quiet_of_same (HC.out _)))
        go_wp2
        go_end0
        exact ⟨rfl, HF.out _⟩
    · have hpz : ¬ (k' : Int) < (S.size : Int) := by omega
      have HF := Lib.hid (show ∀ n, (∃ k', k' ≤ s.length ∧ s.drop k' = blankL (s.drop k) ∧ RB (wr.drewN n) rb s k' c) ∧ Only (· = rb) w (wr.drewN n) from fun n => ⟨⟨k', by omega, by rw [← HI.out.2.1, List.drop_eq_nil_of_le (by omega)]; rfl, HI.out.1⟩, HI.out.2.2.trans (Only.drewN _ _ n)⟩)
      clear hSs hg
      go_wp2
      go_quiet (fail)
      go_wp2
      go_end0
      exact ⟨rfl, HF.out _⟩
theorem blank_any (rb : Nat) (s : BL) (st : Except Nat BL) (w : World) (hs : s.length ≤ 1000000) (hR : RS w rb s st) :
    Calls Tryz.prog 31 #[.pointer (some ⟨rb, 0, none⟩)] w fun e w' => e = .returned (.tuple #[]) ∧ RS w' rb s (st.map blankL) ∧ Only (· = rb) w w' := by
  obtain ⟨k, c, hk, hB, h⟩ := hR.any
  refine (blank_rb rb s k c w hs hk hB).mono ?_
  rintro e w' ⟨rfl, ⟨k', hk', hd, hB2⟩, ho⟩
  refine ⟨rfl, ?_, ho⟩
  rcases h with ⟨rfl, rfl⟩ | ⟨hc, rfl⟩
  · exact ⟨k', hk', hd, hB2⟩
  · exact RS.of hk' hB2 hc

/-! ### is, must -/
theorem isL_some {t s r : BL} : isL t s = some r ↔ s = t ++ r := ⟨isL_len, fun h => by rw [h]; exact isL_app t r⟩
theorem isL_prefix (t s : BL) : Lib.hasPrefix s t = (isL t s).isSome := by
  cases h : isL t s with
  | none =>
    cases hp : Lib.hasPrefix s t with
    | false => rfl
    | true =>
      obtain ⟨x, hx⟩ := List.isPrefixOf_iff_prefix.mp (show t.isPrefixOf s = true from hp)
      rw [← hx, isL_app] at h; cases h
  | some r =>
    rw [isL_len h]
    exact List.isPrefixOf_iff_prefix.mpr (List.prefix_append t r)
theorem ba_ext (s : BL) (k : Nat) : (BA s).extract k (BA s).size = BA (s.drop k) := by
  apply ByteArray.ext
  simp [ba_size]
  rw [List.take_of_length_le (by simp)]
/-- whether a text stands there, and the state behind it. -/
def isB (t : BL) (st : Except Nat BL) : Bool := match st with
  | .ok r => (isL t r).isSome
  | .error _ => false
def isS (t : BL) (st : Except Nat BL) : Except Nat BL := match st with
  | .ok r => .ok ((isL t r).getD r)
  | .error e => .error e
set_option maxHeartbeats 4000000 in
set_option maxRecDepth 100000 in
theorem is_any (rb : Nat) (T : ByteArray) (t s : BL) (st : Except Nat BL) (w : World) (hT : T = BA t) (hs : s.length ≤ 1000000) (hR : RS w rb s st) :
    Calls Tryz.prog 56 #[.pointer (some ⟨rb, 0, none⟩), .string T] w fun e w' => e = .returned (.bool (isB t st)) ∧ RS w' rb s (isS t st) ∧ Only (· = rb) w w' := by
  obtain ⟨k, c, hk, hB, h⟩ := hR.any
  clear hR
  rcases h with ⟨rfl, rfl⟩ | ⟨hc, rfl⟩
  · obtain ⟨S, hS⟩ : ∃ S, BA s = S := ⟨_, rfl⟩
    have hSs : S.size = s.length := by rw [← hS, ba_size]
    obtain ⟨X, hX⟩ : ∃ X, S.extract k S.size = X := ⟨_, rfl⟩
    have hXL : X = BA (s.drop k) := by rw [← hX, ← hS, ba_ext]
    have cP : ∀ W, Calls Tryz.prog 60 #[.string X, .string T] W fun e w' => e = .returned (.bool (isL t (s.drop k)).isSome) ∧ w' = W := fun W => by
      have cP := Tryz.strings_HasPrefix X T W
      rw [show X.data.toList = s.drop k by rw [hXL], show T.data.toList = t by rw [hT], isL_prefix] at cP
      exact cP
    have hTs : T.size = t.length := by rw [hT, ba_size]
    have H := Lib.hid (And.intro hB (And.intro hXL (And.intro hs hk)))
    have hB' : Blk w rb 64 [.string S, .int .i64 k, .int .i64 0] := by rw [← hS]; exact hB
    have c0 := hB'.cell 0
    have c1 := hB'.cell 1
    have c2 := hB'.cell 2
    have f1 := hB'.frozen 1
    have hkz : (k : Int) ≤ (S.size : Int) := by omega
    have hk0 : (0 : Int) ≤ (k : Int) := by omega
    have hz0 : ((0 : Int) != (0 : Int)) = false := rfl
    have hb : isB t (.ok (s.drop k)) = (isL t (s.drop k)).isSome := rfl
    have hst : isS t (.ok (s.drop k)) = .ok ((isL t (s.drop k)).getD (s.drop k)) := rfl
    rw [hb, hst]
    cases hi : isL t (s.drop k) with
    | some r =>
      simp only [hi, Option.isSome_some] at cP
      have hr := isL_len hi
      have hlen : t.length + r.length + k = s.length := by
        have := congrArg List.length hr
        rw [List.length_drop, List.length_append] at this
        omega
      have hdr : s.drop (k + t.length) = r := by rw [← List.drop_drop, hr, List.drop_left]
      have hw1 : IntKind.i64.wrap ((k : Int) + (T.size : Int)) = ((k + t.length : Nat) : Int) := by rw [IntWalk.i64_in _ (by omega)]; omega
      have HC := Lib.hid cP
      have HR := Lib.hid (And.intro hdr hlen)
      clear cP hr hlen hdr hi hXL hS hT hb hst hB' hSs hTs hk
      go_enter Tryz.func56, Tryz.ntmps56
      go_wp2
      go_quiet ((go_at_call 60; exact Calls.quiet_of_same (HC.out _)))
      go_wp2
      go_ret
      refine ⟨rfl, ⟨k + t.length, by have := HR.out.2; omega, HR.out.1, ?_⟩, (Only.drewN _ _ _).trans (Only.set1 _ _ _ _)⟩
      exact Blk.set (w := w.drewN _) H.out.1 1 _
    | none =>
      simp only [hi, Option.isSome_none] at cP
      have HC := Lib.hid cP
      clear cP hi hXL hS hT hb hst hB' hSs hTs hk
      go_enter Tryz.func56, Tryz.ntmps56
      go_wp2
      go_quiet ((go_at_call 60; exact Calls.quiet_of_same (HC.out _)))
      go_wp2
      go_ret
      exact ⟨rfl, ⟨k, H.out.2.2.2, rfl, H.out.1⟩, Only.drewN _ _ _⟩
  · have c2 := Blk.cell hB 2
    have hcz : ¬ (c : Int) = 0 := by omega
    have hcz2 : ((c : Int) == 0) = false := beq_eq_false_iff_ne.2 hcz
    have hcz3 : ((c : Int) != 0) = true := by simp [bne, hcz2]
    have H := Lib.hid (And.intro hB hk)
    clear hB
    go_enter Tryz.func56, Tryz.ntmps56
    go_wp2
    go_quiet (fail)
    go_wp2
    go_ret
    exact ⟨rfl, ⟨hc, k, H.out.2, H.out.1⟩, Only.drewN _ _ _⟩
/-- what must stand there, and blanks. -/
def mustS (t : BL) (st : Except Nat BL) : Except Nat BL := match st with
  | .ok r => (match isL t r with
    | some r2 => .ok (blankL r2)
    | none => .error 1)
  | .error e => .error e
set_option maxHeartbeats 4000000 in
set_option maxRecDepth 100000 in
theorem must_any (rb : Nat) (T : ByteArray) (t s : BL) (st : Except Nat BL) (w : World) (hT : T = BA t) (hs : s.length ≤ 1000000) (hR : RS w rb s st) :
    Calls Tryz.prog 92 #[.pointer (some ⟨rb, 0, none⟩), .string T] w fun e w' => e = .returned (.tuple #[]) ∧ RS w' rb s (mustS t st) ∧ Only (· = rb) w w' := by
  have H := Lib.hid (And.intro hR (And.intro hT hs))
  clear hR hT hs
  go_enter Tryz.func92, Tryz.ntmps92
  go_wp2_with fail
  refine (is_any rb T t s st w H.out.2.1 H.out.2.2 H.out.1).mono ?_
  rintro e w2 ⟨rfl, h2, ho2⟩
  have H2 := Lib.hid (And.intro h2 ho2)
  clear h2 ho2
  cases hb : isB t st with
  | true =>
    have HB := Lib.hid hb
    clear hb
    go_wp2_with fail
    refine (blank_any rb s _ w2 H.out.2.2 H2.out.1).mono ?_
    rintro e w3 ⟨rfl, h3, ho3⟩
    have H3 := Lib.hid (And.intro h3 (H2.out.2.trans ho3))
    clear h3 ho3
    go_wp2
    go_end0
    refine ⟨rfl, ?_, H3.out.2⟩
    have h := H3.out.1
    have hb := HB.out
    cases st with
    | error e => cases hb
    | ok r =>
      unfold isB at hb
      unfold isS at h
      unfold mustS
      cases hi : isL t r with
      | none => simp only [hi] at hb; cases hb
      | some r2 => simp only [hi] at h ⊢; exact h
  | false =>
    have HB := Lib.hid hb
    clear hb
    go_wp2_with fail
    refine (wrong_any rb s _ 1 (by decide) w2 H2.out.1).mono ?_
    rintro e w3 ⟨rfl, h3, ho3⟩
    have H3 := Lib.hid (And.intro h3 (H2.out.2.trans ho3))
    clear h3 ho3
    go_wp2_with fail
    refine (blank_any rb s _ w3 H.out.2.2 H3.out.1).mono ?_
    rintro e w4 ⟨rfl, h4, ho4⟩
    have H4 := Lib.hid (And.intro h4 (H3.out.2.trans ho4))
    clear h4 ho4
    go_wp2
    go_end0
    refine ⟨rfl, ?_, H4.out.2⟩
    have h := H4.out.1
    have hb := HB.out
    cases st with
    | error e => exact h
    | ok r =>
      unfold isB at hb
      unfold isS at h
      unfold mustS
      cases hi : isL t r with
      | none => simp only [hi] at h ⊢; exact h
      | some r2 => simp only [hi] at hb; cases hb
end Go.Proofs.YtccnfnoonpfdfaaGreatDoor
