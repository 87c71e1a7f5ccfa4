/- slices.Clone at fields; value.Set (printed by wip/gen_jnk.py). -/
import Derived.Test.YtccnfnoonpfdfaaGreatDoorJnJ
namespace Go.Proofs.YtccnfnoonpfdfaaGreatDoor
open Go.Shelf Go.RowKit Go.Lib

/-- Insert at any place. -/
theorem ins_any (B n k bh : Nat) (p : Option Addr) (cap : Nat) (cs x : List Value) (w : World) (hv : w.ownsRow B 51 6 (.slice p n cap) n cs) (hk : k ≤ n) (hx : Blk w bh 51 x) (hxl : x.length = 6) (h1 : ∀ u ∈ x, u.oneCell' = true) (hc1 : ∀ u ∈ cs, u.oneCell' = true) (hbh : some bh ≠ (Value.slice p n cap).ownBlock) (hn : n ≤ 1000000) (hB : B ≤ w.heap.size) :
    Calls Tryz.prog 121 #[.slice p n cap, .int .i64 k, .slice (some ⟨bh, 0, none⟩) 1 1] w (InsPost B n k cs x (Value.slice p n cap).ownBlock w) := by
  by_cases hkn : k = n
  · subst hkn
    exact ins_end B k bh p cap cs x w hv hx hxl h1 hn hB
  · rcases ownsRow_cases hv with ⟨_, h0, _⟩ | ⟨g, c2, h⟩
    · omega
    · injection h with h1' h2' h3'
      subst h1' h3'
      have hbg : bh ≠ g := fun e => hbh (by rw [e]; rfl)
      by_cases hr : n + 1 ≤ cap
      · exact ins_shift B n g k bh cap cs x w hv (by omega) hr hx hxl h1 hc1 hbg hn
      · exact ins_grow B n g k bh cap cs x w hv (by omega) (by omega) hx hxl h1 hc1 hbg hn

set_option maxHeartbeats 4000000 in
set_option maxRecDepth 100000 in
/-- a row of one's own that holds the same. -/
theorem clone_any (S : Nat → Prop) (sl : Value) (n : Nat) (cs : List Value) (w : World) (hr : RowAt S w sl n cs) (hcl : cs.length = n * 6) (h1 : ∀ u ∈ cs, u.oneCell' = true) (hn : n ≤ 1000000) :
    Calls Tryz.prog 118 #[sl] w fun e w' => ∃ p c, e = .returned (.slice p n c) ∧ w'.ownsRow w.heap.size 51 6 (.slice p n c) n cs ∧ Below w.heap.size w w' := by
  rcases hr.2 with ⟨h0, rfl⟩ | ⟨b, cap, rfl, _, hc⟩
  · have hcs : cs = [] := List.eq_nil_of_length_eq_zero (by omega)
    have HF := Lib.hid (show w.ownsRow w.heap.size 51 6 (.slice none n 0) n cs ∧ Below w.heap.size w w from ⟨⟨hcl, .inl ⟨by rw [h0], h0⟩⟩, Below.refl _ _⟩)
    clear hr hcs
    subst h0
    have heq : ∀ w, (binOp BinOp.eql 26 (.slice none 0 0) (.slice none 0 0)).run Tryz.prog w = .ok (.bool true) w := fun w => by kernel_rfl
    go_enter Tryz.func118, Tryz.ntmps118
    go_wp2_with (simp only [heq])
    go_ret
    exact ⟨none, 0, rfl, HF.out⟩
  · obtain ⟨i0, hi, hii⟩ := Option.map_eq_some_iff.1 infoF
    simp only [Prod.mk.injEq] at hii
    obtain ⟨hz0, hz1, hz2⟩ := hii
    obtain ⟨N, hN⟩ : ∃ N, w.heap.size = N := ⟨_, rfl⟩
    obtain ⟨W, hW⟩ : ∃ W, w.alloc (.cells #[] 51) = W := ⟨_, rfl⟩
    have hBN : Blk W N 51 ([] ++ []) := by rw [← hW, ← hN]; exact heap_alloc_new w _
    have hb0 : Below w.heap.size w W := by rw [← hW]; exact (Below.refl _ w).alloc (Nat.le_refl _) _
    have hs0 : W.heap.size = N + 1 := by rw [← hW, ← hN]; simp
    have hown : W.ownsRow N 51 6 (.slice (some ⟨N, 0, none⟩) 0 0) 0 [] := ownsRow_of_blkB (Nat.le_refl _) hBN rfl rfl (Nat.le_refl _) (by unfold maxLen; omega)
    obtain ⟨v', w', hrun, ho, hg, _, hat⟩ := (fun ty => run_append_own_at (P := Tryz.prog) W N 26 ty 51 i0 _ 6 96 Tryz.underlying26 hi hz0 hz1 hz2 rfl (by decide) (.slice (some ⟨N, 0, none⟩) 0 0) 0 [] hown ⟨b, 0, none⟩ n cap cs hcl (fun j u hu => by
        rw [add_at]; exact bcell hb0 (hc j u hu)) h1 (by unfold maxLen; omega) (by omega) (by omega)) 0
    rw [Nat.zero_add, List.nil_append] at ho
    obtain ⟨p, c, rfl⟩ := slice_of_own ho
    have hO : Only (fun k => some k = some N) W w' := Only.ofGrown hg (fun k e => e.symm)
    have HF := Lib.hid (show w'.ownsRow N 51 6 (.slice p n c) n cs ∧ Below N w w' from ⟨ho, by rw [← hN]; exact hb0.trans (hO.below hb0.size (fun k hk e => by injection e with e; omega))⟩)
    have HR := Lib.hid (show ∀ ty, (Builtin.append_ #[26, 26] ty #[.slice (some ⟨N, 0, none⟩) 0 0, .slice (some ⟨b, 0, none⟩) n cap]).run Tryz.prog W = .ok (.slice p n c) w' from fun ty => hrun)
    have HW := Lib.hid (And.intro hW hN)
    clear hr hc hBN hb0 hs0 hown hrun ho hg hat hO hW hN
    have heq : ∀ w, (binOp BinOp.eql 26 (.slice (some ⟨b, 0, none⟩) n cap) (.slice none 0 0)).run Tryz.prog w = .ok (.bool false) w := fun w => by kernel_rfl
    go_enter Tryz.func118, Tryz.ntmps118
    go_wp2_with (first | (simp only [heq]) | (at_builtin; rw [HW.out.1]; (try rw [HW.out.2]); refine wpList_append_run rfl (.tmp 5) (.tmp 6) 26 rfl (.slice (some ⟨N, 0, none⟩) 0 0) (.slice (some ⟨b, 0, none⟩) n cap) rfl rfl (.slice p n c) w' HR.out ?_))
    go_ret
    rw [HW.out.2]
    exact ⟨p, c, rfl, HF.out⟩

/-! ### the place of a new name -/
def idxG : List (BL × V) → BL → Nat → Option Nat
  | [], _, _ => none
  | f :: l, p, i => if lcmp f.1 p = .gt then some i else idxG l p (i + 1)
theorem idxG_drop (l : List (BL × V)) (p : BL) (i : Nat) (h : i < l.length) : idxG (l.drop i) p i = if lcmp l[i].1 p = .gt then some i else idxG (l.drop (i + 1)) p (i + 1) := by
  rw [List.drop_eq_getElem_cons h, idxG]
theorem idxG_set : ∀ (l : List (BL × V)) (p : BL) (v : V) (i : Nat), setF l p v = l.take (((idxG l p i).getD (i + l.length)) - i) ++ (p, v) :: l.drop (((idxG l p i).getD (i + l.length)) - i) ∧ i ≤ (idxG l p i).getD (i + l.length) ∧ (idxG l p i).getD (i + l.length) ≤ i + l.length
  | [], p, v, i => by simp [setF, idxG]
  | f :: l, p, v, i => by
    rw [setF, idxG]
    split
    · simp
    · have h := idxG_set l p v (i + 1)
      rw [show i + (f :: l).length = i + 1 + l.length by simp; omega]
      obtain ⟨k, hk⟩ : ∃ k, (idxG l p (i + 1)).getD (i + 1 + l.length) = k := ⟨_, rfl⟩
      rw [hk] at h ⊢
      refine ⟨?_, by omega, h.2.2⟩
      rw [h.1, show k - i = (k - (i + 1)) + 1 by omega]
      rfl
theorem less_gt (a b : BL) : (!Op.bytesLess (BA a).toList (BA b).toList && !((BA a).toList == (BA b).toList)) = (lcmp a b == .gt) := by
  rw [Lib.toList_data, Lib.toList_data]
  show (!Op.bytesLess a b && !(a == b)) = _
  rw [lcmp_less]
  cases h : lcmp a b with
  | lt => rfl
  | eq => rw [lcmp_eq h]; simp
  | gt =>
    have : (a == b) = false := by rw [beq_eq_false_iff_ne]; intro e; rw [e, lcmp_refl] at h; cases h
    rw [this]; rfl
set_option maxHeartbeats 1000000 in
set_option maxRecDepth 100000 in
theorem above_any (NX NM : ByteArray) (q0 q1 : Int) (q2 : ByteArray) (q3 : Option Addr) (q4 q5 : Nat) (q6 : Option Addr) (q7 q8 : Nat) (pb : Nat) (w : World) (hp : w.cell? ⟨pb, 0, none⟩ = some (.string NM)) :
    Calls Tryz.prog 120 #[.agg #[.string NX, .int .i64 q0, .int .i64 q1, .string q2, .slice q3 q4 q5, .slice q6 q7 q8], .pointer (some ⟨pb, 0, none⟩)] w fun e w' => e = .returned (.bool (!Op.bytesLess NX.toList NM.toList && !(NX.toList == NM.toList))) ∧ Below w.heap.size w w' := by
  have hp2 := bcell ((Below.refl w.heap.size w).alloc (Nat.le_refl _) (.cells #[.string NX, .int .i64 q0, .int .i64 q1, .string q2, .slice q3 q4 q5, .slice q6 q7 q8] 51)) hp
  go_enter Tryz.func120, Tryz.ntmps120
  go_wp2
  go_ret
  exact ⟨by first | rfl | simp, (Below.refl _ w).alloc (Nat.le_refl _) _⟩

set_option maxHeartbeats 4000000 in
set_option maxRecDepth 100000 in
theorem gidx_any (l : List (BL × V)) (cs : List Value) (p : Option Addr) (cap pb : Nat) (nm : BL) (S : Nat → Prop) (w : World) (hV : FsAt S w l cs) (hr : 0 < l.length → ∃ b, p = some ⟨b, 0, none⟩ ∧ ∀ k u, cs[k]? = some u → w.cell? ⟨b, k, none⟩ = some u) (hln : l.length ≤ 9223372036854775807) (hp : w.cell? ⟨pb, 0, none⟩ = some (.string (BA nm))) :
    Calls Tryz.prog 119 #[.slice p l.length cap, .func (.func 120) #[] #[.pointer (some ⟨pb, 0, none⟩)]] w fun e w' => e = .returned (.int .i64 (idxI (idxG l nm 0))) ∧ Below w.heap.size w w' := by
  have HV := Lib.hid (And.intro hV (And.intro hr hp))
  clear hV hr hp
  obtain ⟨N1, hN1⟩ : ∃ N, l.length = N := ⟨_, rfl⟩
  rw [hN1] at hln
  rw [hN1]
  have H0 := Lib.hid hN1
  clear hN1
  go_enter Tryz.func119, Tryz.ntmps119
  go_wp2_with fail
  go_loopg [8] N1 (fun gk iv wr => ∃ (i : Nat), gk + i = N1 ∧ iv = .int .i64 i ∧ Hid (idxG l nm 0 = idxG (l.drop i) nm i) ∧ Hid (Below w.heap.size w wr))
  case atStart => exact ⟨0, Nat.add_zero _, rfl, Lib.hid rfl, Lib.hid (Below.refl _ _)⟩
  case round =>
    obtain ⟨i, hg, rfl, HC, HB⟩ := hrel
    by_cases hi : i < N1
    · have hiz : (i : Int) < (N1 : Int) := by omega
      have hwK : IntKind.i64.wrap ((i : Int) + 1) = ((i + 1 : Nat) : Int) := by rw [IntWalk.i64_in _ (by omega)]; omega
      have hx1 : i < l.length := by rw [H0.out]; exact hi
      obtain ⟨b, hpe, hrb⟩ := HV.out.2.1 (by omega)
      subst hpe
      obtain ⟨d0, d1, d2, d3, d4, hx, e5, e0, e1, e2, e3, e4⟩ := HV.out.1.get i hx1
      obtain ⟨q0, q1, q2, q3, q4, q5, q6, q7, q8, hq⟩ := hx.shape
      simp only [List.cons.injEq, and_true] at hq
      obtain ⟨rfl, rfl, rfl, rfl, rfl⟩ := hq
      obtain ⟨nx, hnx⟩ : ∃ n, l[i].1 = n := ⟨_, rfl⟩
      obtain ⟨NX, hNX⟩ : ∃ n, BA nx = n := ⟨_, rfl⟩
      rw [hnx, hNX] at e5
      have a5 := bcell HB.out (hrb _ _ e5)
      have a0 := bcell HB.out (hrb _ _ e0)
      have a1 := bcell HB.out (hrb _ _ e1)
      have a2 := bcell HB.out (hrb _ _ e2)
      have a3 := bcell HB.out (hrb _ _ e3)
      have a4 := bcell HB.out (hrb _ _ e4)
      have hnext := idxG_drop l nm i hx1
      rw [hnx] at hnext
      have HN := Lib.hid (And.intro (HC.out.trans hnext) hNX)
      clear hx e5 e0 e1 e2 e3 e4 hrb hnext hnx hNX
      go_wp2_with fail
      have hcall := above_any NX (BA nm) q0 q1 q2 q3 q4 q5 q6 q7 q8 pb _ (bcell HB.out HV.out.2.2)
      rw [← HN.out.2, less_gt] at hcall
      rw [← HN.out.2]
      refine (show Calls _ _ _ _ _ from hcall).mono ?_
      rintro e w4 ⟨rfl, hb4⟩
      have HB4 := Lib.hid (HB.out.trans (hb4.mono HB.out.size))
      clear hcall hb4 a5 a0 a1 a2 a3 a4
      by_cases hne : lcmp nx nm = .gt
      · have HE := Lib.hid (show idxI (idxG l nm 0) = (i : Int) by rw [HN.out.1, if_pos hne]; rfl)
        rw [show (lcmp nx nm == .gt) = true by rw [hne]; rfl]
        go_wp2
        go_ret
        exact ⟨by rw [HE.out]; try rfl, HB4.out⟩
      · have HE := Lib.hid (show idxG l nm 0 = idxG (l.drop (i + 1)) nm (i + 1) by rw [HN.out.1, if_neg hne])
        rw [show (lcmp nx nm == .gt) = false by cases h : lcmp nx nm <;> first | rfl | exact absurd h hne]
        go_wp2
        go_roundg (gk - 1)
        case rel => exact ⟨i + 1, by omega, rfl, HE, HB4⟩
        case measure => omega
    · have hiz : ¬ (i : Int) < (N1 : Int) := by omega
      have HE := Lib.hid (show idxI (idxG l nm 0) = -1 by rw [HC.out, List.drop_eq_nil_of_le (by rw [H0.out]; omega)]; rfl)
      go_wp2
      go_ret
      exact ⟨by rw [HE.out]; try rfl, HB.out⟩

/-! ### the row with one more -/
theorem FsAt.append {S : Nat → Prop} {w : World} : ∀ {l m : List (BL × V)} {cs ds : List Value}, FsAt S w l cs → FsAt S w m ds → FsAt S w (l ++ m) (cs ++ ds)
  | _, _, _, _, .nil, h => h
  | _, _, _, _, .cons n v l c0 c1 c2 c3 c4 cs h t, k => .cons n v _ c0 c1 c2 c3 c4 _ h (FsAt.append t k)
theorem FsAt.split {S : Nat → Prop} {w : World} : ∀ {l : List (BL × V)} {cs : List Value} (k : Nat), FsAt S w l cs → FsAt S w (l.take k) (cs.take (k * 6)) ∧ FsAt S w (l.drop k) (cs.drop (k * 6))
  | _, _, 0, h => by simp; exact ⟨.nil, h⟩
  | _, _, k + 1, .nil => by simp; exact .nil
  | _, _, k + 1, .cons n v l c0 c1 c2 c3 c4 cs h t => by
    have ih := FsAt.split k t
    rw [show (k + 1) * 6 = k * 6 + 6 by omega]
    exact ⟨.cons n v _ c0 c1 c2 c3 c4 _ h ih.1, ih.2⟩
theorem FsAt.one {S : Nat → Prop} {w : World} : ∀ {l : List (BL × V)} {cs : List Value}, FsAt S w l cs → ∀ u ∈ cs, u.oneCell' = true
  | _, _, .nil, u, h => by simp at h
  | _, _, .cons n v l c0 c1 c2 c3 c4 cs h t, u, hu => by
    rcases List.mem_cons.1 hu with rfl | hu
    · rfl
    · have h1 : u ∈ [c0, c1, c2, c3, c4] ∨ u ∈ cs := by simpa [or_assoc] using hu
      rcases h1 with h1 | h1
      · exact h.one u h1
      · exact FsAt.one t u h1
theorem FsAt.lenJ {S : Nat → Prop} {w : World} : ∀ {l : List (BL × V)} {cs : List Value}, FsAt S w l cs → cs.length = l.length * 6
  | _, _, .nil => rfl
  | _, _, .cons _ _ l _ _ _ _ _ cs _ t => by have := FsAt.lenJ t; simp only [List.length_cons]; omega
theorem hasF_idx : ∀ (l : List (BL × V)) (nm : BL) (i : Nat), hasF l nm = (idxP l nm i).isSome
  | [], nm, i => rfl
  | f :: l, nm, i => by
    have ih := hasF_idx l nm (i + 1)
    unfold hasF at ih ⊢
    rw [List.any_cons, ih, idxP]
    by_cases h : f.1 = nm
    · rw [if_pos h]; simp [h]
    · rw [if_neg h, beq_eq_false_iff_ne.2 h]; rfl

theorem own_onlyJ {S : Nat → Prop} {w w2 : World} {B size n : Nat} {e : TypeId} {v : Value} {xs : List Value} (h : w.ownsRow B e size v n xs) (ho : Only S w w2) (hS : ∀ k, B ≤ k → ¬ S k) : w2.ownsRow B e size v n xs := by
  obtain ⟨hl, h⟩ := h
  refine ⟨hl, ?_⟩
  rcases h with h | ⟨g, cap, cur, hv, hg, hh, r⟩
  · exact .inl h
  · exact .inr ⟨g, cap, cur, hv, hg, (ho.block g (lt_of_block hh) (hS g hg)).trans hh, r⟩
theorem own_below' {w w2 : World} {B size n : Nat} {e : TypeId} {v : Value} {xs : List Value} (h : w.ownsRow B e size v n xs) (hb : Below w.heap.size w w2) : w2.ownsRow B e size v n xs := own_onlyJ h (Only.ofBelow hb (fun _ => False)) (fun _ _ e => e)
theorem set_fin {w7 W9 : World} {P : Nat} {sl z0 z1 z2 z3 z4 : Value} (h3 : Blk w7 (P + 3) 28 [z0, z1, z2, z3, z4])
    (hW : ((((((w7.setCell ⟨P, 4, none⟩ sl).setCell ⟨P + 3, 0, none⟩ (.int .i64 5)).setCell ⟨P + 3, 1, none⟩ (.int .i64 0)).setCell ⟨P + 3, 2, none⟩ (.string ⟨#[]⟩)).setCell ⟨P + 3, 3, none⟩ (.slice none 0 0)).setCell ⟨P + 3, 4, none⟩ sl) = W9) :
    Blk W9 (P + 3) 28 [.int .i64 5, .int .i64 0, .string ⟨#[]⟩, .slice none 0 0, sl] ∧ Only (fun k => k = P ∨ k = P + 3) w7 W9 := by
  have h3' : Blk (w7.setCell ⟨P, 4, none⟩ sl) (P + 3) 28 [z0, z1, z2, z3, z4] := h3.only (Only.set1 w7 P 4 sl) (by omega)
  obtain ⟨hB, ho⟩ := put5 h3' hW
  exact ⟨hB, ((Only.set1 w7 P 4 sl).mono (fun i _ e => .inl e)).trans (ho.mono (fun i _ e => .inr e))⟩
/-- what Set comes to. -/
def SetPost (S T : Nat → Prop) (l : List (BL × V)) (nm : BL) (x : List Value) (w : World) (e : Ending) (w' : World) : Prop := ∃ p n c, e = .returned (.agg #[.int .i64 5, .int .i64 0, .string ⟨#[]⟩, .slice none 0 0, .slice p n c]) ∧ Below w.heap.size w w' ∧
  (∀ v, hasF l nm = false → VAt T w v x → VAt (fun b => S b ∨ T b ∨ (w.heap.size ≤ b ∧ b < w'.heap.size)) w' (.obj (setF l nm v)) [.int .i64 5, .int .i64 0, .string ⟨#[]⟩, .slice none 0 0, .slice p n c])
set_option maxHeartbeats 8000000 in
set_option maxRecDepth 100000 in
theorem set_any (S T : Nat → Prop) (l : List (BL × V)) (nm : BL) (cs : List Value) (sp : Option Addr) (sn sc : Nat) (x0 x1 : Int) (x2 : ByteArray) (x3 x6 : Option Addr) (x4 x5 x7 x8 : Nat) (w : World) (hV : FsAt S w l cs) (hr : RowAt S w (.slice sp sn sc) l.length cs) (hl : l.length ≤ 1000000) :
    Calls Tryz.prog 94 #[.agg #[.int .i64 5, .int .i64 0, .string ⟨#[]⟩, .slice none 0 0, .slice sp sn sc], .string (BA nm), .agg #[.int .i64 x0, .int .i64 x1, .string x2, .slice x3 x4 x5, .slice x6 x7 x8]] w (SetPost S T l nm [.int .i64 x0, .int .i64 x1, .string x2, .slice x3 x4 x5, .slice x6 x7 x8] w) := by
  have hcl := hV.lenJ
  have h1c := hV.one
  obtain ⟨P, hP⟩ : ∃ P, w.heap.size = P := ⟨_, rfl⟩
  obtain ⟨NM, hNM⟩ : ∃ N, BA nm = N := ⟨_, rfl⟩
  rw [hNM]
  obtain ⟨W0, hW0⟩ : ∃ W, (((w.alloc (.cells #[.int .i64 5, .int .i64 0, .string ⟨#[]⟩, .slice none 0 0, .slice sp sn sc] 28)).alloc (.cells #[.string NM] 9)).alloc (.cells #[.int .i64 x0, .int .i64 x1, .string x2, .slice x3 x4 x5, .slice x6 x7 x8] 28)).alloc (.cells #[.int .i64 0, .int .i64 0, .string ⟨#[]⟩, .slice none 0 0, .slice none 0 0] 28) = W := ⟨_, rfl⟩
  have hb0 : Below w.heap.size w W0 := by rw [← hW0]; exact ((((Below.refl _ w).alloc (Nat.le_refl _) _).alloc (by simp) _).alloc (by simp; omega) _).alloc (by simp; omega) _
  have hs0 : W0.heap.size = P + 4 := by rw [← hW0, ← hP]; simp
  have k0 : Blk W0 P 28 [.int .i64 5, .int .i64 0, .string ⟨#[]⟩, .slice none 0 0, .slice sp sn sc] := by rw [← hW0, ← hP]; exact (((show Blk _ w.heap.size 28 [.int .i64 5, .int .i64 0, .string ⟨#[]⟩, .slice none 0 0, .slice sp sn sc] from heap_alloc_new w (.cells #[.int .i64 5, .int .i64 0, .string ⟨#[]⟩, .slice none 0 0, .slice sp sn sc] 28)).alloc _).alloc _).alloc _
  have k1 : Blk W0 (P + 1) 9 [.string NM] := by rw [← hW0, ← hP]; exact ((blk_new2 w _ _ _).alloc _).alloc _
  have k2 : Blk W0 (P + 2) 28 [.int .i64 x0, .int .i64 x1, .string x2, .slice x3 x4 x5, .slice x6 x7 x8] := by
    rw [← hW0, ← hP]
    have h := heap_alloc_new ((w.alloc (.cells #[.int .i64 5, .int .i64 0, .string ⟨#[]⟩, .slice none 0 0, .slice sp sn sc] 28)).alloc (.cells #[.string NM] 9)) (.cells #[.int .i64 x0, .int .i64 x1, .string x2, .slice x3 x4 x5, .slice x6 x7 x8] 28)
    rw [show ((w.alloc (.cells #[.int .i64 5, .int .i64 0, .string ⟨#[]⟩, .slice none 0 0, .slice sp sn sc] 28)).alloc (.cells #[.string NM] 9)).heap.size = w.heap.size + 2 by simp] at h
    exact (show Blk _ (w.heap.size + 2) 28 [.int .i64 x0, .int .i64 x1, .string x2, .slice x3 x4 x5, .slice x6 x7 x8] from h).alloc _
  have k3 : Blk W0 (P + 3) 28 [.int .i64 0, .int .i64 0, .string ⟨#[]⟩, .slice none 0 0, .slice none 0 0] := by
    rw [← hW0, ← hP]
    have h := heap_alloc_new (((w.alloc (.cells #[.int .i64 5, .int .i64 0, .string ⟨#[]⟩, .slice none 0 0, .slice sp sn sc] 28)).alloc (.cells #[.string NM] 9)).alloc (.cells #[.int .i64 x0, .int .i64 x1, .string x2, .slice x3 x4 x5, .slice x6 x7 x8] 28)) (.cells #[.int .i64 0, .int .i64 0, .string ⟨#[]⟩, .slice none 0 0, .slice none 0 0] 28)
    rw [show (((w.alloc (.cells #[.int .i64 5, .int .i64 0, .string ⟨#[]⟩, .slice none 0 0, .slice sp sn sc] 28)).alloc (.cells #[.string NM] 9)).alloc (.cells #[.int .i64 x0, .int .i64 x1, .string x2, .slice x3 x4 x5, .slice x6 x7 x8] 28)).heap.size = w.heap.size + 3 by simp] at h
    exact h
  have hcall := clone_any S (.slice sp sn sc) l.length cs W0 (hr.keep (fun _ h => h) (fun b _ k u hu => bcell hb0 hu)) hcl h1c hl
  rw [hs0] at hcall
  have HA := Lib.hid (And.intro hW0 (And.intro hP (And.intro hb0 (And.intro hcall (And.intro hV (And.intro hr (And.intro hl (And.intro hcl (And.intro h1c hs0)))))))))
  have HB := Lib.hid (And.intro k0 (And.intro k1 (And.intro k2 (And.intro k3 hNM))))
  have a0 := k0.cell 0
  have a4 := k0.cell 4
  have hne5 : ((5 : Int) != 5) = false := rfl
  clear hW0 hb0 hcall hV hr hl hcl h1c hs0 k0 k1 k2 k3
  go_enter Tryz.func94, Tryz.ntmps94
  go_wp2_with fail
  rw [HA.out.1]
  (try rw [hP])
  refine HA.out.2.2.2.1.mono ?_
  rintro e w2 ⟨p, c, rfl, hown, hb2⟩
  have hb2' : Below W0.heap.size W0 w2 := by rw [HA.out.2.2.2.2.2.2.2.2.2]; exact hb2
  obtain ⟨M, hM⟩ : ∃ M, w2.heap.size = M := ⟨_, rfl⟩
  obtain ⟨W3, hW3⟩ : ∃ W, w2.alloc (.cells #[.string NM, .int .i64 x0, .int .i64 x1, .string x2, .slice x3 x4 x5, .slice x6 x7 x8] 51) = W := ⟨_, rfl⟩
  have hb3 : Below w2.heap.size w2 W3 := by rw [← hW3]; exact (Below.refl _ w2).alloc (Nat.le_refl _) _
  have kF : Blk W3 M 51 [.string NM, .int .i64 x0, .int .i64 x1, .string x2, .slice x3 x4 x5, .slice x6 x7 x8] := by rw [← hW3, ← hM]; exact heap_alloc_new w2 _
  have hs3 : W3.heap.size = M + 1 := by rw [← hW3, ← hM]; simp
  have hM4 : P + 4 ≤ M := by have := hb2'.size; rw [HA.out.2.2.2.2.2.2.2.2.2] at this; omega
  have hb03 : Below W0.heap.size W0 W3 := hb2'.trans (hb3.mono hb2'.size)
  have hbw3 : Below w.heap.size w W3 := HA.out.2.2.1.trans (hb03.mono HA.out.2.2.1.size)
  have kk0 := HB.out.1.below hb2'
  have kk1 := HB.out.2.1.below hb2'
  have kk2 := HB.out.2.2.1.below hb2'
  have j0 := HB.out.1.below hb03
  have j1 := HB.out.2.1.below hb03
  have j3 := HB.out.2.2.2.1.below hb03
  have hat := vat_any (.obj l) nm S W3 _ ((VAt.obj l cs (.slice sp sn sc) HA.out.2.2.2.2.1 HA.out.2.2.2.2.2.1).keep (T := S) (fun _ h => h) (fun b _ k u hu => bcell hbw3 hu))
  rw [show placeF (.obj l) nm = idxP l nm 0 from rfl, HB.out.2.2.2.2] at hat
  obtain ⟨ix, hix⟩ : ∃ o, idxP l nm 0 = o := ⟨_, rfl⟩
  rw [hix] at hat
  have hhas := hasF_idx l nm 0
  rw [hix] at hhas
  have HI := Lib.hid hix
  have hown3 : W3.ownsRow (P + 4) 51 6 (.slice p l.length c) l.length cs := by rw [← hW3]; exact hown.alloc _
  have hMo : ∀ k, (Value.slice p l.length c).ownBlock = some k → P + 4 ≤ k ∧ k < M := fun k hk => by have := hown.lt k hk; rw [hM] at this; exact this
  have HC := Lib.hid (And.intro hW3 (And.intro hM (And.intro hbw3 (And.intro kF (And.intro hat (And.intro hhas (And.intro hown3 (And.intro hMo (And.intro hs3 (And.intro j0 (And.intro j1 j3)))))))))))
  have b1 := kk1.cell 0
  have d0 := kk2.cell 0
  have d1 := kk2.cell 1
  have d2 := kk2.cell 2
  have d3 := kk2.cell 3
  have d4 := kk2.cell 4
  have c0 := (kk0.alloc (.cells #[.string NM, .int .i64 x0, .int .i64 x1, .string x2, .slice x3 x4 x5, .slice x6 x7 x8] 51)).cell 0
  have c1 := (kk0.alloc (.cells #[.string NM, .int .i64 x0, .int .i64 x1, .string x2, .slice x3 x4 x5, .slice x6 x7 x8] 51)).cell 1
  have c2 := (kk0.alloc (.cells #[.string NM, .int .i64 x0, .int .i64 x1, .string x2, .slice x3 x4 x5, .slice x6 x7 x8] 51)).cell 2
  have c3 := (kk0.alloc (.cells #[.string NM, .int .i64 x0, .int .i64 x1, .string x2, .slice x3 x4 x5, .slice x6 x7 x8] 51)).cell 3
  have c4 := (kk0.alloc (.cells #[.string NM, .int .i64 x0, .int .i64 x1, .string x2, .slice x3 x4 x5, .slice x6 x7 x8] 51)).cell 4
  have e1 := (kk1.alloc (.cells #[.string NM, .int .i64 x0, .int .i64 x1, .string x2, .slice x3 x4 x5, .slice x6 x7 x8] 51)).cell 0
  obtain ⟨nl, hnl⟩ : ∃ n, l.length = n := ⟨_, rfl⟩
  have HL := Lib.hid hnl
  rw [hnl]
  clear hown hb2 hb2' hW3 hb3 kF hs3 hb03 hbw3 kk0 kk1 kk2 j0 j1 j3 hat hhas hown3 hMo hix a0 a4 hM hnl
  go_wp2_with fail
  rw [HC.out.1]
  (try rw [HC.out.2.1])
  refine HC.out.2.2.2.2.1.mono ?_
  rintro e w4 ⟨rfl, hb4⟩
  have hbw4 : Below w.heap.size w w4 := HC.out.2.2.1.trans (hb4.mono HC.out.2.2.1.size)
  have kF4 := HC.out.2.2.2.1.below hb4
  have hown4 := own_below' HC.out.2.2.2.2.2.2.1 hb4
  have i0 := HC.out.2.2.2.2.2.2.2.2.2.1.below hb4
  have i1 := HC.out.2.2.2.2.2.2.2.2.2.2.1.below hb4
  have i3 := HC.out.2.2.2.2.2.2.2.2.2.2.2.below hb4
  have hs4 : M + 1 ≤ w4.heap.size := by have := hb4.size; rw [HC.out.2.2.2.2.2.2.2.2.1] at this; exact this
  have f0 := kF4.cell 0
  have f1 := kF4.cell 1
  have f2 := kF4.cell 2
  have f3 := kF4.cell 3
  have f4 := kF4.cell 4
  have f5 := kF4.cell 5
  clear b1 d0 d1 d2 d3 d4 c0 c1 c2 c3 c4 e1
  cases ix with
  | some k =>
    have hbad : hasF l nm = true := HC.out.2.2.2.2.2.1
    have hkl : k < nl := by have := idxP_lt l nm 0 k HI.out; have := HL.out; omega
    have hkz : (k : Int) < (nl : Int) := by omega
    have hk0 : (0 : Int) ≤ (k : Int) := by omega
    rw [show idxI (some k) = (k : Int) from rfl]
    rw [HL.out] at hown4
    rcases ownsRow_cases hown4 with ⟨_, h0, _⟩ | ⟨g, c2, hg⟩
    · omega
    injection hg with hg1 hg2 hg3
    subst hg1 hg3
    have hgB := HC.out.2.2.2.2.2.2.2.1 g (by rfl)
    have hcl4 := hown4.1
    have ex : ∀ i, i < 6 → ∃ u, w4.cell? ⟨g, k * 6 + i, none⟩ = some u := fun i hi => by
      have hlt : k * 6 + i < cs.length := by omega
      exact ⟨cs[k * 6 + i], (hown4.cellAt (k * 6 + i) (by omega)).trans (List.getElem?_eq_getElem hlt)⟩
    obtain ⟨u0, y0⟩ := ex 0 (by omega)
    simp only [Nat.add_zero] at y0
    obtain ⟨u1, y1⟩ := ex 1 (by omega)
    obtain ⟨u2, y2⟩ := ex 2 (by omega)
    obtain ⟨u3, y3⟩ := ex 3 (by omega)
    obtain ⟨u4, y4⟩ := ex 4 (by omega)
    obtain ⟨u5, y5⟩ := ex 5 (by omega)
    have z0 := hown4.frozenAt (k * 6)
    have z1 := hown4.frozenAt (k * 6 + 1)
    have z2 := hown4.frozenAt (k * 6 + 2)
    have z3 := hown4.frozenAt (k * 6 + 3)
    have z4 := hown4.frozenAt (k * 6 + 4)
    have z5 := hown4.frozenAt (k * 6 + 5)
    have hgM : ¬ g = M := by omega
    have hMg : ¬ M = g := by omega
    have hgP : ¬ g = P := by omega
    have hPg : ¬ P = g := by omega
    have hgP3 : ¬ g = P + 3 := by omega
    have hP3g : ¬ P + 3 = g := by omega
    obtain ⟨w7, hw7⟩ : ∃ W, (((((w4.setCell ⟨g, k * 6, none⟩ (.string NM)).setCell ⟨g, k * 6 + 1, none⟩ (.int .i64 x0)).setCell ⟨g, k * 6 + 2, none⟩ (.int .i64 x1)).setCell ⟨g, k * 6 + 3, none⟩ (.string x2)).setCell ⟨g, k * 6 + 4, none⟩ (.slice x3 x4 x5)).setCell ⟨g, k * 6 + 5, none⟩ (.slice x6 x7 x8) = W := ⟨_, rfl⟩
    have ho7 : Only (· = g) w4 w7 := by
      rw [← hw7]
      exact (((((Only.set1 w4 g _ _).trans (Only.set1 _ g _ _)).trans (Only.set1 _ g _ _)).trans (Only.set1 _ g _ _)).trans (Only.set1 _ g _ _)).trans (Only.set1 _ g _ _)
    have HO7 := Lib.hid ho7
    have i0' := Blk.only (w := w4) i0 HO7.out (by show ¬ P = g; omega)
    have i3' := Blk.only (w := w4) i3 HO7.out (by show ¬ P + 3 = g; omega)
    obtain ⟨W9, hW9⟩ : ∃ W, ((((((w7.setCell ⟨P, 4, none⟩ (.slice (some ⟨g, 0, none⟩) nl c)).setCell ⟨P + 3, 0, none⟩ (.int .i64 5)).setCell ⟨P + 3, 1, none⟩ (.int .i64 0)).setCell ⟨P + 3, 2, none⟩ (.string ⟨#[]⟩)).setCell ⟨P + 3, 3, none⟩ (.slice none 0 0)).setCell ⟨P + 3, 4, none⟩ (.slice (some ⟨g, 0, none⟩) nl c)) = W := ⟨_, rfl⟩
    obtain ⟨hR9, hO9⟩ := set_fin i3' hW9
    have HW9 := Lib.hid (And.intro hW9 hR9)
    have hbw9 : Below w.heap.size w W9 := hbw4.trans ((HO7.out.below hbw4.size (fun i hi e => by have e2 : i = g := e; omega)).trans (hO9.below (Nat.le_trans hbw4.size HO7.out.size) (fun i hi e => by rcases e with e | e <;> omega)))
    have HF := Lib.hid (show SetPost S T l nm [.int .i64 x0, .int .i64 x1, .string x2, .slice x3 x4 x5, .slice x6 x7 x8] w (.returned (.agg #[.int .i64 5, .int .i64 0, .string ⟨#[]⟩, .slice none 0 0, .slice (some ⟨g, 0, none⟩) nl c])) W9 from ⟨_, _, _, rfl, hbw9, fun v hh => by rw [hbad] at hh; cases hh⟩)
    have r0 := i0'.cell 0
    have r1 := i0'.cell 1
    have r2 := i0'.cell 2
    have r3 := i0'.cell 3
    have r4 := i0'.cell 4
    have rf4 := i0'.frozen 4
    have s0 := i3'.cell 0
    have sf0 := i3'.frozen 0
    have s1 := i3'.cell 1
    have sf1 := i3'.frozen 1
    have s2 := i3'.cell 2
    have sf2 := i3'.frozen 2
    have s3 := i3'.cell 3
    have sf3 := i3'.frozen 3
    have s4 := i3'.cell 4
    have sf4 := i3'.frozen 4
    clear ho7 hR9 hO9 hbw9 hW9 hown4 ex hcl4 hbw4 kF4 i0 i1 i3 i0' i3' hb4
    go_wp2_with fail
    rw [HW9.out.1]
    (try simp only [Exit.inBlock, Exit.then])
    refine bodyPost_ret ?_ rfl HF.out
    exact results_cell_row rfl _ W9 (P + 3) 28 _ (0, 0) _ rfl HW9.out.2 Tryz.underlying28 rfl (by kernel_rfl)
  | none =>
    rw [show idxI none = -1 from rfl]
    have hrow4 : 0 < l.length → ∃ b, p = some ⟨b, 0, none⟩ ∧ ∀ k u, cs[k]? = some u → w4.cell? ⟨b, k, none⟩ = some u := fun h => by
      rcases ownsRow_cases hown4 with ⟨_, h0, _⟩ | ⟨g, c2, hg⟩
      · omega
      · injection hg with hg1 hg2 hg3
        subst hg1
        refine ⟨g, rfl, fun k u hk => (hown4.cellAt k ?_).trans hk⟩
        have := (List.getElem?_eq_some_iff.1 hk).1
        have := hown4.1
        omega
    have hgi := gidx_any l cs p c (P + 1) nm S w4 (HA.out.2.2.2.2.1.keep (T := S) (fun _ h => h) (fun b _ k u hu => bcell hbw4 hu)) hrow4 (by have := HA.out.2.2.2.2.2.2.1; omega) (by rw [HB.out.2.2.2.2]; exact i1.cell 0)
    rw [HL.out] at hgi hown4
    obtain ⟨ig, hig⟩ : ∃ o, idxG l nm 0 = o := ⟨_, rfl⟩
    rw [hig] at hgi
    have HG := Lib.hid hig
    have HGI := Lib.hid hgi
    have HK := Lib.hid (And.intro hown4 (And.intro i0 i3))
    clear hgi hig hrow4 hown4 i0 i1 i3 kF4
    go_wp2_with fail
    refine HGI.out.mono ?_
    rintro e w5 ⟨rfl, hb5⟩
    have hown5 := own_below' HK.out.1 hb5
    have i0 := HK.out.2.1
    have i3 := HK.out.2.2
    have g0 := bcell hb5 f0
    have g1 := bcell hb5 f1
    have g2 := bcell hb5 f2
    have g3 := bcell hb5 f3
    have g4 := bcell hb5 f4
    have g5 := bcell hb5 f5
    clear f0 f1 f2 f3 f4 f5 hb4
    cases ig with
    | none =>
      rw [show idxI none = -1 from rfl]
      obtain ⟨N2, hN2⟩ : ∃ N, w5.heap.size = N := ⟨_, rfl⟩
      obtain ⟨W6, hW6⟩ : ∃ W, w5.alloc (.cells #[.string NM, .int .i64 x0, .int .i64 x1, .string x2, .slice x3 x4 x5, .slice x6 x7 x8] 51) = W := ⟨_, rfl⟩
      have hb6 : Below w5.heap.size w5 W6 := by rw [← hW6]; exact (Below.refl _ w5).alloc (Nat.le_refl _) _
      have kx : Blk W6 N2 51 [.string NM, .int .i64 x0, .int .i64 x1, .string x2, .slice x3 x4 x5, .slice x6 x7 x8] := by rw [← hW6, ← hN2]; exact heap_alloc_new w5 _
      have hown6 : W6.ownsRow (P + 4) 51 6 (.slice p nl c) nl cs := by rw [← hW6]; exact hown5.alloc _
      have hs56 := hb5.size
      have hs66 := hb6.size
      have hins := ins_any (P + 4) nl nl N2 p c cs [.string NM, .int .i64 x0, .int .i64 x1, .string x2, .slice x3 x4 x5, .slice x6 x7 x8] W6 hown6 (Nat.le_refl _) kx rfl (nm_cells _ _ _ _ _ _ _ _ _ _) HA.out.2.2.2.2.2.2.2.2.1 (fun e => by have := (HC.out.2.2.2.2.2.2.2.1 N2 (by rw [HL.out]; exact e.symm)).2; omega) (by have := HA.out.2.2.2.2.2.2.1; have := HL.out; omega) (by omega)
      have HI5 := Lib.hid (And.intro hW6 (And.intro hN2 (And.intro hins (And.intro hb6 (And.intro hb5 hN2)))))
      clear hW6 hins hown6 kx hown5 hb6
      have hN2z := hN2
      clear hN2
      go_wp2_with fail
      rw [HI5.out.1]
      (try rw [HI5.out.2.1])
      refine (show Calls _ _ _ _ _ from HI5.out.2.2.1).mono ?_
      rintro e w7 ⟨v', rfl, hown7, ho7⟩
      obtain ⟨p2, c2, rfl⟩ := slice_of_own hown7
      have hb46 : Below w4.heap.size w4 W6 := HI5.out.2.2.2.2.1.trans (HI5.out.2.2.2.1.mono HI5.out.2.2.2.2.1.size)
      have ho47 : Only (fun b => some b = (Value.slice p nl c).ownBlock) w4 w7 := (Only.ofBelow hb46 _).trans ho7
      have hob : ∀ b, some b = (Value.slice p nl c).ownBlock → P + 4 ≤ b := fun b hb => (HC.out.2.2.2.2.2.2.2.1 b (by rw [HL.out]; exact hb.symm)).1
      have HO7 := Lib.hid ho47
      have i0' := Blk.only (w := w4) i0 HO7.out (by intro e; have := hob _ e; omega)
      have i3' := Blk.only (w := w4) i3 HO7.out (by intro e; have := hob _ e; omega)
      obtain ⟨W9, hW9⟩ : ∃ W, ((((((w7.setCell ⟨P, 4, none⟩ (.slice p2 (nl + 1) c2)).setCell ⟨P + 3, 0, none⟩ (.int .i64 5)).setCell ⟨P + 3, 1, none⟩ (.int .i64 0)).setCell ⟨P + 3, 2, none⟩ (.string ⟨#[]⟩)).setCell ⟨P + 3, 3, none⟩ (.slice none 0 0)).setCell ⟨P + 3, 4, none⟩ (.slice p2 (nl + 1) c2)) = W := ⟨_, rfl⟩
      obtain ⟨hR9, hO9⟩ := set_fin i3' hW9
      have HW9 := Lib.hid (And.intro hW9 hR9)
      have hbw7 : Below w.heap.size w w7 := hbw4.trans (HO7.out.below hbw4.size (fun i hi e => by have := hob i e; have := HA.out.2.1; omega))
      have hbw9 : Below w.heap.size w W9 := hbw7.trans (hO9.below hbw7.size (fun i hi e => by have := HA.out.2.1; rcases e with e | e <;> omega))
      have hown9 := own_onlyJ hown7 hO9 (fun k hk e => by rcases e with e | e <;> omega)
      have HF := Lib.hid (show SetPost S T l nm [.int .i64 x0, .int .i64 x1, .string x2, .slice x3 x4 x5, .slice x6 x7 x8] w (.returned (.agg #[.int .i64 5, .int .i64 0, .string ⟨#[]⟩, .slice none 0 0, .slice p2 (nl + 1) c2])) W9 from ⟨_, _, _, rfl, hbw9, fun v hh hx => by
        obtain ⟨hset, _, _⟩ := idxG_set l nm v 0
        rw [HG.out, show (none : Option Nat).getD (0 + l.length) = nl by rw [← HL.out]; simp, Nat.sub_zero] at hset
        have hV9 := HA.out.2.2.2.2.1.keep (T := fun b => S b ∨ T b ∨ (w.heap.size ≤ b ∧ b < W9.heap.size)) (fun b h => .inl h) (fun b _ k u hu => bcell hbw9 hu)
        have hx9 := hx.keep (T := fun b => S b ∨ T b ∨ (w.heap.size ≤ b ∧ b < W9.heap.size)) (fun b h => .inr (.inl h)) (fun b _ k u hu => bcell hbw9 hu)
        have hsp := FsAt.split nl hV9
        have hcat := FsAt.append hsp.1 (FsAt.cons nm v _ _ _ _ _ _ _ hx9 hsp.2)
        rw [← hset] at hcat
        have hln : (setF l nm v).length = nl + 1 := by rw [hset, List.length_append, List.length_cons, List.length_take, List.length_drop]; have := HL.out; omega
        refine VAt.obj _ (putC cs [.string NM, .int .i64 x0, .int .i64 x1, .string x2, .slice x3 x4 x5, .slice x6 x7 x8] nl) _ (by
          unfold putC
          rw [← HB.out.2.2.2.2]
          simpa only [List.append_assoc, List.cons_append, List.nil_append] using hcat) ?_
        rw [hln]
        exact row_of_own hown9 (fun k hk => .inr (.inr ⟨by have := (hown9.lt k hk).1; have := HA.out.2.1; omega, (hown9.lt k hk).2⟩)) (by have := HA.out.2.2.2.2.2.2.1; have := HL.out; omega)⟩)
      have r0 := i0'.cell 0
      have r1 := i0'.cell 1
      have r2 := i0'.cell 2
      have r3 := i0'.cell 3
      have r4 := i0'.cell 4
      have rf4 := i0'.frozen 4
      have s0 := i3'.cell 0
      have sf0 := i3'.frozen 0
      have s1 := i3'.cell 1
      have sf1 := i3'.frozen 1
      have s2 := i3'.cell 2
      have sf2 := i3'.frozen 2
      have s3 := i3'.cell 3
      have sf3 := i3'.frozen 3
      have s4 := i3'.cell 4
      have sf4 := i3'.frozen 4
      clear hR9 hO9 hbw9 hbw7 hW9 hown7 hown9 ho7 ho47 hob hb46 i0' i3'
      go_wp2
      rw [HW9.out.1]
      (try simp only [Exit.inBlock, Exit.then])
      refine bodyPost_ret ?_ rfl HF.out
      exact results_cell_row rfl _ W9 (P + 3) 28 _ (0, 0) _ rfl HW9.out.2 Tryz.underlying28 rfl (by kernel_rfl)
    | some k =>
      have hkn : k ≤ nl := by
        have h := (idxG_set l nm .null 0).2.2
        rw [HG.out] at h
        have := HL.out
        simpa [this] using h
      have hk0 : (0 : Int) ≤ (k : Int) := by omega
      have hk0n : ¬ (k : Int) < 0 := by omega
      rw [show idxI (some k) = (k : Int) from rfl]
      obtain ⟨N2, hN2⟩ : ∃ N, w5.heap.size = N := ⟨_, rfl⟩
      obtain ⟨W6, hW6⟩ : ∃ W, w5.alloc (.cells #[.string NM, .int .i64 x0, .int .i64 x1, .string x2, .slice x3 x4 x5, .slice x6 x7 x8] 51) = W := ⟨_, rfl⟩
      have hb6 : Below w5.heap.size w5 W6 := by rw [← hW6]; exact (Below.refl _ w5).alloc (Nat.le_refl _) _
      have kx : Blk W6 N2 51 [.string NM, .int .i64 x0, .int .i64 x1, .string x2, .slice x3 x4 x5, .slice x6 x7 x8] := by rw [← hW6, ← hN2]; exact heap_alloc_new w5 _
      have hown6 : W6.ownsRow (P + 4) 51 6 (.slice p nl c) nl cs := by rw [← hW6]; exact hown5.alloc _
      have hs56 := hb5.size
      have hs66 := hb6.size
      have hins := ins_any (P + 4) nl k N2 p c cs [.string NM, .int .i64 x0, .int .i64 x1, .string x2, .slice x3 x4 x5, .slice x6 x7 x8] W6 hown6 (by omega) kx rfl (nm_cells _ _ _ _ _ _ _ _ _ _) HA.out.2.2.2.2.2.2.2.2.1 (fun e => by have := (HC.out.2.2.2.2.2.2.2.1 N2 (by rw [HL.out]; exact e.symm)).2; omega) (by have := HA.out.2.2.2.2.2.2.1; have := HL.out; omega) (by omega)
      have HI5 := Lib.hid (And.intro hW6 (And.intro hN2 (And.intro hins (And.intro hb6 (And.intro hb5 hN2)))))
      clear hW6 hins hown6 kx hown5 hb6
      have hN2z := hN2
      clear hN2
      go_wp2_with fail
      rw [HI5.out.1]
      (try rw [HI5.out.2.1])
      refine (show Calls _ _ _ _ _ from HI5.out.2.2.1).mono ?_
      rintro e w7 ⟨v', rfl, hown7, ho7⟩
      obtain ⟨p2, c2, rfl⟩ := slice_of_own hown7
      have hb46 : Below w4.heap.size w4 W6 := HI5.out.2.2.2.2.1.trans (HI5.out.2.2.2.1.mono HI5.out.2.2.2.2.1.size)
      have ho47 : Only (fun b => some b = (Value.slice p nl c).ownBlock) w4 w7 := (Only.ofBelow hb46 _).trans ho7
      have hob : ∀ b, some b = (Value.slice p nl c).ownBlock → P + 4 ≤ b := fun b hb => (HC.out.2.2.2.2.2.2.2.1 b (by rw [HL.out]; exact hb.symm)).1
      have HO7 := Lib.hid ho47
      have i0' := Blk.only (w := w4) i0 HO7.out (by intro e; have := hob _ e; omega)
      have i3' := Blk.only (w := w4) i3 HO7.out (by intro e; have := hob _ e; omega)
      obtain ⟨W9, hW9⟩ : ∃ W, ((((((w7.setCell ⟨P, 4, none⟩ (.slice p2 (nl + 1) c2)).setCell ⟨P + 3, 0, none⟩ (.int .i64 5)).setCell ⟨P + 3, 1, none⟩ (.int .i64 0)).setCell ⟨P + 3, 2, none⟩ (.string ⟨#[]⟩)).setCell ⟨P + 3, 3, none⟩ (.slice none 0 0)).setCell ⟨P + 3, 4, none⟩ (.slice p2 (nl + 1) c2)) = W := ⟨_, rfl⟩
      obtain ⟨hR9, hO9⟩ := set_fin i3' hW9
      have HW9 := Lib.hid (And.intro hW9 hR9)
      have hbw7 : Below w.heap.size w w7 := hbw4.trans (HO7.out.below hbw4.size (fun i hi e => by have := hob i e; have := HA.out.2.1; omega))
      have hbw9 : Below w.heap.size w W9 := hbw7.trans (hO9.below hbw7.size (fun i hi e => by have := HA.out.2.1; rcases e with e | e <;> omega))
      have hown9 := own_onlyJ hown7 hO9 (fun k hk e => by rcases e with e | e <;> omega)
      have HF := Lib.hid (show SetPost S T l nm [.int .i64 x0, .int .i64 x1, .string x2, .slice x3 x4 x5, .slice x6 x7 x8] w (.returned (.agg #[.int .i64 5, .int .i64 0, .string ⟨#[]⟩, .slice none 0 0, .slice p2 (nl + 1) c2])) W9 from ⟨_, _, _, rfl, hbw9, fun v hh hx => by
        obtain ⟨hset, _, _⟩ := idxG_set l nm v 0
        rw [HG.out, show (some k : Option Nat).getD (0 + l.length) = k by rfl, Nat.sub_zero] at hset
        have hV9 := HA.out.2.2.2.2.1.keep (T := fun b => S b ∨ T b ∨ (w.heap.size ≤ b ∧ b < W9.heap.size)) (fun b h => .inl h) (fun b _ k u hu => bcell hbw9 hu)
        have hx9 := hx.keep (T := fun b => S b ∨ T b ∨ (w.heap.size ≤ b ∧ b < W9.heap.size)) (fun b h => .inr (.inl h)) (fun b _ k u hu => bcell hbw9 hu)
        have hsp := FsAt.split k hV9
        have hcat := FsAt.append hsp.1 (FsAt.cons nm v _ _ _ _ _ _ _ hx9 hsp.2)
        rw [← hset] at hcat
        have hln : (setF l nm v).length = nl + 1 := by rw [hset, List.length_append, List.length_cons, List.length_take, List.length_drop]; have := HL.out; omega
        refine VAt.obj _ (putC cs [.string NM, .int .i64 x0, .int .i64 x1, .string x2, .slice x3 x4 x5, .slice x6 x7 x8] k) _ (by
          unfold putC
          rw [← HB.out.2.2.2.2]
          simpa only [List.append_assoc, List.cons_append, List.nil_append] using hcat) ?_
        rw [hln]
        exact row_of_own hown9 (fun k hk => .inr (.inr ⟨by have := (hown9.lt k hk).1; have := HA.out.2.1; omega, (hown9.lt k hk).2⟩)) (by have := HA.out.2.2.2.2.2.2.1; have := HL.out; omega)⟩)
      have r0 := i0'.cell 0
      have r1 := i0'.cell 1
      have r2 := i0'.cell 2
      have r3 := i0'.cell 3
      have r4 := i0'.cell 4
      have rf4 := i0'.frozen 4
      have s0 := i3'.cell 0
      have sf0 := i3'.frozen 0
      have s1 := i3'.cell 1
      have sf1 := i3'.frozen 1
      have s2 := i3'.cell 2
      have sf2 := i3'.frozen 2
      have s3 := i3'.cell 3
      have sf3 := i3'.frozen 3
      have s4 := i3'.cell 4
      have sf4 := i3'.frozen 4
      clear hR9 hO9 hbw9 hbw7 hW9 hown7 hown9 ho7 ho47 hob hb46 i0' i3'
      go_wp2
      rw [HW9.out.1]
      (try simp only [Exit.inBlock, Exit.then])
      refine bodyPost_ret ?_ rfl HF.out
      exact results_cell_row rfl _ W9 (P + 3) 28 _ (0, 0) _ rfl HW9.out.2 Tryz.underlying28 rfl (by kernel_rfl)
end Go.Proofs.YtccnfnoonpfdfaaGreatDoor
