/- The law's many, of lists (printed by wip/gen_jpg.py). -/
import Derived.Test.YtccnfnoonpfdfaaGreatDoorJpF
namespace Go.Proofs.YtccnfnoonpfdfaaGreatDoor
open Go.Shelf Go.RowKit Go.Lib

theorem own_only2 {S : Nat → Prop} {w w2 : World} {B size n : Nat} {e : TypeId} {v : Value} {xs : List Value} (h : w.ownsRow B e size v n xs) (ho : Only S w w2) (hS : ∀ k, v.ownBlock = some k → ¬ S k) : w2.ownsRow B e size v n xs := by
  obtain ⟨hl, h⟩ := h
  refine ⟨hl, ?_⟩
  rcases h with h | ⟨g, cap, cur, hv, hg, hh, r⟩
  · exact .inl h
  · exact .inr ⟨g, cap, cur, hv, hg, (ho.block g (lt_of_block hh) (hS g (by rw [hv]; rfl))).trans hh, r⟩
theorem ret_below {w w1 W9 : World} {P : Nat} (hb : Below w.heap.size w w1) (ho : Only (fun x => x = P) w1 W9) (hP : w.heap.size ≤ P) : Below w.heap.size w W9 :=
  hb.trans (ho.below hb.size (fun k hk e => by have e2 : k = P := e; omega))
/-- what stands while the law reads a list, or an object. -/
structure LmB (w0 : World) (P : Nat) (wr : World) : Prop where
  size : w0.heap.size = P
  below : Below w0.heap.size w0 wr
  res : Blk wr (P + 1) 28 [.int .i64 0, .int .i64 0, .string ⟨#[]⟩, .slice none 0 0, .slice none 0 0]
def LmG (w0 : World) (P : Nat) (l : List V) (wr : World) : Prop := LmB w0 P wr ∧ ∃ op oc cs, Blk wr P 28 [.int .i64 4, .int .i64 0, .string ⟨#[]⟩, .slice op l.length oc, .slice none 0 0] ∧ wr.ownsRow (P + 2) 28 5 (.slice op l.length oc) l.length cs ∧ VsAt (ListS P (Value.slice op l.length oc).ownBlock wr.heap.size) wr l cs
def LmX (w0 : World) (P : Nat) (wr : World) : Prop := LmB w0 P wr ∧ ∃ p n c, Blk wr P 28 [.int .i64 4, .int .i64 0, .string ⟨#[]⟩, .slice p n c, .slice none 0 0]
theorem LmB.only {S : Nat → Prop} {w0 wr w2 : World} {P : Nat} (h : LmB w0 P wr) (ho : Only S wr w2) (hS : ∀ k, S k → k = P ∨ P + 2 ≤ k) : LmB w0 P w2 :=
  ⟨h.size, h.below.trans (ho.below h.below.size (fun k hk e => by have := hS k e; have := h.size; omega)), h.res.only ho (fun e => by have := hS _ e; omega)⟩
def LmAft (w0 : World) (P : Nat) (l : List V) (res : Res V) (W : World) : Prop := match res with
  | .ok p => LmG w0 P (l ++ [p.1]) W
  | .error _ => LmX w0 P W
theorem lm_step {w0 wr wa w5 w6 w7 W8 : World} {P Q cnt oc cc j k : Nat} {s : BL} {l : List V} {op p2 : Option Addr} {cs : List Value} {c0 c1 c2 c3 c4 : Value} {res : Res V} (hb : LmB w0 P wr) (hN : Blk wr P 28 [.int .i64 4, .int .i64 0, .string ⟨#[]⟩, .slice op cnt oc, .slice none 0 0]) (hr : wr.ownsRow (P + 2) 28 5 (.slice op cnt oc) cnt cs) (hVs : VsAt (ListS P (Value.slice op cnt oc).ownBlock wr.heap.size) wr l cs) (hn : l.length = cnt)
    (hQ : wr.heap.size = Q) (hwa : wa.heap.size = Q + 1) (ho5 : Only (fun _ => False) wr w5) (h5 : wa.heap.size ≤ w5.heap.size) (hres : LRes s res (fun b => wa.heap.size ≤ b ∧ b < w5.heap.size) w5 [c0, c1, c2, c3, c4] j k) (ho6 : Only (fun x => x = Q) w5 w6)
    (hown : w7.ownsRow (P + 2) 28 5 (.slice p2 (cnt + 1) cc) (cnt + 1) (cs ++ [c0, c1, c2, c3, c4])) (ho7 : Only (fun k => some k = (Value.slice op cnt oc).ownBlock) w6 w7)
    (hat : (Value.slice p2 (cnt + 1) cc).ownBlock = (Value.slice op cnt oc).ownBlock ∨ ∃ g, (Value.slice p2 (cnt + 1) cc).ownBlock = some g ∧ w6.heap.size ≤ g) (hW : w7.setCell ⟨P, 3, none⟩ (.slice p2 (cnt + 1) cc) = W8) : LmAft w0 P l res W8 := by
  have hlt : ∀ k, (Value.slice op cnt oc).ownBlock = some k → P + 2 ≤ k ∧ k < Q := fun k hk => by have := hr.lt k hk; omega
  have hPQ := hb.res.lt
  have hs6 := ho6.size
  have hs7 := ho7.size
  have ho8 : Only (fun x => x = P) w7 W8 := by rw [← hW]; exact Only.set1 _ _ _ _
  have hs8 := ho8.size
  have hb8 : LmB w0 P W8 := (((hb.only ho5 (fun _ e => e.elim)).only ho6 (fun k e => .inr (by have e2 : k = Q := e; omega))).only ho7 (fun k e => .inr (hlt k e.symm).1)).only ho8 (fun k e => .inl e)
  have hN8 : Blk W8 P 28 [.int .i64 4, .int .i64 0, .string ⟨#[]⟩, .slice p2 (cnt + 1) cc, .slice none 0 0] := by
    rw [← hW]
    exact (((hN.only ho5 (fun e => e)).only ho6 (fun e => by have e2 : P = Q := e; omega)).only ho7 (fun e => by have := (hlt _ e.symm).1; omega)).set 3 _
  unfold LmAft
  cases res with
  | error e => exact ⟨hb8, _, _, _, hN8⟩
  | ok p =>
    have hown8 := own_only2 hown ho8 (fun k hk e => by have e2 : k = P := e; have := (hown.lt k hk).1; omega)
    have hln : (l ++ [p.1]).length = cnt + 1 := by rw [List.length_append]; simp; omega
    refine ⟨hb8, p2, cc, cs ++ [c0, c1, c2, c3, c4], by rw [hln]; exact hN8, by rw [hln]; exact hown8, ?_⟩
    rw [hln]
    have hg : ∀ b, (Value.slice p2 (cnt + 1) cc).ownBlock = some b → (Value.slice op cnt oc).ownBlock = some b ∨ w6.heap.size ≤ b := fun b hb => by
      rcases hat with h | ⟨g, h, h2⟩
      · exact .inl (by rw [← h]; exact hb)
      · right; rw [h] at hb; injection hb with hb; omega
    have hv1 : VAt (ListS P (Value.slice p2 (cnt + 1) cc).ownBlock W8.heap.size) W8 p.1 [c0, c1, c2, c3, c4] := by
      refine hres.2.2.2.2.keep ?_ ?_
      · rintro b ⟨hb1, hb2⟩
        refine ⟨fun e => ?_, ?_, ?_⟩
        · rcases hg b e.symm with h | h
          · have := (hlt b h).2; omega
          · omega
        · omega
        · omega
      · rintro b ⟨hb1, hb2⟩ k u hu
        exact ho8.cell (by show ¬ b = P; omega) (ho7.cell (by show ¬ some b = _; intro e; have := (hlt b e.symm).2; omega) (ho6.cell (by show ¬ b = Q; omega) hu))
    have hv2 : VsAt (ListS P (Value.slice p2 (cnt + 1) cc).ownBlock W8.heap.size) W8 l cs := by
      refine hVs.keep ?_ ?_
      · rintro b ⟨hb1, hb2, hb3⟩
        refine ⟨fun e => ?_, hb2, by omega⟩
        rcases hg b e.symm with h | h
        · exact hb1 h.symm
        · omega
      · rintro b ⟨hb1, hb2, hb3⟩ k u hu
        exact ho8.cell (by show ¬ b = P; omega) (ho7.cell hb1 (ho6.cell (by show ¬ b = Q; omega) (ho5.cell (fun e => e) hu)))
    exact VsAt.snoc hv1 hv2
/-- the end of a list. -/
theorem lm_end {w0 wr W9 : World} {P : Nat} {l : List V} {op : Option Addr} {oc : Nat} {cs : List Value} {s t : BL} {j : Nat} (hP : w0.heap.size = P) (hr : wr.ownsRow (P + 2) 28 5 (.slice op l.length oc) l.length cs) (hVs : VsAt (ListS P (Value.slice op l.length oc).ownBlock wr.heap.size) wr l cs) (hl : l.length ≤ 1000000) (ho : Only (fun x => x = P + 1) wr W9) (hj : j ≤ s.length) (hd : s.drop j = t) :
    LRes s (.ok (.list l, t)) (fun b => w0.heap.size ≤ b ∧ b < W9.heap.size) W9 [.int .i64 4, .int .i64 0, .string ⟨#[]⟩, .slice op l.length oc, .slice none 0 0] j 0 := by
  have hs := ho.size
  have hr9 := own_only2 hr ho (fun k hk e => by have e2 : k = P + 1 := e; have := (hr.lt k hk).1; omega)
  refine ⟨⟨_, _, _, _, _, _, _, _, _, rfl⟩, rfl, hj, hd, VAt.list l cs _ (hVs.keep (fun b hb => ⟨by have := hb.2.1; omega, Nat.lt_of_lt_of_le hb.2.2 hs⟩) (fun b hb k u hu => ho.cell (fun e => by have e2 : b = P + 1 := e; have := hb.2.1; omega) hu)) (row_of_own hr9 (fun k hk => ⟨by have := (hr9.lt k hk).1; omega, (hr9.lt k hk).2⟩) (by omega))⟩
theorem isL_one_drop {s r : BL} {c : UInt8} {j : Nat} (hj : j ≤ s.length) (h : isL [c] (s.drop j) = some r) : j + 1 ≤ s.length ∧ s.drop (j + 1) = r := by
  have h1 := isL_len h
  have h2 := congrArg List.length h1
  rw [List.length_append, List.length_drop] at h2
  have h3 := congrArg (List.drop 1) h1
  rw [List.drop_drop] at h3
  exact ⟨by simp only [List.length_cons, List.length_nil] at h2; omega, h3⟩

set_option maxHeartbeats 16000000 in
set_option maxRecDepth 100000 in
theorem lmany_list (n : Nat) (hn : n ≤ 16) (hrec : LRV n) (s : BL) (K : ByteArray) (hK : BA s = K) (hs : s.length ≤ 4096) (i : Nat) (hi : i ≤ s.length) (w : World) :
    Calls Tryz.prog 68 #[.string K, .int .i64 i, .int .i64 (16 - (n : Int)), .agg #[.int .i64 4, .int .i64 0, .string ⟨#[]⟩, .slice none 0 0, .slice none 0 0], .string ⟨#[93]⟩] w (LVal s (listP (valP n) (s.drop i)) w) := by
  obtain ⟨P, hP⟩ : ∃ P, w.heap.size = P := ⟨_, rfl⟩
  obtain ⟨d, hd⟩ : ∃ d : Int, 16 - (n : Int) = d := ⟨_, rfl⟩
  have hd1 : 17 - (n : Int) = d + 1 := by omega
  have hwd : IntKind.i64.wrap (d + 1) = d + 1 := IntWalk.i64_in _ (by omega)
  have hrec2 := hrec s K hK hs
  rw [hd1] at hrec2
  rw [hd]
  obtain ⟨W0, hW0⟩ : ∃ W, (w.alloc (.cells #[.int .i64 4, .int .i64 0, .string ⟨#[]⟩, .slice none 0 0, .slice none 0 0] 28)).alloc (.cells #[.int .i64 0, .int .i64 0, .string ⟨#[]⟩, .slice none 0 0, .slice none 0 0] 28) = W := ⟨_, rfl⟩
  have hb0 : Below w.heap.size w W0 := by rw [← hW0]; exact ((Below.refl _ w).alloc (Nat.le_refl _) _).alloc (by simp) _
  have k0 : Blk W0 P 28 [.int .i64 4, .int .i64 0, .string ⟨#[]⟩, .slice none 0 0, .slice none 0 0] := by rw [← hW0, ← hP]; exact (show Blk _ w.heap.size 28 [.int .i64 4, .int .i64 0, .string ⟨#[]⟩, .slice none 0 0, .slice none 0 0] from heap_alloc_new w (.cells #[.int .i64 4, .int .i64 0, .string ⟨#[]⟩, .slice none 0 0, .slice none 0 0] 28)).alloc _
  have k1 : Blk W0 (P + 1) 28 [.int .i64 0, .int .i64 0, .string ⟨#[]⟩, .slice none 0 0, .slice none 0 0] := by rw [← hW0, ← hP]; exact blk_new2 w _ _ _
  have hG0 : LmG w P [] W0 := ⟨⟨hP, hb0, k1⟩, none, 0, [], k0, ⟨rfl, .inl ⟨rfl, rfl⟩⟩, .nil⟩
  have H := Lib.hid (And.intro hW0 (And.intro hG0 (And.intro hP (And.intro hK hrec2))))
  clear hW0 hG0 hb0 k0 k1 hK hrec hrec2 hd hd1
  go_enter Tryz.func68, Tryz.ntmps68
  go_wp2_with fail
  rw [H.out.1]
  (try rw [hP])
  refine (show Calls _ _ _ _ _ from lblank_any s K H.out.2.2.2.1 i hi hs W0).mono ?_
  rintro e w1 ⟨j1, rfl, hj1a, hj1, hj1d, hw1⟩
  replace hw1 := hw1.symm
  subst hw1
  have HD := Lib.hid hj1d
  clear hj1d
  go_wp2_with fail
  refine (show Calls _ _ _ _ _ from lis_any s [93] K ⟨#[93]⟩ H.out.2.2.2.1 rfl j1 hj1 hs (by decide) _).mono ?_
  rintro e w1 ⟨rfl, hw1⟩
  replace hw1 := hw1.symm
  subst hw1
  cases hcl : isL [93] (s.drop j1) with
  | some t =>
    obtain ⟨hjl, hjd⟩ := isL_one_drop hj1 hcl
    have HQ := Lib.hid (show listP (valP n) (s.drop i) = .ok (.list [], t) from listP_end _ (by rw [← HD.out]; exact hcl))
    clear hcl
    (try simp only [Option.isSome_some])
    have hwj : IntKind.i64.wrap ((j1 : Int) + 1) = ((j1 + 1 : Nat) : Int) := by rw [IntWalk.i64_in _ (by omega)]; omega
    obtain ⟨hB, op, oc, cs, kN, hrow, hVs⟩ := H.out.2.1
    have HJ := Lib.hid hjd
    clear hjd
    have g0 := (show Blk W0 P 28 [.int .i64 4, .int .i64 0, .string ⟨#[]⟩, .slice op 0 oc, .slice none 0 0] from kN).cell 0
    have r0 := (hB.res).cell 0
    have f0 := (hB.res).frozen 0
    have g1 := (show Blk W0 P 28 [.int .i64 4, .int .i64 0, .string ⟨#[]⟩, .slice op 0 oc, .slice none 0 0] from kN).cell 1
    have r1 := (hB.res).cell 1
    have f1 := (hB.res).frozen 1
    have g2 := (show Blk W0 P 28 [.int .i64 4, .int .i64 0, .string ⟨#[]⟩, .slice op 0 oc, .slice none 0 0] from kN).cell 2
    have r2 := (hB.res).cell 2
    have f2 := (hB.res).frozen 2
    have g3 := (show Blk W0 P 28 [.int .i64 4, .int .i64 0, .string ⟨#[]⟩, .slice op 0 oc, .slice none 0 0] from kN).cell 3
    have r3 := (hB.res).cell 3
    have f3 := (hB.res).frozen 3
    have g4 := (show Blk W0 P 28 [.int .i64 4, .int .i64 0, .string ⟨#[]⟩, .slice op 0 oc, .slice none 0 0] from kN).cell 4
    have r4 := (hB.res).cell 4
    have f4 := (hB.res).frozen 4
    obtain ⟨W9, hW9⟩ : ∃ W, (((((W0).setCell ⟨P + 1, 0, none⟩ (.int .i64 4)).setCell ⟨P + 1, 1, none⟩ (.int .i64 0)).setCell ⟨P + 1, 2, none⟩ (.string ⟨#[]⟩)).setCell ⟨P + 1, 3, none⟩ (.slice op 0 oc)).setCell ⟨P + 1, 4, none⟩ (.slice none 0 0) = W := ⟨_, rfl⟩
    obtain ⟨k9, ho9⟩ := put5 (hB.res) hW9
    have hb9 := ret_below (hB.below) ho9 (by have := H.out.2.2.1; omega)
    have HL := Lib.hid (And.intro (show LRes s (listP (valP n) (s.drop i)) (fun b => w.heap.size ≤ b ∧ b < W9.heap.size) W9 [.int .i64 4, .int .i64 0, .string ⟨#[]⟩, .slice op 0 oc, .slice none 0 0] (j1 + 1) 0 from by rw [HQ.out]; exact lm_end hB.size hrow hVs (by simp) ho9 hjl HJ.out) (And.intro hb9 (And.intro hW9 k9)))
    clear k9 ho9 hb9 hW9
    go_wp2
    (try rw [HL.out.2.2.1])
    clear g0 g1 g2 g3 g4 r0 r1 r2 r3 r4 f0 f1 f2 f3 f4
    have v0 := HL.out.2.2.2.cell 0
    have v1 := HL.out.2.2.2.cell 1
    have v2 := HL.out.2.2.2.cell 2
    have v3 := HL.out.2.2.2.cell 3
    have v4 := HL.out.2.2.2.cell 4
    (try simp only [Exit.inBlock, Exit.then])
    refine bodyPost_ret (v := .tuple #[.agg #[.int .i64 4, .int .i64 0, .string ⟨#[]⟩, .slice op 0 oc, .slice none 0 0], .int .i64 ((j1 + 1 : Nat) : Int), .int .i64 0]) ?_ rfl ⟨[.int .i64 4, .int .i64 0, .string ⟨#[]⟩, .slice op 0 oc, .slice none 0 0], j1 + 1, 0, rfl, HL.out.1, HL.out.2.1⟩
    rw [results_cell_tmp2 rfl]
    go_simp
  | none =>
    have h0 : listP (valP n) (s.drop i) = inList (manyI (valP n) (s.drop i).length [] (s.drop j1)) := by rw [HD.out]; exact listP_first _ (by rw [← HD.out]; exact hcl)
    have H0 := Lib.hid h0
    clear hcl h0
    (try simp only [Option.isSome_none])
    go_wp2_with fail
    go_loopg [1] (s.length - j1) (fun gk av wr => ∃ (j f : Nat) (l : List V), gk + j = s.length ∧ av = .int .i64 j ∧ j ≤ s.length ∧ s.length - j ≤ f ∧ l.length ≤ j ∧ Hid (LmG w P l wr) ∧ Hid (listP (valP n) (s.drop i) = inList (manyI (valP n) f l (s.drop j))))
    case atStart => exact ⟨j1, (s.drop i).length, [], by omega, rfl, hj1, by rw [List.length_drop]; omega, Nat.zero_le _, Lib.hid H.out.2.1, H0⟩
    case round =>
      obtain ⟨j, f, l, hg, rfl, hj, hf, hlj, HG, HM⟩ := hrel
      obtain ⟨hB, op, oc, cs, kN, hrow, hVs⟩ := HG.out
      have n0 := kN.cell 0
      obtain ⟨Q, hQ⟩ : ∃ Q, wr.heap.size = Q := ⟨_, rfl⟩
      obtain ⟨cnt, hcnt⟩ : ∃ c, l.length = c := ⟨_, rfl⟩
      rw [hcnt] at kN hrow hVs
      obtain ⟨wa, hwa⟩ : ∃ W, wr.alloc (.cells #[.int .i64 0, .int .i64 0, .string ⟨#[]⟩, .slice none 0 0, .slice none 0 0] 28) = W := ⟨_, rfl⟩
      have hwas : wa.heap.size = Q + 1 := by rw [← hwa, ← hQ]; simp
      have kQ : Blk wa Q 28 [.int .i64 0, .int .i64 0, .string ⟨#[]⟩, .slice none 0 0, .slice none 0 0] := by rw [← hwa, ← hQ]; exact heap_alloc_new wr _
      have hoa : Only (fun _ => False) wr wa := by rw [← hwa]; exact Only.alloc _ wr _
      have HX := Lib.hid (And.intro hB (And.intro kN (And.intro hrow (And.intro hVs (And.intro hwa (And.intro hwas (And.intro kQ (And.intro hoa (And.intro hQ hcnt)))))))))
      clear hB kN hrow hVs HG hwa hwas kQ hoa hQ hcnt
      go_wp2_with fail
      (try rw [HX.out.2.2.2.2.1])
      (try rw [HX.out.2.2.2.2.2.2.2.2.1])
      refine (show Calls _ _ _ _ _ from H.out.2.2.2.2 j hj wa).mono ?_
      rintro e w5 ⟨c, j3, k3, rfl, hres, hb5⟩
      obtain ⟨q0, q1, q2, q3, q4, q5, q6, q7, q8, rfl⟩ := hres.1
      have ho5 : Only (fun _ => False) wr w5 := HX.out.2.2.2.2.2.2.2.1.trans (Only.ofBelow hb5 _)
      have kQ5 := HX.out.2.2.2.2.2.2.1.below hb5
      have hPQ : ¬ P = Q := fun e => by have h1 := HX.out.1.res.lt; have h2 := HX.out.2.2.2.2.2.2.2.2.1; omega
      have hQP : ¬ Q = P := fun e => hPQ e.symm
      obtain ⟨w6, hW6⟩ : ∃ W, (((((w5.setCell ⟨Q, 0, none⟩ (.int .i64 q0)).setCell ⟨Q, 1, none⟩ (.int .i64 q1)).setCell ⟨Q, 2, none⟩ (.string q2)).setCell ⟨Q, 3, none⟩ (.slice q3 q4 q5)).setCell ⟨Q, 4, none⟩ (.slice q6 q7 q8)) = W := ⟨_, rfl⟩
      obtain ⟨kQ6, ho6⟩ := put5 kQ5 hW6
      have kP6 := (HX.out.2.1.only ho5 (fun e => e)).only ho6 (fun e => hPQ e)
      have hrow6 := own_only2 (own_only2 HX.out.2.2.1 ho5 (fun _ _ e => e)) ho6 (fun k hk e => by have e2 : k = Q := e; have := (HX.out.2.2.1.lt k hk).2; have := HX.out.2.2.2.2.2.2.2.2.1; omega)
      have HS := Lib.hid (And.intro hW6 (And.intro ho5 (And.intro hres (And.intro ho6 (And.intro hb5.size (And.intro kP6 (And.intro kQ6 hrow6)))))))
      have c0 := kQ5.cell 0
      have f0 := kQ5.frozen 0
      have c1 := kQ5.cell 1
      have f1 := kQ5.frozen 1
      have c2 := kQ5.cell 2
      have f2 := kQ5.frozen 2
      have c3 := kQ5.cell 3
      have f3 := kQ5.frozen 3
      have c4 := kQ5.cell 4
      have f4 := kQ5.frozen 4
      clear hW6 ho5 hres ho6 hb5 kP6 kQ6 hrow6 kQ5 n0
      go_upto_region 8 with fail
      (try rw [HS.out.1])
      clear c0 c1 c2 c3 c4 f0 f1 f2 f3 f4
      have p3 := HS.out.2.2.2.2.2.1.cell 3
      have b0 := HS.out.2.2.2.2.2.2.1.cell 0
      have b1 := HS.out.2.2.2.2.2.2.1.cell 1
      have b2 := HS.out.2.2.2.2.2.2.1.cell 2
      have b3 := HS.out.2.2.2.2.2.2.1.cell 3
      have b4 := HS.out.2.2.2.2.2.2.1.cell 4
      obtain ⟨p2, cc, w7, hrun, hown7, ho7, hat⟩ := val_append HS.out.2.2.2.2.2.2.2 (.int .i64 q0) (.int .i64 q1) (.string q2) (.slice q3 q4 q5) (.slice q6 q7 q8) (val_one ⟨_, _, _, _, _, _, _, _, _, rfl⟩) (by have := HX.out.2.2.2.2.2.2.2.2.2; omega) (by have := HX.out.1.res.lt; have := HS.out.2.2.2.2.2.1.lt; have := HS.out.2.1.size; have := HS.out.2.2.2.1.size; omega)
      have hRun := Lib.hid hrun
      have kP7 := HS.out.2.2.2.2.2.1.only ho7 (fun e => by have := (HX.out.2.2.1.lt _ e.symm).1; omega)
      have n37 := kP7.cell 3
      have nf7 := kP7.frozen 3
      obtain ⟨W8, hW8⟩ : ∃ W, w7.setCell ⟨P, 3, none⟩ (.slice p2 (cnt + 1) cc) = W := ⟨_, rfl⟩
      obtain ⟨res, hres0⟩ : ∃ r, valP n (s.drop j) = r := ⟨_, rfl⟩
      have hst := lm_step HX.out.1 HX.out.2.1 HX.out.2.2.1 HX.out.2.2.2.1 HX.out.2.2.2.2.2.2.2.2.2 HX.out.2.2.2.2.2.2.2.2.1 HX.out.2.2.2.2.2.1 HS.out.2.1 HS.out.2.2.2.2.1 HS.out.2.2.1 HS.out.2.2.2.1 hown7 ho7 hat hW8
      have hcode := HS.out.2.2.1.2
      rw [hres0] at hst hcode
      have H8 := Lib.hid (And.intro hst (And.intro hres0 (And.intro hcode hW8)))
      clear hrun kP7 hst hres0 hW8 hown7 ho7 hat hcode
      go_upto_region 12 with (at_builtin; refine wpList_append_run rfl (.tmp 39) (.tmp 41) 25 rfl (.slice op cnt oc) (.slice (some ⟨w6.heap.size, 0, none⟩) 1 1) rfl rfl (.slice p2 (cnt + 1) cc) w7 hRun.out ?_)
      (try rw [H8.out.2.2.2])
      clear p3 b0 b1 b2 b3 b4 n37 nf7
      cases res with
      | error e5 =>
        have hst : LmX w P W8 := H8.out.1
        obtain ⟨hB8, p, n8, cap8, kN8⟩ := hst
        have hk3 : 0 < k3 := H8.out.2.2.1.2
        have hz0 : ((k3 : Int) != 0) = true := by rw [bne, beq_eq_false_iff_ne.2 (show (k3 : Int) ≠ 0 by omega)]; rfl
        have hz1 : ¬ (k3 : Int) = 0 := by omega
        have HQ := Lib.hid (show listP (valP n) (s.drop i) = .error e5 by rw [HM.out, manyI_err H8.out.2.1]; rfl)
        have g0 := (kN8).cell 0
        have r0 := (hB8.res).cell 0
        have f0 := (hB8.res).frozen 0
        have g1 := (kN8).cell 1
        have r1 := (hB8.res).cell 1
        have f1 := (hB8.res).frozen 1
        have g2 := (kN8).cell 2
        have r2 := (hB8.res).cell 2
        have f2 := (hB8.res).frozen 2
        have g3 := (kN8).cell 3
        have r3 := (hB8.res).cell 3
        have f3 := (hB8.res).frozen 3
        have g4 := (kN8).cell 4
        have r4 := (hB8.res).cell 4
        have f4 := (hB8.res).frozen 4
        obtain ⟨W9, hW9⟩ : ∃ W, (((((W8).setCell ⟨P + 1, 0, none⟩ (.int .i64 4)).setCell ⟨P + 1, 1, none⟩ (.int .i64 0)).setCell ⟨P + 1, 2, none⟩ (.string ⟨#[]⟩)).setCell ⟨P + 1, 3, none⟩ (.slice p n8 cap8)).setCell ⟨P + 1, 4, none⟩ (.slice none 0 0) = W := ⟨_, rfl⟩
        obtain ⟨k9, ho9⟩ := put5 (hB8.res) hW9
        have hb9 := ret_below (hB8.below) ho9 (by have := H.out.2.2.1; omega)
        have HL := Lib.hid (And.intro (show LRes s (listP (valP n) (s.drop i)) (fun b => w.heap.size ≤ b ∧ b < W9.heap.size) W9 [.int .i64 4, .int .i64 0, .string ⟨#[]⟩, .slice p n8 cap8, .slice none 0 0] j3 k3 from by rw [HQ.out]; exact ⟨⟨_, _, _, _, _, _, _, _, _, rfl⟩, H8.out.2.2.1⟩) (And.intro hb9 (And.intro hW9 k9)))
        clear k9 ho9 hb9 hW9
        go_wp2
        (try rw [HL.out.2.2.1])
        clear g0 g1 g2 g3 g4 r0 r1 r2 r3 r4 f0 f1 f2 f3 f4
        have v0 := HL.out.2.2.2.cell 0
        have v1 := HL.out.2.2.2.cell 1
        have v2 := HL.out.2.2.2.cell 2
        have v3 := HL.out.2.2.2.cell 3
        have v4 := HL.out.2.2.2.cell 4
        (try simp only [Exit.inBlock, Exit.then])
        refine bodyPost_ret (v := .tuple #[.agg #[.int .i64 4, .int .i64 0, .string ⟨#[]⟩, .slice p n8 cap8, .slice none 0 0], .int .i64 j3, .int .i64 k3]) ?_ rfl ⟨[.int .i64 4, .int .i64 0, .string ⟨#[]⟩, .slice p n8 cap8, .slice none 0 0], j3, k3, rfl, HL.out.1, HL.out.2.1⟩
        rw [results_cell_tmp2 rfl]
        go_simp
      | ok p =>
        have hst : LmG w P (l ++ [p.1]) W8 := H8.out.1
        have hk0 : k3 = 0 := H8.out.2.2.1.1
        have hj3 : j3 ≤ s.length := H8.out.2.2.1.2.1
        have hd3 : s.drop j3 = p.2 := H8.out.2.2.1.2.2.1
        have hless : p.2.length < (s.drop j).length := val_less n _ _ H8.out.2.1
        rw [← hd3, List.length_drop, List.length_drop] at hless
        have hjj3 : j < j3 := by omega
        obtain ⟨f, rfl⟩ : ∃ g, f = g + 1 := ⟨f - 1, by omega⟩
        obtain ⟨l2, hl2⟩ : ∃ x, l ++ [p.1] = x := ⟨_, rfl⟩
        have hlc : l2.length ≤ j3 := by rw [← hl2, List.length_append]; simp only [List.length_cons, List.length_nil]; omega
        rw [hl2] at hst
        have HL2 := Lib.hid hl2
        have HG8 := Lib.hid (And.intro hst (And.intro hd3 H8.out.2.1))
        clear hl2
        subst hk0
        have hz0 : (((0 : Nat) : Int) != 0) = false := rfl
        have hz1 : (((0 : Nat) : Int) == 0) = true := rfl
        clear hst hd3 hless
        go_wp2_with fail
        refine (show Calls _ _ _ _ _ from lblank_any s K H.out.2.2.2.1 j3 hj3 hs W8).mono ?_
        rintro e w9 ⟨j4, rfl, hj4a, hj4, hj4d, hw9⟩
        replace hw9 := hw9.symm
        subst hw9
        have HD4 := Lib.hid (show s.drop j4 = blankL p.2 by rw [hj4d, HG8.out.2.1])
        clear hj4d
        go_wp2_with fail
        refine (show Calls _ _ _ _ _ from lis_any s [93] K ⟨#[93]⟩ H.out.2.2.2.1 rfl j4 hj4 hs (by decide) _).mono ?_
        rintro e w9 ⟨rfl, hw9⟩
        replace hw9 := hw9.symm
        subst hw9
        have hwj : IntKind.i64.wrap ((j4 : Int) + 1) = ((j4 + 1 : Nat) : Int) := by rw [IntWalk.i64_in _ (by omega)]; omega
        cases hcl : isL [93] (s.drop j4) with
        | some t =>
          obtain ⟨hjl, hjd⟩ := isL_one_drop hj4 hcl
          have HQ := Lib.hid (show listP (valP n) (s.drop i) = .ok (.list l2, t) by rw [HM.out, manyI_end HG8.out.2.2 (by rw [← HD4.out]; exact hcl), HL2.out]; rfl)
          have HJ := Lib.hid hjd
          clear hcl hjd
          (try simp only [Option.isSome_some])
          obtain ⟨hB, op8, oc8, cs8, kN, hrow, hVs⟩ := HG8.out.1
          have hln8 : l2.length ≤ 1000000 := by omega
          have g0 := (kN).cell 0
          have r0 := (hB.res).cell 0
          have f0 := (hB.res).frozen 0
          have g1 := (kN).cell 1
          have r1 := (hB.res).cell 1
          have f1 := (hB.res).frozen 1
          have g2 := (kN).cell 2
          have r2 := (hB.res).cell 2
          have f2 := (hB.res).frozen 2
          have g3 := (kN).cell 3
          have r3 := (hB.res).cell 3
          have f3 := (hB.res).frozen 3
          have g4 := (kN).cell 4
          have r4 := (hB.res).cell 4
          have f4 := (hB.res).frozen 4
          obtain ⟨W9, hW9⟩ : ∃ W, (((((W8).setCell ⟨P + 1, 0, none⟩ (.int .i64 4)).setCell ⟨P + 1, 1, none⟩ (.int .i64 0)).setCell ⟨P + 1, 2, none⟩ (.string ⟨#[]⟩)).setCell ⟨P + 1, 3, none⟩ (.slice op8 l2.length oc8)).setCell ⟨P + 1, 4, none⟩ (.slice none 0 0) = W := ⟨_, rfl⟩
          obtain ⟨k9, ho9⟩ := put5 (hB.res) hW9
          have hb9 := ret_below (hB.below) ho9 (by have := H.out.2.2.1; omega)
          have HL := Lib.hid (And.intro (show LRes s (listP (valP n) (s.drop i)) (fun b => w.heap.size ≤ b ∧ b < W9.heap.size) W9 [.int .i64 4, .int .i64 0, .string ⟨#[]⟩, .slice op8 l2.length oc8, .slice none 0 0] (j4 + 1) 0 from by rw [HQ.out]; exact lm_end hB.size hrow hVs hln8 ho9 hjl HJ.out) (And.intro hb9 (And.intro hW9 k9)))
          clear k9 ho9 hb9 hW9
          go_wp2
          (try rw [HL.out.2.2.1])
          clear g0 g1 g2 g3 g4 r0 r1 r2 r3 r4 f0 f1 f2 f3 f4
          have v0 := HL.out.2.2.2.cell 0
          have v1 := HL.out.2.2.2.cell 1
          have v2 := HL.out.2.2.2.cell 2
          have v3 := HL.out.2.2.2.cell 3
          have v4 := HL.out.2.2.2.cell 4
          (try simp only [Exit.inBlock, Exit.then])
          refine bodyPost_ret (v := .tuple #[.agg #[.int .i64 4, .int .i64 0, .string ⟨#[]⟩, .slice op8 l2.length oc8, .slice none 0 0], .int .i64 ((j4 + 1 : Nat) : Int), .int .i64 0]) ?_ rfl ⟨[.int .i64 4, .int .i64 0, .string ⟨#[]⟩, .slice op8 l2.length oc8, .slice none 0 0], j4 + 1, 0, rfl, HL.out.1, HL.out.2.1⟩
          rw [results_cell_tmp2 rfl]
          go_simp
        | none =>
          have HC4 := Lib.hid hcl
          clear hcl
          (try simp only [Option.isSome_none])
          go_wp2_with fail
          refine (show Calls _ _ _ _ _ from lis_any s [44] K ⟨#[44]⟩ H.out.2.2.2.1 rfl j4 hj4 hs (by decide) _).mono ?_
          rintro e w9 ⟨rfl, hw9⟩
          replace hw9 := hw9.symm
          subst hw9
          cases hcm : isL [44] (s.drop j4) with
          | none =>
            have HQ := Lib.hid (show listP (valP n) (s.drop i) = .error 1 by rw [HM.out, manyI_form HG8.out.2.2 (by rw [← HD4.out]; exact HC4.out) (by rw [← HD4.out]; exact hcm)]; rfl)
            clear hcm
            (try simp only [Option.isSome_none])
            obtain ⟨hB8, op8, oc8, cs8, kN8, hrow8, hVs8⟩ := HG8.out.1
            clear hrow8 hVs8
            have g0 := (kN8).cell 0
            have r0 := (hB8.res).cell 0
            have f0 := (hB8.res).frozen 0
            have g1 := (kN8).cell 1
            have r1 := (hB8.res).cell 1
            have f1 := (hB8.res).frozen 1
            have g2 := (kN8).cell 2
            have r2 := (hB8.res).cell 2
            have f2 := (hB8.res).frozen 2
            have g3 := (kN8).cell 3
            have r3 := (hB8.res).cell 3
            have f3 := (hB8.res).frozen 3
            have g4 := (kN8).cell 4
            have r4 := (hB8.res).cell 4
            have f4 := (hB8.res).frozen 4
            obtain ⟨W9, hW9⟩ : ∃ W, (((((W8).setCell ⟨P + 1, 0, none⟩ (.int .i64 4)).setCell ⟨P + 1, 1, none⟩ (.int .i64 0)).setCell ⟨P + 1, 2, none⟩ (.string ⟨#[]⟩)).setCell ⟨P + 1, 3, none⟩ (.slice op8 l2.length oc8)).setCell ⟨P + 1, 4, none⟩ (.slice none 0 0) = W := ⟨_, rfl⟩
            obtain ⟨k9, ho9⟩ := put5 (hB8.res) hW9
            have hb9 := ret_below (hB8.below) ho9 (by have := H.out.2.2.1; omega)
            have HL := Lib.hid (And.intro (show LRes s (listP (valP n) (s.drop i)) (fun b => w.heap.size ≤ b ∧ b < W9.heap.size) W9 [.int .i64 4, .int .i64 0, .string ⟨#[]⟩, .slice op8 l2.length oc8, .slice none 0 0] j4 1 from by rw [HQ.out]; exact ⟨⟨_, _, _, _, _, _, _, _, _, rfl⟩, rfl, by decide⟩) (And.intro hb9 (And.intro hW9 k9)))
            clear k9 ho9 hb9 hW9
            go_wp2
            (try rw [HL.out.2.2.1])
            clear g0 g1 g2 g3 g4 r0 r1 r2 r3 r4 f0 f1 f2 f3 f4
            have v0 := HL.out.2.2.2.cell 0
            have v1 := HL.out.2.2.2.cell 1
            have v2 := HL.out.2.2.2.cell 2
            have v3 := HL.out.2.2.2.cell 3
            have v4 := HL.out.2.2.2.cell 4
            (try simp only [Exit.inBlock, Exit.then])
            refine bodyPost_ret (v := .tuple #[.agg #[.int .i64 4, .int .i64 0, .string ⟨#[]⟩, .slice op8 l2.length oc8, .slice none 0 0], .int .i64 j4, .int .i64 1]) ?_ rfl ⟨[.int .i64 4, .int .i64 0, .string ⟨#[]⟩, .slice op8 l2.length oc8, .slice none 0 0], j4, 1, rfl, HL.out.1, HL.out.2.1⟩
            rw [results_cell_tmp2 rfl]
            go_simp
          | some t =>
            obtain ⟨hjl, hjd⟩ := isL_one_drop hj4 hcm
            have HM2 := Lib.hid (show listP (valP n) (s.drop i) = inList (manyI (valP n) f l2 (blankL t)) by rw [HM.out, manyI_next HG8.out.2.2 (by rw [← HD4.out]; exact HC4.out) (by rw [← HD4.out]; exact hcm), HL2.out])
            clear hcm
            (try simp only [Option.isSome_some])
            obtain ⟨j5, hj5⟩ : ∃ x, j4 + 1 = x := ⟨_, rfl⟩
            rw [hj5] at hwj hjl hjd
            go_wp2_with fail
            refine (show Calls _ _ _ _ _ from lblank_any s K H.out.2.2.2.1 j5 hjl hs _).mono ?_
            rintro e w9 ⟨j6, rfl, hj6a, hj6, hj6d, hw9⟩
            replace hw9 := hw9.symm
            subst hw9
            have HF := Lib.hid (show listP (valP n) (s.drop i) = inList (manyI (valP n) f l2 (s.drop j6)) by rw [hj6d, hjd]; exact HM2.out)
            clear hj6d hjd
            go_wp2_with fail
            go_roundg (s.length - j6)
            case rel => exact ⟨j6, f, l2, by omega, rfl, hj6, by omega, by omega, Lib.hid HG8.out.1, HF⟩
            case measure => omega
end Go.Proofs.YtccnfnoonpfdfaaGreatDoor
