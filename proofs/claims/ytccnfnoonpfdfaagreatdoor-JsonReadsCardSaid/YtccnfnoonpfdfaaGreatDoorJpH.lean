/- The law's many, of objects (printed by wip/gen_jph.py). -/
import Derived.Test.YtccnfnoonpfdfaaGreatDoorJpG
namespace Go.Proofs.YtccnfnoonpfdfaaGreatDoor
open Go.Shelf Go.RowKit Go.Lib

theorem put6 {w1 W : World} {P : Nat} {a0 a1 a2 a3 a4 a5 : Value} (kz : Blk w1 P 51 [a0, a1, a2, a3, a4, a5]) {x0 x1 x2 x3 x4 x5 : Value}
    (hW : ((((((w1.setCell ⟨P, 0, none⟩ x0).setCell ⟨P, 1, none⟩ x1).setCell ⟨P, 2, none⟩ x2).setCell ⟨P, 3, none⟩ x3).setCell ⟨P, 4, none⟩ x4).setCell ⟨P, 5, none⟩ x5) = W) : Blk W P 51 [x0, x1, x2, x3, x4, x5] ∧ Only (fun x => x = P) w1 W := by
  rw [← hW]
  exact ⟨(((((kz.set 0 x0).set 1 x1).set 2 x2).set 3 x3).set 4 x4).set 5 x5, (((((Only.set1 w1 P 0 x0).trans (Only.set1 _ P 1 x1)).trans (Only.set1 _ P 2 x2)).trans (Only.set1 _ P 3 x3)).trans (Only.set1 _ P 4 x4)).trans (Only.set1 _ P 5 x5)⟩
def LoG (w0 : World) (P : Nat) (l : List (BL × V)) (wr : World) : Prop := LmB w0 P wr ∧ ∃ op oc cs, Blk wr P 28 [.int .i64 5, .int .i64 0, .string ⟨#[]⟩, .slice none 0 0, .slice op l.length oc] ∧ FsAt (ObjS P wr.heap.size) wr l cs ∧ RowAt (ObjS P wr.heap.size) wr (.slice op l.length oc) l.length cs
def LoX (w0 : World) (P : Nat) (wr : World) : Prop := LmB w0 P wr ∧ ∃ p n c, Blk wr P 28 [.int .i64 5, .int .i64 0, .string ⟨#[]⟩, .slice none 0 0, .slice p n c]
def LoAft (w0 : World) (P : Nat) (l : List (BL × V)) (res : Res (BL × V)) (W : World) : Prop := match res with
  | .ok p => LoG w0 P (setF l p.1.1 p.1.2) W
  | .error _ => LoX w0 P W
theorem lo_step {w0 wr wa w5 w6 w7 W8 : World} {P Q cnt oc j k n2 c2 : Nat} {s : BL} {l : List (BL × V)} {op p2 : Option Addr} {X : ByteArray} {c0 c1 c2' c3 c4 : Value} {res : Res (BL × V)} (hb : LmB w0 P wr) (hN : Blk wr P 28 [.int .i64 5, .int .i64 0, .string ⟨#[]⟩, .slice none 0 0, .slice op cnt oc]) 
    (hQ : wr.heap.size = Q) (hwa : wa.heap.size = Q + 1) (ho5 : Only (fun _ => False) wr w5) (h5 : wa.heap.size ≤ w5.heap.size)
    (hres : FldR s (fun b => wa.heap.size ≤ b ∧ b < w5.heap.size) w5 X [c0, c1, c2', c3, c4] j k res) (ho6 : Only (fun x => x = Q) w5 w6) (hb7 : Below w6.heap.size w6 w7)
    (hlp : ∀ v, VAt (fun b => wa.heap.size ≤ b ∧ b < w5.heap.size) w6 v [c0, c1, c2', c3, c4] → VAt (fun b => ObjS P wr.heap.size b ∨ (wa.heap.size ≤ b ∧ b < w5.heap.size) ∨ (w6.heap.size ≤ b ∧ b < w7.heap.size)) w7 (.obj (setF l X.data.toList v)) [.int .i64 5, .int .i64 0, .string ⟨#[]⟩, .slice none 0 0, .slice p2 n2 c2])
    (hln : ∀ v, VAt (fun b => wa.heap.size ≤ b ∧ b < w5.heap.size) w6 v [c0, c1, c2', c3, c4] → (setF l X.data.toList v).length = n2)
    (hW : w7.setCell ⟨P, 4, none⟩ (.slice p2 n2 c2) = W8) : LoAft w0 P l res W8 := by
  have hPQ := hb.res.lt
  have hs5 := ho5.size
  have hs6 := ho6.size
  have hs7 := hb7.size
  have ho8 : Only (fun x => x = P) w7 W8 := by rw [← hW]; exact Only.set1 _ _ _ _
  have hs8 := ho8.size
  have hb8 : LmB w0 P W8 := (((hb.only ho5 (fun _ e => e.elim)).only ho6 (fun k e => .inr (by have e2 : k = Q := e; omega))).only (Only.ofBelow hb7 (fun _ => False)) (fun _ e => e.elim)).only ho8 (fun k e => .inl e)
  have hN8 : Blk W8 P 28 [.int .i64 5, .int .i64 0, .string ⟨#[]⟩, .slice none 0 0, .slice p2 n2 c2] := by
    rw [← hW]
    exact (((hN.only ho5 (fun e => e)).only ho6 (fun e => by have e2 : P = Q := e; omega)).below hb7).set 4 _
  unfold LoAft
  cases res with
  | error e => exact ⟨hb8, _, _, _, hN8⟩
  | ok p =>
    obtain ⟨hk, hj, hd, hX, hv⟩ := hres
    have hv6 : VAt (fun b => wa.heap.size ≤ b ∧ b < w5.heap.size) w6 p.1.2 [c0, c1, c2', c3, c4] := hv.keep (fun _ h => h) (fun b hb k u hu => ho6.cell (by show ¬ b = Q; have := hb.1; omega) hu)
    have h1 := hlp _ hv6
    have h2 := hln _ hv6
    have hXl : X.data.toList = p.1.1 := by rw [hX]
    rw [hXl] at h1 h2
    have h3 : VAt (ObjS P W8.heap.size) W8 (.obj (setF l p.1.1 p.1.2)) [.int .i64 5, .int .i64 0, .string ⟨#[]⟩, .slice none 0 0, .slice p2 n2 c2] := by
      refine h1.keep (fun b hb => ?_) (fun b hb k u hu => ho8.cell (fun e => ?_) hu)
      · rcases hb with hb | hb | hb
        · exact ⟨hb.1, by have := hb.2; omega⟩
        · exact ⟨by have := hb.1; omega, by have := hb.2; omega⟩
        · exact ⟨by have := hb.1; omega, by have := hb.2; omega⟩
      · have e2 : b = P := e
        rcases hb with hb | hb | hb
        · have := hb.1; omega
        · have := hb.1; omega
        · have := hb.1; omega
    cases h3 with
    | obj l2 cs sl hV hr =>
      rw [← h2] at hN8
      refine ⟨hb8, p2, c2, cs, hN8, hV, ?_⟩
      rw [← h2] at hr
      exact hr
/-- the end of an object. -/
theorem lo_end {w0 wr W9 : World} {P : Nat} {l : List (BL × V)} {op : Option Addr} {oc : Nat} {cs : List Value} {s t : BL} {j : Nat} (hP : w0.heap.size = P) (hV : FsAt (ObjS P wr.heap.size) wr l cs) (hr : RowAt (ObjS P wr.heap.size) wr (.slice op l.length oc) l.length cs) (ho : Only (fun x => x = P + 1) wr W9) (hj : j ≤ s.length) (hd : s.drop j = t) :
    LRes s (.ok (.obj l, t)) (fun b => w0.heap.size ≤ b ∧ b < W9.heap.size) W9 [.int .i64 5, .int .i64 0, .string ⟨#[]⟩, .slice none 0 0, .slice op l.length oc] j 0 := by
  have hs := ho.size
  have h1 : VAt (ObjS P wr.heap.size) wr (.obj l) [.int .i64 5, .int .i64 0, .string ⟨#[]⟩, .slice none 0 0, .slice op l.length oc] := VAt.obj l cs _ hV hr
  exact ⟨⟨_, _, _, _, _, _, _, _, _, rfl⟩, rfl, hj, hd, h1.keep (fun b hb => ⟨by have := hb.1; omega, Nat.lt_of_lt_of_le hb.2 hs⟩) (fun b hb k u hu => ho.cell (fun e => by have e2 : b = P + 1 := e; have := hb.1; omega) hu)⟩

set_option maxHeartbeats 16000000 in
set_option maxRecDepth 100000 in
theorem lmany_obj (n : Nat) (hn : n ≤ 16) (hrec : LRV n) (s : BL) (K : ByteArray) (hK : BA s = K) (hs : s.length ≤ 4096) (i : Nat) (hi : i ≤ s.length) (w : World) :
    Calls Tryz.prog 68 #[.string K, .int .i64 i, .int .i64 (16 - (n : Int)), .agg #[.int .i64 5, .int .i64 0, .string ⟨#[]⟩, .slice none 0 0, .slice none 0 0], .string ⟨#[125]⟩] w (LVal s (objP (valP n) (s.drop i)) w) := by
  obtain ⟨P, hP⟩ : ∃ P, w.heap.size = P := ⟨_, rfl⟩
  obtain ⟨d, hd⟩ : ∃ d : Int, 16 - (n : Int) = d := ⟨_, rfl⟩
  have hd1 : 17 - (n : Int) = d + 1 := by omega
  have hwd : IntKind.i64.wrap (d + 1) = d + 1 := IntWalk.i64_in _ (by omega)
  have hfld := fun (l : List (BL × V)) (hl : l.length ≤ 1000000) (S : Nat → Prop) (cs : List Value) (sp : Option Addr) (sn sc : Nat) (j : Nat) (hj : j ≤ s.length) (w : World) hV hr => lfield_any n hrec s K hK hs j hj S l cs sp sn sc w hV hr hl
  rw [hd1] at hfld
  rw [hd]
  obtain ⟨W0, hW0⟩ : ∃ W, (w.alloc (.cells #[.int .i64 5, .int .i64 0, .string ⟨#[]⟩, .slice none 0 0, .slice none 0 0] 28)).alloc (.cells #[.int .i64 0, .int .i64 0, .string ⟨#[]⟩, .slice none 0 0, .slice none 0 0] 28) = W := ⟨_, rfl⟩
  have hb0 : Below w.heap.size w W0 := by rw [← hW0]; exact ((Below.refl _ w).alloc (Nat.le_refl _) _).alloc (by simp) _
  have k0 : Blk W0 P 28 [.int .i64 5, .int .i64 0, .string ⟨#[]⟩, .slice none 0 0, .slice none 0 0] := by rw [← hW0, ← hP]; exact (show Blk _ w.heap.size 28 [.int .i64 5, .int .i64 0, .string ⟨#[]⟩, .slice none 0 0, .slice none 0 0] from heap_alloc_new w (.cells #[.int .i64 5, .int .i64 0, .string ⟨#[]⟩, .slice none 0 0, .slice none 0 0] 28)).alloc _
  have k1 : Blk W0 (P + 1) 28 [.int .i64 0, .int .i64 0, .string ⟨#[]⟩, .slice none 0 0, .slice none 0 0] := by rw [← hW0, ← hP]; exact blk_new2 w _ _ _
  have hG0 : LoG w P [] W0 := ⟨⟨hP, hb0, k1⟩, none, 0, [], k0, .nil, ⟨Nat.zero_le _, .inl ⟨rfl, rfl⟩⟩⟩
  have H := Lib.hid (And.intro hW0 (And.intro hG0 (And.intro hP (And.intro hK hfld))))
  clear hW0 hG0 hb0 k0 k1 hK hrec hfld hd hd1
  go_enter Tryz.func68, Tryz.ntmps68
  go_wp2_with fail
  rw [H.out.1]
  (try rw [hP])
  refine (show Calls _ _ _ _ _ from lblank_any s K H.out.2.2.2.1 i hi hs W0).mono ?_
  rintro e w1 ⟨j1, rfl, hj1a, hj1, hj1d, hw1⟩
  replace hw1 := hw1.symm
  subst hw1
  have HD := Lib.hid hj1d
  clear hj1d
  go_wp2_with fail
  refine (show Calls _ _ _ _ _ from lis_any s [125] K ⟨#[125]⟩ H.out.2.2.2.1 rfl j1 hj1 hs (by decide) _).mono ?_
  rintro e w1 ⟨rfl, hw1⟩
  replace hw1 := hw1.symm
  subst hw1
  cases hcl : isL [125] (s.drop j1) with
  | some t =>
    obtain ⟨hjl, hjd⟩ := isL_one_drop hj1 hcl
    have HQ := Lib.hid (show objP (valP n) (s.drop i) = .ok (.obj [], t) from objP_end _ (by rw [← HD.out]; exact hcl))
    clear hcl
    (try simp only [Option.isSome_some])
    have hwj : IntKind.i64.wrap ((j1 : Int) + 1) = ((j1 + 1 : Nat) : Int) := by rw [IntWalk.i64_in _ (by omega)]; omega
    obtain ⟨hB, op, oc, cs, kN, hV, hrow⟩ := H.out.2.1
    have HJ := Lib.hid hjd
    clear hjd
    have g0 := (show Blk W0 P 28 [.int .i64 5, .int .i64 0, .string ⟨#[]⟩, .slice none 0 0, .slice op 0 oc] from kN).cell 0
    have r0 := (hB.res).cell 0
    have f0 := (hB.res).frozen 0
    have g1 := (show Blk W0 P 28 [.int .i64 5, .int .i64 0, .string ⟨#[]⟩, .slice none 0 0, .slice op 0 oc] from kN).cell 1
    have r1 := (hB.res).cell 1
    have f1 := (hB.res).frozen 1
    have g2 := (show Blk W0 P 28 [.int .i64 5, .int .i64 0, .string ⟨#[]⟩, .slice none 0 0, .slice op 0 oc] from kN).cell 2
    have r2 := (hB.res).cell 2
    have f2 := (hB.res).frozen 2
    have g3 := (show Blk W0 P 28 [.int .i64 5, .int .i64 0, .string ⟨#[]⟩, .slice none 0 0, .slice op 0 oc] from kN).cell 3
    have r3 := (hB.res).cell 3
    have f3 := (hB.res).frozen 3
    have g4 := (show Blk W0 P 28 [.int .i64 5, .int .i64 0, .string ⟨#[]⟩, .slice none 0 0, .slice op 0 oc] from kN).cell 4
    have r4 := (hB.res).cell 4
    have f4 := (hB.res).frozen 4
    obtain ⟨W9, hW9⟩ : ∃ W, (((((W0).setCell ⟨P + 1, 0, none⟩ (.int .i64 5)).setCell ⟨P + 1, 1, none⟩ (.int .i64 0)).setCell ⟨P + 1, 2, none⟩ (.string ⟨#[]⟩)).setCell ⟨P + 1, 3, none⟩ (.slice none 0 0)).setCell ⟨P + 1, 4, none⟩ (.slice op 0 oc) = W := ⟨_, rfl⟩
    obtain ⟨k9, ho9⟩ := put5 (hB.res) hW9
    have hb9 := ret_below (hB.below) ho9 (by have := H.out.2.2.1; omega)
    have HL := Lib.hid (And.intro (show LRes s (objP (valP n) (s.drop i)) (fun b => w.heap.size ≤ b ∧ b < W9.heap.size) W9 [.int .i64 5, .int .i64 0, .string ⟨#[]⟩, .slice none 0 0, .slice op 0 oc] (j1 + 1) 0 from by rw [HQ.out]; exact lo_end hB.size hV hrow ho9 hjl HJ.out) (And.intro hb9 (And.intro hW9 k9)))
    clear k9 ho9 hb9 hW9
    go_wp2
    (try rw [HL.out.2.2.1])
    clear g0 g1 g2 g3 g4 r0 r1 r2 r3 r4 f0 f1 f2 f3 f4
    have v0 := HL.out.2.2.2.cell 0
    have v1 := HL.out.2.2.2.cell 1
    have v2 := HL.out.2.2.2.cell 2
    have v3 := HL.out.2.2.2.cell 3
    have v4 := HL.out.2.2.2.cell 4
    (try simp only [Exit.inBlock, Exit.then])
    refine bodyPost_ret (v := .tuple #[.agg #[.int .i64 5, .int .i64 0, .string ⟨#[]⟩, .slice none 0 0, .slice op 0 oc], .int .i64 ((j1 + 1 : Nat) : Int), .int .i64 0]) ?_ rfl ⟨[.int .i64 5, .int .i64 0, .string ⟨#[]⟩, .slice none 0 0, .slice op 0 oc], j1 + 1, 0, rfl, HL.out.1, HL.out.2.1⟩
    rw [results_cell_tmp2 rfl]
    go_simp
  | none =>
    have h0 : objP (valP n) (s.drop i) = inObj (manyF (valP n) (s.drop i).length [] (s.drop j1)) := by rw [HD.out]; exact objP_first _ (by rw [← HD.out]; exact hcl)
    have H0 := Lib.hid h0
    clear hcl h0
    (try simp only [Option.isSome_none])
    go_wp2_with fail
    go_loopg [1] (s.length - j1) (fun gk av wr => ∃ (j f : Nat) (l : List (BL × V)), gk + j = s.length ∧ av = .int .i64 j ∧ j ≤ s.length ∧ s.length - j ≤ f ∧ l.length ≤ j ∧ Hid (LoG w P l wr) ∧ Hid (objP (valP n) (s.drop i) = inObj (manyF (valP n) f l (s.drop j))))
    case atStart => exact ⟨j1, (s.drop i).length, [], by omega, rfl, hj1, by rw [List.length_drop]; omega, Nat.zero_le _, Lib.hid H.out.2.1, H0⟩
    case round =>
      obtain ⟨j, f, l, hg, rfl, hj, hf, hlj, HG, HM⟩ := hrel
      obtain ⟨hB, op, oc, cs, kN, hV, hrow⟩ := HG.out
      have n0 := kN.cell 0
      obtain ⟨Q, hQ⟩ : ∃ Q, wr.heap.size = Q := ⟨_, rfl⟩
      obtain ⟨cnt, hcnt⟩ : ∃ c, l.length = c := ⟨_, rfl⟩
      rw [hcnt] at kN
      obtain ⟨wa, hwa⟩ : ∃ W, wr.alloc (.cells #[.string ⟨#[]⟩, .int .i64 0, .int .i64 0, .string ⟨#[]⟩, .slice none 0 0, .slice none 0 0] 51) = W := ⟨_, rfl⟩
      have hwas : wa.heap.size = Q + 1 := by rw [← hwa, ← hQ]; simp
      have kQ : Blk wa Q 51 [.string ⟨#[]⟩, .int .i64 0, .int .i64 0, .string ⟨#[]⟩, .slice none 0 0, .slice none 0 0] := by rw [← hwa, ← hQ]; exact heap_alloc_new wr _
      have hoa : Only (fun _ => False) wr wa := by rw [← hwa]; exact Only.alloc _ wr _
      have hba : Below wr.heap.size wr wa := by rw [← hwa]; exact (Below.refl _ wr).alloc (Nat.le_refl _) _
      have hVa := hV.later hba
      have hra := hrow.later hba
      have hl : l.length ≤ 1000000 := by omega
      have hcall := H.out.2.2.2.2 l hl _ _ _ _ _ j hj wa hVa hra
      rw [hcnt] at hcall
      have HX := Lib.hid (And.intro hB (And.intro kN (And.intro hVa (And.intro hra (And.intro hwa (And.intro hwas (And.intro kQ (And.intro hoa (And.intro hQ (And.intro hcnt hcall))))))))))
      clear hB kN hV hrow hVa hra HG hwa hwas kQ hoa hQ hcnt hba hcall
      go_upto_region 10 with fail
      (try rw [HX.out.2.2.2.2.1])
      (try rw [HX.out.2.2.2.2.2.2.2.2.1])
      clear n0
      have n4 := (HX.out.2.1.only HX.out.2.2.2.2.2.2.2.1 (fun e => e)).cell 4
      go_wp2_with fail
      refine (show Calls _ _ _ _ _ from HX.out.2.2.2.2.2.2.2.2.2.2).mono ?_
      rintro e w5 ⟨X, q0, q1, q2, q3, q4, q5, q6, q7, q8, j3, k3, rfl, hb5, hres⟩
      clear n4
      have ho5 : Only (fun _ => False) wr w5 := HX.out.2.2.2.2.2.2.2.1.trans (Only.ofBelow hb5 _)
      have kQ5 := HX.out.2.2.2.2.2.2.1.below hb5
      have hPQ : ¬ P = Q := fun e => by have h1 := HX.out.1.res.lt; have h2 := HX.out.2.2.2.2.2.2.2.2.1; omega
      have hQP : ¬ Q = P := fun e => hPQ e.symm
      obtain ⟨w6, hW6⟩ : ∃ W, ((((((w5.setCell ⟨Q, 0, none⟩ (.string X)).setCell ⟨Q, 1, none⟩ (.int .i64 q0)).setCell ⟨Q, 2, none⟩ (.int .i64 q1)).setCell ⟨Q, 3, none⟩ (.string q2)).setCell ⟨Q, 4, none⟩ (.slice q3 q4 q5)).setCell ⟨Q, 5, none⟩ (.slice q6 q7 q8)) = W := ⟨_, rfl⟩
      obtain ⟨kQ6, ho6⟩ := put6 kQ5 hW6
      have kP6 := (HX.out.2.1.only ho5 (fun e => e)).only ho6 (fun e => hPQ e)
      have hV6 : FsAt (ObjS P wr.heap.size) w6 l cs := (HX.out.2.2.1.later hb5).keep (fun _ h => h) (fun b hb k u hu => ho6.cell (fun e => by have e2 : b = Q := e; have := hb.2; have := HX.out.2.2.2.2.2.2.2.2.1; omega) hu)
      have hr6 : RowAt (ObjS P wr.heap.size) w6 (.slice op cnt oc) l.length cs := by
        have h := (HX.out.2.2.2.1.later hb5).keep (T := ObjS P wr.heap.size) (w2 := w6) (fun _ h => h) (fun b hb k u hu => ho6.cell (fun e => by have e2 : b = Q := e; have := hb.2; have := HX.out.2.2.2.2.2.2.2.2.1; omega) hu)
        rw [HX.out.2.2.2.2.2.2.2.2.2.1] at h
        rw [HX.out.2.2.2.2.2.2.2.2.2.1]
        exact h
      have hlaid := laid_any (ObjS P wr.heap.size) (fun b => wa.heap.size ≤ b ∧ b < w5.heap.size) l X.data.toList cs op cnt oc q0 q1 q2 q3 q6 q4 q5 q7 q8 X (ba_list X) w6 hV6 hr6 hl
      have HS := Lib.hid (And.intro hW6 (And.intro ho5 (And.intro hres (And.intro ho6 (And.intro hb5.size (And.intro kP6 (And.intro kQ6 hlaid)))))))
      have c0 := kQ5.cell 0
      have f0 := kQ5.frozen 0
      have c1 := kQ5.cell 1
      have f1 := kQ5.frozen 1
      have c2 := kQ5.cell 2
      have f2 := kQ5.frozen 2
      have c3 := kQ5.cell 3
      have f3 := kQ5.frozen 3
      have c4 := kQ5.cell 4
      have f4 := kQ5.frozen 4
      have c5 := kQ5.cell 5
      have f5 := kQ5.frozen 5
      clear hW6 ho5 hres ho6 hb5 kP6 kQ6 hV6 hr6 kQ5 hlaid
      go_upto_region 11 with fail
      (try rw [HS.out.1])
      clear c0 c1 c2 c3 c4 c5 f0 f1 f2 f3 f4 f5
      have p4 := HS.out.2.2.2.2.2.1.cell 4
      have b0 := HS.out.2.2.2.2.2.2.1.cell 0
      have b1 := HS.out.2.2.2.2.2.2.1.cell 1
      have b2 := HS.out.2.2.2.2.2.2.1.cell 2
      have b3 := HS.out.2.2.2.2.2.2.1.cell 3
      have b4 := HS.out.2.2.2.2.2.2.1.cell 4
      have b5 := HS.out.2.2.2.2.2.2.1.cell 5
      go_wp2_with fail
      refine (show Calls _ _ _ _ _ from HS.out.2.2.2.2.2.2.2).mono ?_
      rintro e w7 ⟨p2, n2, c2, rfl, hb7, hlp, hln⟩
      have kP7 := HS.out.2.2.2.2.2.1.below hb7
      have n47 := kP7.cell 4
      have nf7 := kP7.frozen 4
      obtain ⟨W8, hW8⟩ : ∃ W, w7.setCell ⟨P, 4, none⟩ (.slice p2 n2 c2) = W := ⟨_, rfl⟩
      obtain ⟨res, hres0⟩ : ∃ r, fieldQ (valP n) l (s.drop j) = r := ⟨_, rfl⟩
      have hcode := HS.out.2.2.1
      rw [hres0] at hcode
      have hst := lo_step HX.out.1 HX.out.2.1 HX.out.2.2.2.2.2.2.2.2.1 HX.out.2.2.2.2.2.1 HS.out.2.1 HS.out.2.2.2.2.1 hcode HS.out.2.2.2.1 hb7 hlp hln hW8
      have hfp := fieldP2_eq (valP n) l (s.drop j)
      rw [hres0] at hfp
      have H8 := Lib.hid (And.intro hst (And.intro hfp (And.intro hcode hW8)))
      clear kP7 hst hres0 hW8 hb7 hlp hln hcode hfp p4 b0 b1 b2 b3 b4 b5
      go_upto_region 12 with fail
      (try rw [H8.out.2.2.2])
      clear n47 nf7
      cases res with
      | error e5 =>
        have hst : LoX w P W8 := H8.out.1
        obtain ⟨hB8, p, n8, cap8, kN8⟩ := hst
        have hcd : k3 = e5 ∧ 0 < k3 := H8.out.2.2.1
        have hk3 : 0 < k3 := hcd.2
        have hz0 : ((k3 : Int) != 0) = true := by rw [bne, beq_eq_false_iff_ne.2 (show (k3 : Int) ≠ 0 by omega)]; rfl
        have hz1 : ¬ (k3 : Int) = 0 := by omega
        have HQ := Lib.hid (show objP (valP n) (s.drop i) = .error e5 by rw [HM.out, manyF_err H8.out.2.1]; rfl)
        have g0 := (kN8).cell 0
        have r0 := (hB8.res).cell 0
        have f0 := (hB8.res).frozen 0
        have g1 := (kN8).cell 1
        have r1 := (hB8.res).cell 1
        have f1 := (hB8.res).frozen 1
        have g2 := (kN8).cell 2
        have r2 := (hB8.res).cell 2
        have f2 := (hB8.res).frozen 2
        have g3 := (kN8).cell 3
        have r3 := (hB8.res).cell 3
        have f3 := (hB8.res).frozen 3
        have g4 := (kN8).cell 4
        have r4 := (hB8.res).cell 4
        have f4 := (hB8.res).frozen 4
        obtain ⟨W9, hW9⟩ : ∃ W, (((((W8).setCell ⟨P + 1, 0, none⟩ (.int .i64 5)).setCell ⟨P + 1, 1, none⟩ (.int .i64 0)).setCell ⟨P + 1, 2, none⟩ (.string ⟨#[]⟩)).setCell ⟨P + 1, 3, none⟩ (.slice none 0 0)).setCell ⟨P + 1, 4, none⟩ (.slice p n8 cap8) = W := ⟨_, rfl⟩
        obtain ⟨k9, ho9⟩ := put5 (hB8.res) hW9
        have hb9 := ret_below (hB8.below) ho9 (by have := H.out.2.2.1; omega)
        have HL := Lib.hid (And.intro (show LRes s (objP (valP n) (s.drop i)) (fun b => w.heap.size ≤ b ∧ b < W9.heap.size) W9 [.int .i64 5, .int .i64 0, .string ⟨#[]⟩, .slice none 0 0, .slice p n8 cap8] j3 k3 from by rw [HQ.out]; exact ⟨⟨_, _, _, _, _, _, _, _, _, rfl⟩, H8.out.2.2.1⟩) (And.intro hb9 (And.intro hW9 k9)))
        clear k9 ho9 hb9 hW9
        go_wp2
        (try rw [HL.out.2.2.1])
        clear g0 g1 g2 g3 g4 r0 r1 r2 r3 r4 f0 f1 f2 f3 f4
        have v0 := HL.out.2.2.2.cell 0
        have v1 := HL.out.2.2.2.cell 1
        have v2 := HL.out.2.2.2.cell 2
        have v3 := HL.out.2.2.2.cell 3
        have v4 := HL.out.2.2.2.cell 4
        (try simp only [Exit.inBlock, Exit.then])
        refine bodyPost_ret (v := .tuple #[.agg #[.int .i64 5, .int .i64 0, .string ⟨#[]⟩, .slice none 0 0, .slice p n8 cap8], .int .i64 j3, .int .i64 k3]) ?_ rfl ⟨[.int .i64 5, .int .i64 0, .string ⟨#[]⟩, .slice none 0 0, .slice p n8 cap8], j3, k3, rfl, HL.out.1, HL.out.2.1⟩
        rw [results_cell_tmp2 rfl]
        go_simp
      | ok p =>
        have hst : LoG w P (setF l p.1.1 p.1.2) W8 := H8.out.1
        obtain ⟨hk0, hj3, hd3, _, _⟩ := H8.out.2.2.1
        obtain ⟨l2, hl2⟩ : ∃ x, setF l p.1.1 p.1.2 = x := ⟨_, rfl⟩
        have hfo : fieldP2 (valP n) l (s.drop j) = .ok (l2, p.2) := by rw [← hl2]; exact H8.out.2.1
        have hl2n : l2.length = l.length + 1 := by rw [← hl2]; exact setF_len _ _ _
        have hless : p.2.length < (s.drop j).length := field_less (val_less n) l _ _ hfo
        rw [← hd3, List.length_drop, List.length_drop] at hless
        have hjj3 : j < j3 := by omega
        obtain ⟨f, rfl⟩ : ∃ g, f = g + 1 := ⟨f - 1, by omega⟩
        have hlc : l2.length ≤ j3 := by omega
        rw [hl2] at hst
        have HG8 := Lib.hid (And.intro hst (And.intro hd3 hfo))
        subst hk0
        have hz0 : (((0 : Nat) : Int) != 0) = false := rfl
        have hz1 : (((0 : Nat) : Int) == 0) = true := rfl
        clear hst hd3 hless hl2 hfo hl2n
        go_wp2_with fail
        refine (show Calls _ _ _ _ _ from lblank_any s K H.out.2.2.2.1 j3 hj3 hs W8).mono ?_
        rintro e w9 ⟨j4, rfl, hj4a, hj4, hj4d, hw9⟩
        replace hw9 := hw9.symm
        subst hw9
        have HD4 := Lib.hid (show s.drop j4 = blankL p.2 by rw [hj4d, HG8.out.2.1])
        clear hj4d
        go_wp2_with fail
        refine (show Calls _ _ _ _ _ from lis_any s [125] K ⟨#[125]⟩ H.out.2.2.2.1 rfl j4 hj4 hs (by decide) _).mono ?_
        rintro e w9 ⟨rfl, hw9⟩
        replace hw9 := hw9.symm
        subst hw9
        have hwj : IntKind.i64.wrap ((j4 : Int) + 1) = ((j4 + 1 : Nat) : Int) := by rw [IntWalk.i64_in _ (by omega)]; omega
        cases hcl : isL [125] (s.drop j4) with
        | some t =>
          obtain ⟨hjl, hjd⟩ := isL_one_drop hj4 hcl
          have HQ := Lib.hid (show objP (valP n) (s.drop i) = .ok (.obj l2, t) by rw [HM.out, manyF_end HG8.out.2.2 (by rw [← HD4.out]; exact hcl)]; rfl)
          have HJ := Lib.hid hjd
          clear hcl hjd
          (try simp only [Option.isSome_some])
          obtain ⟨hB, op8, oc8, cs8, kN, hV8, hrow⟩ := HG8.out.1
          have g0 := (kN).cell 0
          have r0 := (hB.res).cell 0
          have f0 := (hB.res).frozen 0
          have g1 := (kN).cell 1
          have r1 := (hB.res).cell 1
          have f1 := (hB.res).frozen 1
          have g2 := (kN).cell 2
          have r2 := (hB.res).cell 2
          have f2 := (hB.res).frozen 2
          have g3 := (kN).cell 3
          have r3 := (hB.res).cell 3
          have f3 := (hB.res).frozen 3
          have g4 := (kN).cell 4
          have r4 := (hB.res).cell 4
          have f4 := (hB.res).frozen 4
          obtain ⟨W9, hW9⟩ : ∃ W, (((((W8).setCell ⟨P + 1, 0, none⟩ (.int .i64 5)).setCell ⟨P + 1, 1, none⟩ (.int .i64 0)).setCell ⟨P + 1, 2, none⟩ (.string ⟨#[]⟩)).setCell ⟨P + 1, 3, none⟩ (.slice none 0 0)).setCell ⟨P + 1, 4, none⟩ (.slice op8 l2.length oc8) = W := ⟨_, rfl⟩
          obtain ⟨k9, ho9⟩ := put5 (hB.res) hW9
          have hb9 := ret_below (hB.below) ho9 (by have := H.out.2.2.1; omega)
          have HL := Lib.hid (And.intro (show LRes s (objP (valP n) (s.drop i)) (fun b => w.heap.size ≤ b ∧ b < W9.heap.size) W9 [.int .i64 5, .int .i64 0, .string ⟨#[]⟩, .slice none 0 0, .slice op8 l2.length oc8] (j4 + 1) 0 from by rw [HQ.out]; exact lo_end hB.size hV8 hrow ho9 hjl HJ.out) (And.intro hb9 (And.intro hW9 k9)))
          clear k9 ho9 hb9 hW9
          go_wp2
          (try rw [HL.out.2.2.1])
          clear g0 g1 g2 g3 g4 r0 r1 r2 r3 r4 f0 f1 f2 f3 f4
          have v0 := HL.out.2.2.2.cell 0
          have v1 := HL.out.2.2.2.cell 1
          have v2 := HL.out.2.2.2.cell 2
          have v3 := HL.out.2.2.2.cell 3
          have v4 := HL.out.2.2.2.cell 4
          (try simp only [Exit.inBlock, Exit.then])
          refine bodyPost_ret (v := .tuple #[.agg #[.int .i64 5, .int .i64 0, .string ⟨#[]⟩, .slice none 0 0, .slice op8 l2.length oc8], .int .i64 ((j4 + 1 : Nat) : Int), .int .i64 0]) ?_ rfl ⟨[.int .i64 5, .int .i64 0, .string ⟨#[]⟩, .slice none 0 0, .slice op8 l2.length oc8], j4 + 1, 0, rfl, HL.out.1, HL.out.2.1⟩
          rw [results_cell_tmp2 rfl]
          go_simp
        | none =>
          have HC4 := Lib.hid hcl
          clear hcl
          (try simp only [Option.isSome_none])
          go_wp2_with fail
          refine (show Calls _ _ _ _ _ from lis_any s [44] K ⟨#[44]⟩ H.out.2.2.2.1 rfl j4 hj4 hs (by decide) _).mono ?_
          rintro e w9 ⟨rfl, hw9⟩
          replace hw9 := hw9.symm
          subst hw9
          cases hcm : isL [44] (s.drop j4) with
          | none =>
            have HQ := Lib.hid (show objP (valP n) (s.drop i) = .error 1 by rw [HM.out, manyF_form HG8.out.2.2 (by rw [← HD4.out]; exact HC4.out) (by rw [← HD4.out]; exact hcm)]; rfl)
            clear hcm
            (try simp only [Option.isSome_none])
            obtain ⟨hB8, op8, oc8, cs8, kN8, hV8, hrow8⟩ := HG8.out.1
            clear hrow8 hV8
            have g0 := (kN8).cell 0
            have r0 := (hB8.res).cell 0
            have f0 := (hB8.res).frozen 0
            have g1 := (kN8).cell 1
            have r1 := (hB8.res).cell 1
            have f1 := (hB8.res).frozen 1
            have g2 := (kN8).cell 2
            have r2 := (hB8.res).cell 2
            have f2 := (hB8.res).frozen 2
            have g3 := (kN8).cell 3
            have r3 := (hB8.res).cell 3
            have f3 := (hB8.res).frozen 3
            have g4 := (kN8).cell 4
            have r4 := (hB8.res).cell 4
            have f4 := (hB8.res).frozen 4
            obtain ⟨W9, hW9⟩ : ∃ W, (((((W8).setCell ⟨P + 1, 0, none⟩ (.int .i64 5)).setCell ⟨P + 1, 1, none⟩ (.int .i64 0)).setCell ⟨P + 1, 2, none⟩ (.string ⟨#[]⟩)).setCell ⟨P + 1, 3, none⟩ (.slice none 0 0)).setCell ⟨P + 1, 4, none⟩ (.slice op8 l2.length oc8) = W := ⟨_, rfl⟩
            obtain ⟨k9, ho9⟩ := put5 (hB8.res) hW9
            have hb9 := ret_below (hB8.below) ho9 (by have := H.out.2.2.1; omega)
            have HL := Lib.hid (And.intro (show LRes s (objP (valP n) (s.drop i)) (fun b => w.heap.size ≤ b ∧ b < W9.heap.size) W9 [.int .i64 5, .int .i64 0, .string ⟨#[]⟩, .slice none 0 0, .slice op8 l2.length oc8] j4 1 from by rw [HQ.out]; exact ⟨⟨_, _, _, _, _, _, _, _, _, rfl⟩, rfl, by decide⟩) (And.intro hb9 (And.intro hW9 k9)))
            clear k9 ho9 hb9 hW9
            go_wp2
            (try rw [HL.out.2.2.1])
            clear g0 g1 g2 g3 g4 r0 r1 r2 r3 r4 f0 f1 f2 f3 f4
            have v0 := HL.out.2.2.2.cell 0
            have v1 := HL.out.2.2.2.cell 1
            have v2 := HL.out.2.2.2.cell 2
            have v3 := HL.out.2.2.2.cell 3
            have v4 := HL.out.2.2.2.cell 4
            (try simp only [Exit.inBlock, Exit.then])
            refine bodyPost_ret (v := .tuple #[.agg #[.int .i64 5, .int .i64 0, .string ⟨#[]⟩, .slice none 0 0, .slice op8 l2.length oc8], .int .i64 j4, .int .i64 1]) ?_ rfl ⟨[.int .i64 5, .int .i64 0, .string ⟨#[]⟩, .slice none 0 0, .slice op8 l2.length oc8], j4, 1, rfl, HL.out.1, HL.out.2.1⟩
            rw [results_cell_tmp2 rfl]
            go_simp
          | some t =>
            obtain ⟨hjl, hjd⟩ := isL_one_drop hj4 hcm
            have HM2 := Lib.hid (show objP (valP n) (s.drop i) = inObj (manyF (valP n) f l2 (blankL t)) by rw [HM.out, manyF_next HG8.out.2.2 (by rw [← HD4.out]; exact HC4.out) (by rw [← HD4.out]; exact hcm)])
            clear hcm
            (try simp only [Option.isSome_some])
            obtain ⟨j5, hj5⟩ : ∃ x, j4 + 1 = x := ⟨_, rfl⟩
            rw [hj5] at hwj hjl hjd
            go_wp2_with fail
            refine (show Calls _ _ _ _ _ from lblank_any s K H.out.2.2.2.1 j5 hjl hs _).mono ?_
            rintro e w9 ⟨j6, rfl, hj6a, hj6, hj6d, hw9⟩
            replace hw9 := hw9.symm
            subst hw9
            have HF := Lib.hid (show objP (valP n) (s.drop i) = inObj (manyF (valP n) f l2 (s.drop j6)) by rw [hj6d, hjd]; exact HM2.out)
            clear hj6d hjd
            go_wp2_with fail
            go_roundg (s.length - j6)
            case rel => exact ⟨j6, f, l2, by omega, rfl, hj6, by omega, by omega, Lib.hid HG8.out.1, HF⟩
            case measure => omega
end Go.Proofs.YtccnfnoonpfdfaaGreatDoor
