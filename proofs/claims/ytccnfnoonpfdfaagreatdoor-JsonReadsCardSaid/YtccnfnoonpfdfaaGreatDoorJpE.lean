/- The law's laid (printed by wip/gen_jpe.py). -/
import Derived.Test.YtccnfnoonpfdfaaGreatDoorJpD
namespace Go.Proofs.YtccnfnoonpfdfaaGreatDoor
open Go.Shelf Go.RowKit Go.Lib

/-- what laid has: its field's block, the row that it lays. -/
structure LaidW (w : World) (P : Nat) (X : List Value) (op : Option Addr) (cnt oc : Nat) (ds : List Value) (wr : World) : Prop where
  size : w.heap.size = P
  below : Below w.heap.size w wr
  blk : Blk wr P 51 X
  own : wr.ownsRow (P + 1) 51 6 (.slice op cnt oc) cnt ds
theorem LaidW.alloc {w wr : World} {P : Nat} {X : List Value} {op : Option Addr} {cnt oc : Nat} {ds : List Value} (h : LaidW w P X op cnt oc ds wr) (b : Obj) : LaidW w P X op cnt oc ds (wr.alloc b) :=
  ⟨h.size, h.below.alloc h.below.size _, h.blk.alloc _, h.own.alloc _⟩
theorem fld_one {s : ByteArray} {y0 y1 : Int} {y2 : ByteArray} {y3 y6 : Option Addr} {y4 y5 y7 y8 : Nat} : ∀ u ∈ [Value.string s, .int .i64 y0, .int .i64 y1, .string y2, .slice y3 y4 y5, .slice y6 y7 y8], u.oneCell' = true := by
  intro u hu
  simp at hu
  rcases hu with rfl | rfl | rfl | rfl | rfl | rfl <;> rfl
theorem LaidW.put {w wr : World} {P : Nat} {X : List Value} {op : Option Addr} {cnt oc : Nat} {ds : List Value} (h : LaidW w P X op cnt oc ds wr) (s : ByteArray) (y0 y1 : Int) (y2 : ByteArray) (y3 y6 : Option Addr) (y4 y5 y7 y8 : Nat) (hn : cnt ≤ 1000000) :
    ∃ p2 cc w', (∀ ty, (Builtin.append_ #[26, 26] ty #[.slice op cnt oc, .slice (some ⟨wr.heap.size, 0, none⟩) 1 1]).run Tryz.prog (wr.alloc (.cells #[.string s, .int .i64 y0, .int .i64 y1, .string y2, .slice y3 y4 y5, .slice y6 y7 y8] 51)) = .ok (.slice p2 (cnt + 1) cc) w') ∧ LaidW w P X p2 (cnt + 1) cc (ds ++ [.string s, .int .i64 y0, .int .i64 y1, .string y2, .slice y3 y4 y5, .slice y6 y7 y8]) w' ∧
      (∀ Q e B, Blk wr Q e B → (∀ k, (Value.slice op cnt oc).ownBlock = some k → k ≠ Q) → Blk w' Q e B) ∧ wr.heap.size ≤ w'.heap.size ∧ (∀ k, (Value.slice p2 (cnt + 1) cc).ownBlock = some k → (Value.slice op cnt oc).ownBlock = some k ∨ wr.heap.size ≤ k) := by
  obtain ⟨inf, hi, hii⟩ := Option.map_eq_some_iff.1 infoF
  simp only [Prod.mk.injEq] at hii
  obtain ⟨i1, i2, i3⟩ := hii
  have hs := h.below.size
  have hnew : Blk (wr.alloc (.cells #[.string s, .int .i64 y0, .int .i64 y1, .string y2, .slice y3 y4 y5, .slice y6 y7 y8] 51)) wr.heap.size 51 [.string s, .int .i64 y0, .int .i64 y1, .string y2, .slice y3 y4 y5, .slice y6 y7 y8] := heap_alloc_new wr _
  have hlt := h.blk.lt
  obtain ⟨v', w', hr, ho, hg, _, hat⟩ := (fun ty => run_append_own_at (P := Tryz.prog) (wr.alloc (.cells #[.string s, .int .i64 y0, .int .i64 y1, .string y2, .slice y3 y4 y5, .slice y6 y7 y8] 51)) (P + 1) 26 ty 51 inf _ 6 96 Tryz.underlying26 hi i1 i2 i3 rfl (by decide) (.slice op cnt oc) cnt ds (h.own.alloc _)
    ⟨wr.heap.size, 0, none⟩ 1 1 [.string s, .int .i64 y0, .int .i64 y1, .string y2, .slice y3 y4 y5, .slice y6 y7 y8] rfl (fun j u hu => by rw [add_at, hnew.cell j]; exact hu) fld_one (by unfold maxLen; omega) (by omega) (by simp; omega)) 0
  obtain ⟨p2, cc, rfl⟩ := slice_of_own ho
  have ho' : Only (fun k => some k = (Value.slice op cnt oc).ownBlock) wr w' := (Only.alloc _ wr _).trans (Only.ofGrown hg (fun k e => e.symm))
  have hol : ∀ k, (Value.slice op cnt oc).ownBlock = some k → P + 1 ≤ k ∧ k < wr.heap.size := fun k hk => h.own.lt k hk
  refine ⟨p2, cc, w', fun ty => hr, ⟨h.size, h.below.trans (ho'.below h.below.size (fun k hk e => by have := (hol k e.symm).1; have := h.size; omega)), h.blk.only ho' (fun e => by have := (hol _ e.symm).1; omega), ho⟩, fun Q e B hQ hk => hQ.only ho' (fun e => hk Q e.symm rfl), ho'.size, fun k hk => ?_⟩
  rcases hat with h2 | h2
  · exact .inl (by rw [← h2]; exact hk)
  · right
    rw [h2] at hk
    injection hk with hk
    simp at hk
    omega
theorem laidGL_flag (n : BL) (v u : V) : ∀ l : List (BL × V), (laidGL n v l).2 = (laidGL n u l).2
  | [] => rfl
  | f :: l => by
    rw [laidGL, laidGL]
    by_cases h : lcmp f.1 n = .gt
    · rw [if_pos h, if_pos h]
    · rw [if_neg h, if_neg h]; exact laidGL_flag n v u l
/-- what stands behind i fields. -/
def LaidC (S T : Nat → Prop) (w : World) (l : List (BL × V)) (nm : BL) (x : List Value) (i : Nat) (pb : Bool) (ds : List Value) : Prop :=
  pb = (laidGL nm .null (l.take i)).2 ∧ ∀ v, VAt T w v x → FsAt (fun b => S b ∨ T b) w (laidGL nm v (l.take i)).1 ds
theorem laidC_start (S T : Nat → Prop) (w : World) (l : List (BL × V)) (nm : BL) (x : List Value) : LaidC S T w l nm x 0 false [] := ⟨rfl, fun _ _ => .nil⟩
theorem laidC_same {S T : Nat → Prop} {w : World} {l : List (BL × V)} {nm : BL} {x : List Value} {i : Nat} {pb : Bool} {ds : List Value} (h : LaidC S T w l nm x i pb ds) (hi : i < l.length) {NX : ByteArray} {c0 c1 c2 c3 c4 : Value} (hx : BA l[i].1 = NX) (hv : VAt S w l[i].2 [c0, c1, c2, c3, c4]) (hg : pb = true ∨ lcmp l[i].1 nm ≠ .gt) :
    LaidC S T w l nm x (i + 1) pb (ds ++ [.string NX, c0, c1, c2, c3, c4]) := by
  have e : ∀ v, laidGL nm v (l.take (i + 1)) = ((laidGL nm v (l.take i)).1 ++ [l[i]], (laidGL nm v (l.take i)).2) := fun v => by
    rw [List.take_succ_eq_append_getElem hi, laidGL_snoc, if_neg]
    rintro ⟨h1, h2⟩
    rcases hg with hg | hg
    · rw [laidGL_flag nm v .null, ← h.1, hg] at h1; cases h1
    · exact hg h2
  refine ⟨by rw [e]; exact h.1, fun v hv2 => ?_⟩
  rw [e, ← hx]
  have hv' : VAt (fun b => S b ∨ T b) w l[i].2 [c0, c1, c2, c3, c4] := hv.keep (fun b hb => .inl hb) (fun _ _ _ _ h => h)
  exact FsAt.snoc (n := l[i].1) (v := l[i].2) hv' (h.2 v hv2)
theorem laidC_both {S T : Nat → Prop} {w : World} {l : List (BL × V)} {nm : BL} {x0 x1 x2 x3 x4 : Value} {i : Nat} {ds : List Value} (h : LaidC S T w l nm [x0, x1, x2, x3, x4] i false ds) (hi : i < l.length) {NX NM : ByteArray} {c0 c1 c2 c3 c4 : Value} (hx : BA l[i].1 = NX) (hm : BA nm = NM) (hv : VAt S w l[i].2 [c0, c1, c2, c3, c4]) (hg : lcmp l[i].1 nm = .gt) :
    LaidC S T w l nm [x0, x1, x2, x3, x4] (i + 1) true ((ds ++ [.string NM, x0, x1, x2, x3, x4]) ++ [.string NX, c0, c1, c2, c3, c4]) := by
  have e : ∀ v, laidGL nm v (l.take (i + 1)) = ((laidGL nm v (l.take i)).1 ++ [(nm, v), l[i]], true) := fun v => by
    rw [List.take_succ_eq_append_getElem hi, laidGL_snoc, if_pos ⟨by rw [laidGL_flag nm v .null, ← h.1], hg⟩]
  refine ⟨by rw [e], fun v hv2 => ?_⟩
  rw [e, ← hx, ← hm]
  have hv' : VAt (fun b => S b ∨ T b) w l[i].2 [c0, c1, c2, c3, c4] := hv.keep (fun b hb => .inl hb) (fun _ _ _ _ h => h)
  have hw' : VAt (fun b => S b ∨ T b) w v [x0, x1, x2, x3, x4] := hv2.keep (fun b hb => .inr hb) (fun _ _ _ _ h => h)
  have := FsAt.snoc (n := l[i].1) (v := l[i].2) hv' (FsAt.snoc (n := nm) (v := v) hw' (h.2 v hv2))
  simpa using this
/-- what laid comes to. -/
def LaidPost (S T : Nat → Prop) (l : List (BL × V)) (nm : BL) (x : List Value) (w : World) (e : Ending) (w' : World) : Prop := ∃ p n c, e = .returned (.slice p n c) ∧ Below w.heap.size w w' ∧
  (∀ v, VAt T w v x → VAt (fun b => S b ∨ T b ∨ (w.heap.size ≤ b ∧ b < w'.heap.size)) w' (.obj (setF l nm v)) [.int .i64 5, .int .i64 0, .string ⟨#[]⟩, .slice none 0 0, .slice p n c]) ∧ (∀ v, VAt T w v x → (setF l nm v).length = n)
theorem laid_end {S T : Nat → Prop} {l : List (BL × V)} {nm : BL} {x X : List Value} {w w' : World} {P : Nat} {op : Option Addr} {cnt oc : Nat} {ds : List Value} (hl : l.length ≤ 1000000) (hcnt : cnt ≤ l.length + 1) (h : LaidW w P X op cnt oc ds w')
    (hd : ∀ v, VAt T w v x → FsAt (fun b => S b ∨ T b) w (setF l nm v) ds) : LaidPost S T l nm x w (.returned (.slice op cnt oc)) w' := by
  refine ⟨op, cnt, oc, rfl, h.below, fun v hv => ?_, fun v hv => ?_⟩
  · have h1 := hd v hv
    have h2 := h1.lenJ
    have h3 : ds.length = cnt * 6 := h.own.1
    have h4 : (setF l nm v).length = cnt := by omega
    have hlt := h.own.lt
    refine VAt.obj _ ds _ ((h1.later h.below).keep (fun b hb => by rcases hb with hb | hb; exact .inl hb; exact .inr (.inl hb)) (fun _ _ _ _ h => h)) ?_
    rw [h4]
    exact row_of_own h.own (fun k hk => .inr (.inr ⟨by have := (hlt k hk).1; have := h.size; omega, (hlt k hk).2⟩)) (by omega)
  · have h2 := (hd v hv).lenJ
    have h3 : ds.length = cnt * 6 := h.own.1
    omega
set_option maxHeartbeats 8000000 in
set_option maxRecDepth 100000 in
theorem laid_any (S T : Nat → Prop) (l : List (BL × V)) (nm : BL) (cs : List Value) (sp : Option Addr) (sn sc : Nat) (x0 x1 : Int) (x2 : ByteArray) (x3 x6 : Option Addr) (x4 x5 x7 x8 : Nat) (NM : ByteArray) (hNM : BA nm = NM) (w : World) (hV : FsAt S w l cs) (hr : RowAt S w (.slice sp sn sc) l.length cs) (hl : l.length ≤ 1000000) :
    Calls Tryz.prog 102 #[.slice sp sn sc, .agg #[.string NM, .int .i64 x0, .int .i64 x1, .string x2, .slice x3 x4 x5, .slice x6 x7 x8]] w (LaidPost S T l nm [.int .i64 x0, .int .i64 x1, .string x2, .slice x3 x4 x5, .slice x6 x7 x8] w) := by
  obtain ⟨N1, hN1⟩ : ∃ N, l.length = N := ⟨_, rfl⟩
  have hform : ∃ p cap, (Value.slice sp sn sc) = .slice p N1 cap ∧ (0 < N1 → ∃ b, p = some ⟨b, 0, none⟩ ∧ ∀ k u, cs[k]? = some u → w.cell? ⟨b, k, none⟩ = some u) := by
    rcases hr.2 with ⟨h0, h1⟩ | ⟨b, cap, h1, _, h2⟩
    · rw [h1]; exact ⟨none, 0, by rw [← hN1, h0], fun h => by omega⟩
    · rw [h1, hN1]; exact ⟨_, _, rfl, fun _ => ⟨b, rfl, h2⟩⟩
  obtain ⟨p, cap, hsl, hrow⟩ := hform
  rw [hsl]
  rw [hN1] at hl
  obtain ⟨P, hP⟩ : ∃ P, w.heap.size = P := ⟨_, rfl⟩
  obtain ⟨W0, hW0⟩ : ∃ W, w.alloc (.cells #[.string NM, .int .i64 x0, .int .i64 x1, .string x2, .slice x3 x4 x5, .slice x6 x7 x8] 51) = W := ⟨_, rfl⟩
  have hb0 : Below w.heap.size w W0 := by rw [← hW0]; exact (Below.refl _ w).alloc (Nat.le_refl _) _
  have k0 : Blk W0 P 51 [.string NM, .int .i64 x0, .int .i64 x1, .string x2, .slice x3 x4 x5, .slice x6 x7 x8] := by rw [← hW0, ← hP]; exact heap_alloc_new w _
  have h0 : LaidW w P [.string NM, .int .i64 x0, .int .i64 x1, .string x2, .slice x3 x4 x5, .slice x6 x7 x8] none 0 0 [] W0 := ⟨hP, hb0, k0, ⟨rfl, .inl ⟨rfl, rfl⟩⟩⟩
  have HV := Lib.hid (And.intro hV (And.intro hrow (And.intro hNM hN1)))
  have H0 := Lib.hid (And.intro hW0 (And.intro h0 hP))
  clear hV hr hrow hNM hW0 h0 hP hb0 k0 hN1 hsl
  go_enter Tryz.func102, Tryz.ntmps102
  go_wp2_with fail
  rw [H0.out.1]
  (try rw [H0.out.2.2])
  go_loopg [5, 6, 11] N1 (fun gk ov pv iv wr => ∃ (i : Nat) (op : Option Addr) (cnt oc : Nat) (pb : Bool), gk + i = N1 ∧ ov = .slice op cnt oc ∧ pv = .bool pb ∧ iv = .int .i64 i ∧ cnt ≤ i + (if pb then 1 else 0) ∧ Hid (∃ ds, LaidW w P [.string NM, .int .i64 x0, .int .i64 x1, .string x2, .slice x3 x4 x5, .slice x6 x7 x8] op cnt oc ds wr ∧ LaidC S T w l nm [.int .i64 x0, .int .i64 x1, .string x2, .slice x3 x4 x5, .slice x6 x7 x8] i pb ds))
  case atStart => exact ⟨0, none, 0, 0, false, by omega, rfl, rfl, rfl, by simp, Lib.hid ⟨[], H0.out.2.1, laidC_start ..⟩⟩
  case round =>
    obtain ⟨i, op, cnt, oc, pb, hg, rfl, rfl, rfl, hcnt, HS⟩ := hrel
    obtain ⟨ds, hLW, hLC⟩ := HS.out
    by_cases hi : i < N1
    · have hiz : (i : Int) < (N1 : Int) := by omega
      have hwK : IntKind.i64.wrap ((i : Int) + 1) = ((i + 1 : Nat) : Int) := by rw [IntWalk.i64_in _ (by omega)]; omega
      have hx1 : i < l.length := by rw [HV.out.2.2.2]; exact hi
      obtain ⟨b, hpe, hrb⟩ := HV.out.2.1 (by omega)
      subst hpe
      obtain ⟨d0, d1, d2, d3, d4, hx, e5, e0, e1, e2, e3, e4⟩ := HV.out.1.get i hx1
      obtain ⟨q0, q1, q2, q3, q4, q5, q6, q7, q8, hq⟩ := hx.shape
      simp only [List.cons.injEq, and_true] at hq
      obtain ⟨rfl, rfl, rfl, rfl, rfl⟩ := hq
      obtain ⟨NX, hNX⟩ : ∃ n, BA l[i].1 = n := ⟨_, rfl⟩
      rw [hNX] at e5
      have a5 := bcell hLW.below (hrb _ _ e5)
      have a0 := bcell hLW.below (hrb _ _ e0)
      have a1 := bcell hLW.below (hrb _ _ e1)
      have a2 := bcell hLW.below (hrb _ _ e2)
      have a3 := bcell hLW.below (hrb _ _ e3)
      have a4 := bcell hLW.below (hrb _ _ e4)
      have hless := less_gt l[i].1 nm
      rw [hNX, HV.out.2.2.1] at hless
      obtain ⟨Z, hZ⟩ : ∃ Z, wr.heap.size = Z := ⟨_, rfl⟩
      obtain ⟨wa, hwa⟩ : ∃ W, wr.alloc (.cells #[.string NX, .int .i64 q0, .int .i64 q1, .string q2, .slice q3 q4 q5, .slice q6 q7 q8] 51) = W := ⟨_, rfl⟩
      have kZ : Blk wa Z 51 [.string NX, .int .i64 q0, .int .i64 q1, .string q2, .slice q3 q4 q5, .slice q6 q7 q8] := by rw [← hwa, ← hZ]; exact heap_alloc_new wr _
      have hLA := hLW.alloc (.cells #[.string NX, .int .i64 q0, .int .i64 q1, .string q2, .slice q3 q4 q5, .slice q6 q7 q8] 51)
      rw [hwa] at hLA
      have howZ : ∀ k, (Value.slice op cnt oc).ownBlock = some k → k ≠ Z := fun k hk => by have := (hLW.own.lt k hk).2; omega
      have hwas : wa.heap.size = Z + 1 := by rw [← hwa, ← hZ]; simp
      have z0 := kZ.cell 0
      have z1 := kZ.cell 1
      have z2 := kZ.cell 2
      have z3 := kZ.cell 3
      have z4 := kZ.cell 4
      have z5 := kZ.cell 5
      have y0 := hLA.blk.cell 0
      have y1 := hLA.blk.cell 1
      have y2 := hLA.blk.cell 2
      have y3 := hLA.blk.cell 3
      have y4 := hLA.blk.cell 4
      have y5 := hLA.blk.cell 5
      have HW := Lib.hid (And.intro hwa (And.intro hLA (And.intro kZ (And.intro howZ (And.intro hwas hZ)))))
      have HN := Lib.hid (And.intro hNX (And.intro hx hLC))
      clear HS hLW hLC hrb hx e5 e0 e1 e2 e3 e4 hNX kZ hLA hwa howZ hwas hZ
      cases pb with
      | true =>
        have hzb : cnt ≤ i + 1 := by simpa using hcnt
        clear hcnt hless
        go_upto_region 6 with fail
        rw [HW.out.1]
        (try rw [HW.out.2.2.2.2.2])
        obtain ⟨p2, cc, w7, hrun, hL7, hk7, hs7, hat7⟩ := HW.out.2.1.put NX q0 q1 q2 q3 q6 q4 q5 q7 q8 (by omega)
        have HR := Lib.hid hrun
        have H7 := Lib.hid (And.intro hL7 (And.intro hk7 (And.intro hs7 hat7)))
        clear hrun hL7 hk7 hs7 hat7
        go_wp2_with (first | (at_builtin; refine wpList_append_run rfl (.tmp 28) (.tmp 30) 26 rfl (.slice op cnt oc) (.slice (some ⟨wa.heap.size, 0, none⟩) 1 1) rfl rfl (.slice p2 (cnt + 1) cc) w7 HR.out ?_) | fail)
        go_roundg (gk - 1)
        case rel => exact ⟨i + 1, p2, cnt + 1, cc, true, by omega, rfl, rfl, rfl, by simp; omega, Lib.hid ⟨_, H7.out.1, laidC_same HN.out.2.2 (by rw [HV.out.2.2.2]; exact hi) HN.out.1 HN.out.2.1 (.inl rfl)⟩⟩
        case measure => omega
      | false =>
        have hzb : cnt ≤ i := by simpa using hcnt
        clear hcnt
        have hlt := lcmp_less l[i].1 nm
        have hbl : Op.bytesLess NX.toList NM.toList = (lcmp l[i].1 nm == .lt) := by rw [← HN.out.1, ← HV.out.2.2.1, Lib.toList_data, Lib.toList_data]; exact hlt
        clear hlt
        cases hc : lcmp l[i].1 nm with
        | lt =>
          rw [hc] at hbl
          have h2 : Op.bytesLess NX.toList NM.toList = true := hbl
          have HG := Lib.hid (show ¬ lcmp l[i].1 nm = .gt by rw [hc]; decide)
          clear hbl hc hless
          go_upto_region 6 with fail
          rw [HW.out.1]
          (try rw [HW.out.2.2.2.2.2])
          obtain ⟨p2, cc, w7, hrun, hL7, hk7, hs7, hat7⟩ := HW.out.2.1.put NX q0 q1 q2 q3 q6 q4 q5 q7 q8 (by omega)
          have HR := Lib.hid hrun
          have H7 := Lib.hid (And.intro hL7 (And.intro hk7 (And.intro hs7 hat7)))
          clear hrun hL7 hk7 hs7 hat7
          go_wp2_with (first | (at_builtin; refine wpList_append_run rfl (.tmp 28) (.tmp 30) 26 rfl (.slice op cnt oc) (.slice (some ⟨wa.heap.size, 0, none⟩) 1 1) rfl rfl (.slice p2 (cnt + 1) cc) w7 HR.out ?_) | fail)
          go_roundg (gk - 1)
          case rel => exact ⟨i + 1, p2, cnt + 1, cc, false, by omega, rfl, rfl, rfl, by simp; omega, Lib.hid ⟨_, H7.out.1, laidC_same HN.out.2.2 (by rw [HV.out.2.2.2]; exact hi) HN.out.1 HN.out.2.1 (.inr HG.out)⟩⟩
          case measure => omega
        | eq =>
          rw [hc] at hbl
          have h2 : Op.bytesLess NX.toList NM.toList = false := hbl
          have h3 : (NX.toList == NM.toList) = true := by rw [← HN.out.1, ← HV.out.2.2.1, lcmp_eq hc]; simp
          have HG := Lib.hid (show ¬ lcmp l[i].1 nm = .gt by rw [hc]; decide)
          clear hbl hc hless
          go_upto_region 6 with fail
          rw [HW.out.1]
          (try rw [HW.out.2.2.2.2.2])
          obtain ⟨p2, cc, w7, hrun, hL7, hk7, hs7, hat7⟩ := HW.out.2.1.put NX q0 q1 q2 q3 q6 q4 q5 q7 q8 (by omega)
          have HR := Lib.hid hrun
          have H7 := Lib.hid (And.intro hL7 (And.intro hk7 (And.intro hs7 hat7)))
          clear hrun hL7 hk7 hs7 hat7
          go_wp2_with (first | (at_builtin; refine wpList_append_run rfl (.tmp 28) (.tmp 30) 26 rfl (.slice op cnt oc) (.slice (some ⟨wa.heap.size, 0, none⟩) 1 1) rfl rfl (.slice p2 (cnt + 1) cc) w7 HR.out ?_) | fail)
          go_roundg (gk - 1)
          case rel => exact ⟨i + 1, p2, cnt + 1, cc, false, by omega, rfl, rfl, rfl, by simp; omega, Lib.hid ⟨_, H7.out.1, laidC_same HN.out.2.2 (by rw [HV.out.2.2.2]; exact hi) HN.out.1 HN.out.2.1 (.inr HG.out)⟩⟩
          case measure => omega
        | gt =>
          rw [hc] at hbl
          have h2 : Op.bytesLess NX.toList NM.toList = false := hbl
          have h4 : ¬ NX.toList = NM.toList := fun e => by
            rw [← HN.out.1, ← HV.out.2.2.1, Lib.toList_data, Lib.toList_data] at e
            have e2 : l[i].1 = nm := e
            rw [e2, lcmp_refl] at hc; cases hc
          have h3 : (NX.toList == NM.toList) = false := by simpa using h4
          have HG := Lib.hid hc
          clear hbl hc hless
          go_upto_region 6 with fail
          rw [HW.out.1]
          (try rw [HW.out.2.2.2.2.2])
          obtain ⟨p1, c1, w6, hrun1, hL6, hk6, hs6, hat6⟩ := HW.out.2.1.put NM x0 x1 x2 x3 x6 x4 x5 x7 x8 (by omega)
          have HR1 := Lib.hid hrun1
          have kZ6 := hk6 Z _ _ HW.out.2.2.1 HW.out.2.2.2.1
          have H6 := Lib.hid (And.intro hL6 kZ6)
          clear hrun1 hL6 hk6 hs6 hat6 kZ6
          go_upto_region 9 with (at_builtin; refine wpList_append_run rfl (.tmp 24) (.tmp 26) 26 rfl (.slice op cnt oc) (.slice (some ⟨wa.heap.size, 0, none⟩) 1 1) rfl rfl (.slice p1 (cnt + 1) c1) w6 HR1.out ?_)
          clear z0 z1 z2 z3 z4 z5 y0 y1 y2 y3 y4 y5
          have z0 := H6.out.2.cell 0
          have z1 := H6.out.2.cell 1
          have z2 := H6.out.2.cell 2
          have z3 := H6.out.2.cell 3
          have z4 := H6.out.2.cell 4
          have z5 := H6.out.2.cell 5
          obtain ⟨p2, cc, w7, hrun, hL7, hk7, hs7, hat7⟩ := H6.out.1.put NX q0 q1 q2 q3 q6 q4 q5 q7 q8 (by omega)
          have HR := Lib.hid hrun
          have H7 := Lib.hid hL7
          clear hrun hL7 hk7 hs7 hat7
          go_wp2_with (at_builtin; refine wpList_append_run rfl (.tmp 28) (.tmp 30) 26 rfl (.slice p1 (cnt + 1) c1) (.slice (some ⟨w6.heap.size, 0, none⟩) 1 1) rfl rfl (.slice p2 (cnt + 1 + 1) cc) w7 HR.out ?_)
          go_roundg (gk - 1)
          case rel => exact ⟨i + 1, p2, cnt + 1 + 1, cc, true, by omega, rfl, rfl, rfl, by simp; omega, Lib.hid ⟨_, H7.out, laidC_both HN.out.2.2 (by rw [HV.out.2.2.2]; exact hi) HN.out.1 HV.out.2.2.1 HN.out.2.1 HG.out⟩⟩
          case measure => omega
    · have hiz : ¬ (i : Int) < (N1 : Int) := by omega
      have htk : l.take i = l := List.take_of_length_le (by rw [HV.out.2.2.2]; omega)
      have HL := Lib.hid (And.intro hLW hLC)
      have HT := Lib.hid htk
      clear htk HS
      cases pb with
      | true =>
        have hcn : cnt ≤ N1 + 1 := by have h : cnt ≤ i + 1 := by simpa using hcnt
                                      omega
        clear hcnt
        have HF := Lib.hid (show LaidPost S T l nm [.int .i64 x0, .int .i64 x1, .string x2, .slice x3 x4 x5, .slice x6 x7 x8] w (.returned (.slice op cnt oc)) wr from laid_end (by rw [HV.out.2.2.2]; exact hl) (by rw [HV.out.2.2.2]; exact hcn) HL.out.1 (fun v hv => by
          have h := HL.out.2.2 v hv
          have h2 := HL.out.2.1
          rw [HT.out] at h h2
          rw [setF_laid, laidGL_flag nm v .null, ← h2, if_pos rfl]
          exact h))
        clear hLW hLC
        go_wp2
        go_ret
        exact HF.out
      | false =>
        have hcn : cnt ≤ N1 := by have h : cnt ≤ i := by simpa using hcnt
                                  omega
        clear hcnt
        obtain ⟨p2, cc, w7, hrun, hL7, hk7, hs7, hat7⟩ := hLW.put NM x0 x1 x2 x3 x6 x4 x5 x7 x8 (by omega)
        have HR := Lib.hid hrun
        have HF := Lib.hid (show LaidPost S T l nm [.int .i64 x0, .int .i64 x1, .string x2, .slice x3 x4 x5, .slice x6 x7 x8] w (.returned (.slice p2 (cnt + 1) cc)) w7 from laid_end (by rw [HV.out.2.2.2]; exact hl) (by rw [HV.out.2.2.2]; omega) hL7 (fun v hv => by
          have h := HL.out.2.2 v hv
          have h2 := HL.out.2.1
          rw [HT.out] at h h2
          rw [setF_laid, laidGL_flag nm v .null, ← h2, if_neg (by decide), ← HV.out.2.2.1]
          exact FsAt.snoc (n := nm) (v := v) (hv.keep (fun b hb => .inr hb) (fun _ _ _ _ h => h)) h))
        have y0 := hLW.blk.cell 0
        have y1 := hLW.blk.cell 1
        have y2 := hLW.blk.cell 2
        have y3 := hLW.blk.cell 3
        have y4 := hLW.blk.cell 4
        have y5 := hLW.blk.cell 5
        clear hrun hL7 hk7 hs7 hat7 hLW hLC
        go_wp2_with (at_builtin; refine wpList_append_run rfl (.tmp 35) (.tmp 37) 26 rfl (.slice op cnt oc) (.slice (some ⟨wr.heap.size, 0, none⟩) 1 1) rfl rfl (.slice p2 (cnt + 1) cc) w7 HR.out ?_)
        go_ret
        exact HF.out
end Go.Proofs.YtccnfnoonpfdfaaGreatDoor
