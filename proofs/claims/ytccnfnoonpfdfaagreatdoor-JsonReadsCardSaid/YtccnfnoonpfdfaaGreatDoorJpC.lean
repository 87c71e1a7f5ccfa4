/- The law's number (printed by wip/gen_jpc.py). -/
import Derived.Test.YtccnfnoonpfdfaaGreatDoorJpA
namespace Go.Proofs.YtccnfnoonpfdfaaGreatDoor
open Go.Shelf Go.RowKit Go.Lib

/-- what the law's loop over digits has passed. -/
def DgT (s : BL) (b j : Nat) : Prop := ∃ p, s.drop b = p ++ s.drop j ∧ p.length + b = j ∧ j ≤ s.length ∧ (∀ c ∈ p, isDig c = true) ∧ (1 < p.length → s[b]? ≠ some 48)
theorem DgT.start {s : BL} {b : Nat} (h : b ≤ s.length) : DgT s b b := ⟨[], rfl, by simp, h, fun c h => by simp at h, fun h => by simp at h⟩
theorem DgT.step {s : BL} {b j : Nat} {c : UInt8} (h : DgT s b j) (hc : s[j]? = some c) (hd : isDig c = true) (hb : j = b ∨ s[b]? ≠ some 48) : DgT s b (j + 1) := by
  obtain ⟨p, h1, h2, h3, h4, h5⟩ := h
  obtain ⟨hj, he⟩ := List.getElem?_eq_some_iff.1 hc
  refine ⟨p ++ [c], ?_, by simp; omega, hj, ?_, ?_⟩
  · rw [h1, List.drop_eq_getElem_cons hj, he]; simp
  · intro x hx
    rcases List.mem_append.1 hx with hx | hx
    · exact h4 x hx
    · rw [List.mem_singleton] at hx; rw [hx]; exact hd
  · intro hl
    rcases hb with hb | hb
    · rw [List.length_append, List.length_singleton] at hl; omega
    · exact hb
theorem DgT.done {s : BL} {b j : Nat} (h : DgT s b j) (hx : s.length ≤ j ∨ (∃ c, s[j]? = some c ∧ isDig c = false) ∨ (b < j ∧ s[b]? = some 48)) : takeN (s.drop b) = (s.drop b).take (j - b) ∧ (takeN (s.drop b)).length + b = j := by
  obtain ⟨p, h1, h2, h3, h4, h5⟩ := h
  have key : takeN (s.drop b) = p := by
    cases p with
    | nil =>
      rw [List.nil_append] at h1
      have hjb : j = b := by simpa using h2.symm
      subst hjb
      rcases hx with hx | ⟨c, hc, hd⟩ | hx
      · rw [List.drop_eq_nil_of_le hx]; rfl
      · obtain ⟨hj, he⟩ := List.getElem?_eq_some_iff.1 hc
        rw [List.drop_eq_getElem_cons hj, he]
        unfold takeN
        simp only []
        rw [if_neg (fun e => by subst e; exact absurd hd (by decide)), digs_cons_no hd]
      · exact absurd hx.1 (Nat.lt_irrefl _)
    | cons a p =>
      have hsb : s[b]? = some a := by
        have h := congrArg (fun l => l[0]?) h1
        simpa using h
      by_cases ha : a = 48
      · have hp : p = [] := by
          cases p with
          | nil => rfl
          | cons x p => exact absurd (by rw [hsb, ha]) (h5 (by simp))
        subst ha hp
        rw [h1]
        rfl
      · have hd : digsL (s.drop j) = [] := by
          rcases hx with hx | ⟨c, hc, hd⟩ | hx
          · rw [List.drop_eq_nil_of_le hx]; rfl
          · obtain ⟨hj, he⟩ := List.getElem?_eq_some_iff.1 hc
            rw [List.drop_eq_getElem_cons hj, he, digs_cons_no hd]
          · exact absurd (Option.some.inj (hsb.symm.trans hx.2)) ha
        rw [h1, List.cons_append]
        unfold takeN
        simp only []
        rw [if_neg ha]
        exact digs_app' (a :: p) (s.drop j) h4 hd
  refine ⟨?_, by rw [key]; exact h2⟩
  rw [key, h1]
  have hl : j - b = p.length := by omega
  rw [hl, List.take_left']
  rfl
/-- what the law's reader gives: a value and the place behind it, or a code. -/
def LRes (s : BL) (r : Res V) (S : Nat → Prop) (w : World) (c : List Value) (j k : Nat) : Prop :=
  (∃ q0 q1 q2 q3 q4 q5 q6 q7 q8, c = [.int .i64 q0, .int .i64 q1, .string q2, .slice q3 q4 q5, .slice q6 q7 q8]) ∧
  match r with
  | .ok p => k = 0 ∧ j ≤ s.length ∧ s.drop j = p.2 ∧ VAt S w p.1 c
  | .error e => k = e ∧ 0 < k

theorem numOf_le (p r : BL) : numOf p ≤ numOf (p ++ r) := by
  unfold numOf
  rw [List.foldl_append]
  exact numOf_from r _
theorem numOf_step {l : BL} {k : Nat} {c : UInt8} (hc : l[k]? = some c) : numOf (l.take (k + 1)) = numOf (l.take k) * 10 + (c.toNat - 48) := by
  obtain ⟨h, he⟩ := List.getElem?_eq_some_iff.1 hc
  rw [List.take_succ_eq_append_getElem h, numOf_snoc, he]
theorem results_cell_tmp2 {fn : Func} {p u v : Tmp} {ty : TypeId} (h : fn.results = #[.cell p ty, .tmp u, .tmp v]) (tmps : Array Value) (P : Program) (w : World) :
    (results fn tmps).run P w =
      ((asAddr (tmps.getD p undef)).run P w).andThen fun a w₁ => ((loadVar ty a).run P w₁).andThen fun x w₂ => .ok (.tuple #[x, tmps.getD u undef, tmps.getD v undef]) w₂ := by
  simp only [results, h]
  simp [Sem.run_bind, Result.andThen]
theorem set5 {w w1 : World} {P : Nat} {a0 a1 a2 a3 a4 : Value} (kz : Blk w1 P 28 [a0, a1, a2, a3, a4]) (hb : Below w.heap.size w w1) (hP : w.heap.size = P) (x0 x1 x2 x3 x4 : Value) :
    Blk (((((w1.setCell ⟨P, 0, none⟩ x0).setCell ⟨P, 1, none⟩ x1).setCell ⟨P, 2, none⟩ x2).setCell ⟨P, 3, none⟩ x3).setCell ⟨P, 4, none⟩ x4) P 28 [x0, x1, x2, x3, x4] ∧
    Below w.heap.size w (((((w1.setCell ⟨P, 0, none⟩ x0).setCell ⟨P, 1, none⟩ x1).setCell ⟨P, 2, none⟩ x2).setCell ⟨P, 3, none⟩ x3).setCell ⟨P, 4, none⟩ x4) := by
  refine ⟨((((kz.set 0 x0).set 1 x1).set 2 x2).set 3 x3).set 4 x4, ?_⟩
  have ho := ((((Only.set1 w1 P 0 x0).trans (Only.set1 _ P 1 x1)).trans (Only.set1 _ P 2 x2)).trans (Only.set1 _ P 3 x3)).trans (Only.set1 _ P 4 x4)
  exact hb.trans (ho.below hb.size (fun k hk e => by have e2 : k = P := e; omega))
theorem isDig_dec (c : UInt8) : isDig c = (decide ((48 : Int) ≤ (c.toNat : Int)) && decide ((c.toNat : Int) ≤ 57)) := by
  unfold isDig
  congr 1 <;> exact decide_eq_decide.2 (by omega)
set_option maxHeartbeats 8000000 in
set_option maxRecDepth 100000 in
theorem lnum_any (s : BL) (K : ByteArray) (hK : BA s = K) (i b : Nat) (mb : Bool) (hi : i ≤ s.length) (hs : s.length ≤ 4096) (hmb : (isL [45] (s.drop i)).isSome = mb) (hb : b = if mb then i + 1 else i) (hbl : b ≤ s.length) (w : World) :
    Calls Tryz.prog 70 #[.string K, .int .i64 i] w fun e w' => ∃ (c : List Value) (j k : Nat), e = .returned (.tuple #[.agg c.toArray, .int .i64 j, .int .i64 k]) ∧ LRes s (numP mb (s.drop b)) (fun _ => True) w' c j k ∧ Below w.heap.size w w' := by
  have hN : K.size = s.length := by rw [← hK, ba_size]
  obtain ⟨P, hP⟩ : ∃ P, w.heap.size = P := ⟨_, rfl⟩
  obtain ⟨W1, hW1⟩ : ∃ W, w.alloc (.cells #[.int .i64 0, .int .i64 0, .string ⟨#[]⟩, .slice none 0 0, .slice none 0 0] 28) = W := ⟨_, rfl⟩
  have hk1 : Blk W1 P 28 [.int .i64 0, .int .i64 0, .string ⟨#[]⟩, .slice none 0 0, .slice none 0 0] := by rw [← hW1, ← hP]; exact heap_alloc_new w _
  have hb1 : Below w.heap.size w W1 := by rw [← hW1]; exact (Below.refl _ w).alloc (Nat.le_refl _) _
  have his := lis_any s [45] K ⟨#[45]⟩ hK rfl i hi hs (by decide) W1
  rw [hmb] at his
  have hg : ∀ j (h : j < K.size), s[j]? = some K[j] := fun j h => ba_get hK j h
  have H := Lib.hid (And.intro hW1 (And.intro hP (And.intro his (And.intro hk1 (And.intro hb1 hg)))))
  have HB := Lib.hid (And.intro hb hmb)
  clear hW1 hP his hk1 hb1 hmb hK hg
  go_enter Tryz.func70, Tryz.ntmps70
  go_wp2_with fail
  rw [H.out.1]
  (try rw [H.out.2.1])
  refine (show Calls _ _ _ _ _ from H.out.2.2.1).mono ?_
  rintro e w1 ⟨rfl, rfl⟩
  have hwi : IntKind.i64.wrap ((i : Int) + 1) = ((i + 1 : Nat) : Int) := by rw [IntWalk.i64_in _ (by omega)]; omega
  cases mb with
  | true =>
    have hbi : b = i + 1 := HB.out.1
    rw [← hbi] at hwi
    clear hb
    go_upto_region 5 with fail
    have hbz : (i : Int) + 1 = (b : Int) := by omega
    rw [hbz]
    have HBI := Lib.hid hbi
    clear hbi hbz
    clear hwi
    go_upto_block 0 with fail
    go_cut [1] from 21 to 49 (fun v wx => ∃ j : Nat, v = .int .i64 j ∧ Hid (takeN (s.drop b) = (s.drop b).take (j - b) ∧ (takeN (s.drop b)).length + b = j ∧ j ≤ s.length) ∧ wx = w1)
    case first =>
      go_wp2_with fail
      go_loopg [1] (s.length - b) (fun gk iv wr => ∃ (j : Nat), gk + j = s.length ∧ iv = .int .i64 j ∧ b ≤ j ∧ Hid (DgT s b j) ∧ wr = w1)
      case atStart => exact ⟨b, by omega, rfl, Nat.le_refl _, Lib.hid (DgT.start hbl), rfl⟩
      case round =>
        obtain ⟨j, hg, rfl, hbj, HD, rfl⟩ := hrel
        by_cases hj : j < s.length
        · have hjz : (j : Int) < (K.size : Int) := by omega
          have hjz2 : (j : Int) < (s.length : Int) := by omega
          have hz1 : decide ((j : Int) < (K.size : Int)) = true := by simpa using hjz
          have hwK : IntKind.i64.wrap ((j : Int) + 1) = ((j + 1 : Nat) : Int) := by rw [IntWalk.i64_in _ (by omega)]; omega
          have hjK : j < K.size := by omega
          have hbK : b < K.size := by omega
          have hbz3 : (b : Int) < (K.size : Int) := by omega
          have hbz4 : (b : Int) < (s.length : Int) := by omega
          obtain ⟨c, hc⟩ : ∃ c, K[j] = c := ⟨_, rfl⟩
          have hcs : s[j]? = some c := by rw [← hc]; exact H.out.2.2.2.2.2 j hjK
          have hdg := isDig_dec c
          obtain ⟨x1, hx1⟩ : ∃ x, decide ((48 : Int) ≤ (c.toNat : Int)) = x := ⟨_, rfl⟩
          obtain ⟨x2, hx2⟩ : ∃ x, decide ((c.toNat : Int) ≤ 57) = x := ⟨_, rfl⟩
          rw [hx1, hx2] at hdg
          have HS := Lib.hid (And.intro hdg hcs)
          clear hdg hcs
          cases x1 with
          | false =>
            have HX := Lib.hid (HD.out.done (.inr (.inl ⟨c, HS.out.2, HS.out.1.trans rfl⟩)))
            go_wp2
            go_meet
            exact ⟨j, rfl, Lib.hid ⟨HX.out.1, HX.out.2, by omega⟩, rfl⟩
          | true =>
            cases x2 with
            | false =>
              have HX := Lib.hid (HD.out.done (.inr (.inl ⟨c, HS.out.2, HS.out.1.trans rfl⟩)))
              go_wp2
              go_meet
              exact ⟨j, rfl, Lib.hid ⟨HX.out.1, HX.out.2, by omega⟩, rfl⟩
            | true =>
              by_cases hjb : j = b
              · have hjbz : (j : Int) = (b : Int) := by omega
                have hjbb : ((j : Int) == (b : Int)) = true := beq_iff_eq.2 hjbz
                have HJ := Lib.hid hjb
                clear hjb hjbz
                have HX := Lib.hid (HD.out.step HS.out.2 (HS.out.1.trans rfl) (.inl HJ.out))
                go_wp2
                go_roundg (gk - 1)
                case rel => exact ⟨j + 1, by omega, rfl, by omega, HX, rfl⟩
                case measure => omega
              · have hjbb : ((j : Int) == (b : Int)) = false := beq_eq_false_iff_ne.2 (by omega)
                have HJ := Lib.hid hjb
                clear hjb
                obtain ⟨c0, hc0⟩ : ∃ c, K[b] = c := ⟨_, rfl⟩
                have hcs0 : s[b]? = some c0 := by rw [← hc0]; exact H.out.2.2.2.2.2 b hbK
                obtain ⟨x4, hx4⟩ : ∃ x, (c0 == 48) = x := ⟨_, rfl⟩
                have hx5 : (((c0.toNat : Nat) : Int) == 48) = x4 := (u8_eq c0 48 (by decide)).trans hx4
                have HS0 := Lib.hid (And.intro hcs0 hx4)
                clear hcs0 hx4
                cases x4 with
                | true =>
                  have HX := Lib.hid (HD.out.done (.inr (.inr ⟨by have := HJ.out; omega, by rw [HS0.out.1, beq_iff_eq.1 HS0.out.2]⟩)))
                  go_wp2
                  go_meet
                  exact ⟨j, rfl, Lib.hid ⟨HX.out.1, HX.out.2, by omega⟩, rfl⟩
                | false =>
                  have HX := Lib.hid (HD.out.step HS.out.2 (HS.out.1.trans rfl) (.inr (by rw [HS0.out.1]; intro e; exact absurd (Option.some.inj e) (beq_eq_false_iff_ne.1 HS0.out.2))))
                  go_wp2
                  go_roundg (gk - 1)
                  case rel => exact ⟨j + 1, by omega, rfl, by omega, HX, rfl⟩
                  case measure => omega
        · have hjz : ¬ (j : Int) < (K.size : Int) := by omega
          have hz1 : decide ((j : Int) < (K.size : Int)) = false := by simpa using hjz
          have hjz2 : ¬ (j : Int) < (s.length : Int) := by omega
          have HX := Lib.hid (HD.out.done (.inl (by omega)))
          go_wp2
          go_meet
          exact ⟨j, rfl, Lib.hid ⟨HX.out.1, HX.out.2, by omega⟩, rfl⟩
    case rest =>
      obtain ⟨j, rfl, HT, hwc⟩ := hcut
      have hwc2 := hwc.symm
      clear hwc
      subst hwc2
      have kz := H.out.2.2.2.1
      have z0 := kz.cell 0
      have y0 := kz.frozen 0
      have z1 := kz.cell 1
      have y1 := kz.frozen 1
      have z2 := kz.cell 2
      have y2 := kz.frozen 2
      have z3 := kz.cell 3
      have y3 := kz.frozen 3
      have z4 := kz.cell 4
      have y4 := kz.frozen 4
      by_cases hjb : j = b
      · have hjbb : ((j : Int) == (b : Int)) = true := beq_iff_eq.2 (by omega)
        have HJ := Lib.hid hjb
        clear hjb
        have hnum : numP true (s.drop b) = .error 1 := by
          have h0 : takeN (s.drop b) = [] := List.eq_nil_of_length_eq_zero (by have := HT.out.2.1; have := HJ.out; omega)
          unfold numP
          rw [if_pos h0]
        have HNM := Lib.hid hnum
        clear hnum
        go_wp2
        have h5 := set5 kz H.out.2.2.2.2.1 H.out.2.1 (.int .i64 0) (.int .i64 0) (.string ⟨#[]⟩) (.slice none 0 0) (.slice none 0 0)
        obtain ⟨W6, hW6⟩ : ∃ W, (((((w1).setCell ⟨P, 0, none⟩ (.int .i64 0)).setCell ⟨P, 1, none⟩ (.int .i64 0)).setCell ⟨P, 2, none⟩ (.string ⟨#[]⟩)).setCell ⟨P, 3, none⟩ (.slice none 0 0)).setCell ⟨P, 4, none⟩ (.slice none 0 0) = W := ⟨_, rfl⟩
        rw [hW6] at h5
        rw [hW6]
        have v0 := h5.1.cell 0
        have v1 := h5.1.cell 1
        have v2 := h5.1.cell 2
        have v3 := h5.1.cell 3
        have v4 := h5.1.cell 4
        (try simp only [Exit.inBlock, Exit.then])
        refine bodyPost_ret (v := .tuple #[.agg #[.int .i64 0, .int .i64 0, .string ⟨#[]⟩, .slice none 0 0, .slice none 0 0], .int .i64 i, .int .i64 1]) ?_ rfl ⟨[.int .i64 0, .int .i64 0, .string ⟨#[]⟩, .slice none 0 0, .slice none 0 0], i, 1, rfl, ⟨⟨_, _, _, _, _, _, _, _, _, rfl⟩, by rw [HNM.out]; exact ⟨rfl, by decide⟩⟩, h5.2⟩
        rw [results_cell_tmp2 rfl]
        go_simp
      · have hjbb : ((j : Int) == (b : Int)) = false := beq_eq_false_iff_ne.2 (by omega)
        have HJ := Lib.hid hjb
        clear hjb
        go_upto_region 10 with fail
        go_cut [76] from 55 to 76 (fun v wx => v = .bool (isDot (s.drop j)) ∧ wx = w1)
        case first =>
          by_cases hjl : j < s.length
          · have hjz : (j : Int) < (K.size : Int) := by omega
            have hjz2 : (j : Int) < (s.length : Int) := by omega
            have hz1 : decide ((j : Int) < (K.size : Int)) = true := by simpa using hjz
            have hjK : j < K.size := by omega
            obtain ⟨c, hc⟩ : ∃ c, K[j] = c := ⟨_, rfl⟩
            have hcs : s[j]? = some c := by rw [← hc]; exact H.out.2.2.2.2.2 j hjK
            have hdt : isDot (s.drop j) = (c == 46 || c == 101 || c == 69) := by
              obtain ⟨h, he⟩ := List.getElem?_eq_some_iff.1 hcs
              rw [List.drop_eq_getElem_cons h, he]; rfl
            obtain ⟨x1, hx1⟩ : ∃ x, (c == 46) = x := ⟨_, rfl⟩
            have q1 : (((c.toNat : Nat) : Int) == 46) = x1 := (u8_eq c 46 (by decide)).trans hx1
            obtain ⟨x2, hx2⟩ : ∃ x, (c == 101) = x := ⟨_, rfl⟩
            have q2 : (((c.toNat : Nat) : Int) == 101) = x2 := (u8_eq c 101 (by decide)).trans hx2
            obtain ⟨x3, hx3⟩ : ∃ x, (c == 69) = x := ⟨_, rfl⟩
            have q3 : (((c.toNat : Nat) : Int) == 69) = x3 := (u8_eq c 69 (by decide)).trans hx3
            rw [hx1, hx2, hx3] at hdt
            have HD := Lib.hid hdt
            clear hdt hcs hx1 hx2 hx3
            cases x1 with
            | true =>
              go_wp2
              go_meet
              exact ⟨by rw [HD.out]; simp, rfl⟩
            | false =>
              cases x2 with
              | true =>
                go_wp2
                go_meet
                exact ⟨by rw [HD.out]; simp, rfl⟩
              | false =>
                cases x3 with
                | true =>
                  go_wp2
                  go_meet
                  exact ⟨by rw [HD.out]; simp, rfl⟩
                | false =>
                  go_wp2
                  go_meet
                  exact ⟨by rw [HD.out]; simp, rfl⟩
          · have hjz : ¬ (j : Int) < (K.size : Int) := by omega
            have hz1 : decide ((j : Int) < (K.size : Int)) = false := by simpa using hjz
            have hjz2 : ¬ (j : Int) < (s.length : Int) := by omega
            have HD := Lib.hid (show isDot (s.drop j) = false by rw [List.drop_eq_nil_of_le (by omega)]; rfl)
            go_wp2
            go_meet
            exact ⟨by rw [HD.out], rfl⟩
        case rest =>
          obtain ⟨rfl, hwc⟩ := hcut
          have hwc2 := hwc.symm
          clear hwc
          subst hwc2
          obtain ⟨d, hd⟩ : ∃ d, isDot (s.drop j) = d := ⟨_, rfl⟩
          rw [hd]
          have HD := Lib.hid hd
          clear hd
          have hne : takeN (s.drop b) ≠ [] := fun e => by
            have h1 := HT.out.2.1
            have h2 := HJ.out
            rw [e, List.length_nil] at h1
            omega
          have hdr : (s.drop b).drop (takeN (s.drop b)).length = s.drop j := by rw [List.drop_drop]; congr 1; have := HT.out.2.1; omega
          have HN := Lib.hid (And.intro hne hdr)
          clear hne hdr
          cases d with
          | true =>
            have hnum : numP true (s.drop b) = .error 4 := by
              unfold numP
              rw [if_neg HN.out.1, HN.out.2, HD.out, if_pos rfl]
            have HNM := Lib.hid hnum
            clear hnum
            go_wp2
            have h5 := set5 kz H.out.2.2.2.2.1 H.out.2.1 (.int .i64 0) (.int .i64 0) (.string ⟨#[]⟩) (.slice none 0 0) (.slice none 0 0)
            obtain ⟨W6, hW6⟩ : ∃ W, (((((w1).setCell ⟨P, 0, none⟩ (.int .i64 0)).setCell ⟨P, 1, none⟩ (.int .i64 0)).setCell ⟨P, 2, none⟩ (.string ⟨#[]⟩)).setCell ⟨P, 3, none⟩ (.slice none 0 0)).setCell ⟨P, 4, none⟩ (.slice none 0 0) = W := ⟨_, rfl⟩
            rw [hW6] at h5
            rw [hW6]
            have v0 := h5.1.cell 0
            have v1 := h5.1.cell 1
            have v2 := h5.1.cell 2
            have v3 := h5.1.cell 3
            have v4 := h5.1.cell 4
            (try simp only [Exit.inBlock, Exit.then])
            refine bodyPost_ret (v := .tuple #[.agg #[.int .i64 0, .int .i64 0, .string ⟨#[]⟩, .slice none 0 0, .slice none 0 0], .int .i64 i, .int .i64 4]) ?_ rfl ⟨[.int .i64 0, .int .i64 0, .string ⟨#[]⟩, .slice none 0 0, .slice none 0 0], i, 4, rfl, ⟨⟨_, _, _, _, _, _, _, _, _, rfl⟩, by rw [HNM.out]; exact ⟨rfl, by decide⟩⟩, h5.2⟩
            rw [results_cell_tmp2 rfl]
            go_simp
          | false =>
            go_wp2_with fail
            go_loopg [10, 11] (j - b) (fun gk nv iv wr => ∃ (q n : Nat), gk + q = j ∧ nv = .int .u64 n ∧ iv = .int .i64 q ∧ b ≤ q ∧ n ≤ 9223372036854775808 ∧ Hid (n = numOf ((takeN (s.drop b)).take (q - b))) ∧ wr = w1)
            case atStart => exact ⟨b, 0, by have := HT.out.2.1; omega, rfl, rfl, Nat.le_refl _, by omega, Lib.hid (by rw [Nat.sub_self]; rfl), rfl⟩
            case round =>
              obtain ⟨q, n, hg, rfl, rfl, hbq, hn63, HQ, hwr⟩ := hrel
              have hwr2 := hwr.symm
              clear hwr
              subst hwr2
              by_cases hq : q < j
              · have hqz : (q : Int) < (j : Int) := by omega
                have hwK : IntKind.i64.wrap ((q : Int) + 1) = ((q + 1 : Nat) : Int) := by have := HT.out.2.2; rw [IntWalk.i64_in _ (by omega)]; omega
                have hqK : q < K.size := by have := HT.out.2.2; omega
                have hqz2 : (q : Int) < (K.size : Int) := by omega
                obtain ⟨c, hc⟩ : ∃ c, K[q] = c := ⟨_, rfl⟩
                have hcs : s[q]? = some c := by rw [← hc]; exact H.out.2.2.2.2.2 q hqK
                have htq : (takeN (s.drop b))[q - b]? = some c := by
                  rw [HT.out.1, List.getElem?_take_of_lt (by omega), List.getElem?_drop, show b + (q - b) = q by omega]
                  exact hcs
                have hdc := takeN_all _ c (List.mem_of_getElem? htq)
                have hns := numOf_step htq
                have hd2 : 48 ≤ c.toNat ∧ c.toNat ≤ 57 := by unfold isDig at hdc; simpa using hdc
                obtain ⟨d, hd⟩ : ∃ d, c.toNat - 48 = d := ⟨_, rfl⟩
                have hw1 : IntKind.u8.wrap ((c.toNat : Int) - 48) = (d : Int) := by rw [IntKind.wrap_u8]; omega
                have hw2 : IntKind.u64.wrap (d : Int) = (d : Int) := by rw [IntKind.wrap_u64]; omega
                have hw3 : IntKind.u64.wrap (9223372036854775808 - (d : Int)) = ((9223372036854775808 - d : Nat) : Int) := by rw [IntKind.wrap_u64]; omega
                obtain ⟨m, hm⟩ : ∃ m, 9223372036854775808 - d = m := ⟨_, rfl⟩
                rw [hm] at hw3
                obtain ⟨t, ht⟩ : ∃ t, m / 10 = t := ⟨_, rfl⟩
                have hw4 : (m : Int).tdiv 10 = (t : Int) := by rw [Int.tdiv_eq_ediv_of_nonneg (by omega)]; omega
                have hd9 : d ≤ 9 := by omega
                have HX := Lib.hid (And.intro hns (And.intro hd (And.intro hm ht)))
                have hw1b : ((c.toNat : Int) - 48) % 256 = (d : Int) := by omega
                have hw3b : (9223372036854775808 - (d : Int)) / 10 = (t : Int) := by omega
                clear hcs htq hdc hns hd2 hm ht hd
                by_cases hov : t < n
                · have hovz : (t : Int) < (n : Int) := by omega
                  have hnum : numP true (s.drop b) = .error 4 := by
                    have e1 := HX.out.1
                    rw [← HQ.out, HX.out.2.1] at e1
                    have e2 := numOf_le ((takeN (s.drop b)).take (q - b + 1)) ((takeN (s.drop b)).drop (q - b + 1))
                    rw [List.take_append_drop, e1] at e2
                    have e3 := HX.out.2.2.1
                    have e4 := HX.out.2.2.2
                    unfold numP
                    rw [if_neg HN.out.1, HN.out.2, HD.out, if_neg (by decide), if_neg (by omega)]
                  have HNM := Lib.hid hnum
                  clear hnum
                  go_wp2
                  have h5 := set5 kz H.out.2.2.2.2.1 H.out.2.1 (.int .i64 0) (.int .i64 0) (.string ⟨#[]⟩) (.slice none 0 0) (.slice none 0 0)
                  obtain ⟨W6, hW6⟩ : ∃ W, (((((w1).setCell ⟨P, 0, none⟩ (.int .i64 0)).setCell ⟨P, 1, none⟩ (.int .i64 0)).setCell ⟨P, 2, none⟩ (.string ⟨#[]⟩)).setCell ⟨P, 3, none⟩ (.slice none 0 0)).setCell ⟨P, 4, none⟩ (.slice none 0 0) = W := ⟨_, rfl⟩
                  rw [hW6] at h5
                  rw [hW6]
                  have v0 := h5.1.cell 0
                  have v1 := h5.1.cell 1
                  have v2 := h5.1.cell 2
                  have v3 := h5.1.cell 3
                  have v4 := h5.1.cell 4
                  (try simp only [Exit.inBlock, Exit.then])
                  refine bodyPost_ret (v := .tuple #[.agg #[.int .i64 0, .int .i64 0, .string ⟨#[]⟩, .slice none 0 0, .slice none 0 0], .int .i64 i, .int .i64 4]) ?_ rfl ⟨[.int .i64 0, .int .i64 0, .string ⟨#[]⟩, .slice none 0 0, .slice none 0 0], i, 4, rfl, ⟨⟨_, _, _, _, _, _, _, _, _, rfl⟩, by rw [HNM.out]; exact ⟨rfl, by decide⟩⟩, h5.2⟩
                  rw [results_cell_tmp2 rfl]
                  go_simp
                · have hovz : ¬ (t : Int) < (n : Int) := by omega
                  have hw5 : IntKind.u64.wrap ((n : Int) * 10) = ((n * 10 : Nat) : Int) := by rw [IntKind.wrap_u64]; omega
                  have hn2 : n * 10 + d ≤ 9223372036854775808 := by have e3 := HX.out.2.2.1; have e4 := HX.out.2.2.2; omega
                  have hw6 : IntKind.u64.wrap (((n * 10 : Nat) : Int) + (d : Int)) = ((n * 10 + d : Nat) : Int) := by rw [IntKind.wrap_u64]; omega
                  have hnew : n * 10 + d = numOf ((takeN (s.drop b)).take (q + 1 - b)) := by
                    have e1 := HX.out.1
                    rw [← HQ.out, HX.out.2.1] at e1
                    rw [show q + 1 - b = q - b + 1 by omega, e1]
                  have HNW := Lib.hid hnew
                  clear hnew
                  go_wp2
                  go_roundg (gk - 1)
                  case rel => exact ⟨q + 1, n * 10 + d, by omega, by first | rfl | (congr 1; omega) | simp, by first | rfl | (congr 1; omega) | simp, by omega, hn2, HNW, rfl⟩
                  case measure => omega
              · have hqz : ¬ (q : Int) < (j : Int) := by omega
                have hnn : n = numOf (takeN (s.drop b)) := by
                  have e := HQ.out
                  rw [List.take_of_length_le (by have := HT.out.2.1; omega)] at e
                  exact e
                have HNN := Lib.hid hnn
                clear hnn
                have hnum : numP true (s.drop b) = .ok (.int (-(n : Int)), s.drop j) := by
                  have e := HNN.out
                  unfold numP
                  rw [if_neg HN.out.1, HN.out.2, HD.out, if_neg (by decide), if_pos (by simp only [true_and]; omega), ← e]; simp
                have HNM := Lib.hid hnum
                clear hnum
                have HZ := Lib.hid (show wrap64 (IntKind.u64.wrap (-(n : Int))) = -(n : Int) by
                  unfold wrap64
                  (try rw [IntKind.wrap_u64])
                  omega)
                obtain ⟨f63, hf63⟩ : ∃ f, ((n : Int) == 9223372036854775808) = f := ⟨_, rfl⟩
                cases f63 with
                | false =>
                  go_wp2
                  have h5 := set5 kz H.out.2.2.2.2.1 H.out.2.1 (.int .i64 2) (.int .i64 (-(n : Int))) (.string ⟨#[]⟩) (.slice none 0 0) (.slice none 0 0)
                  (try rw [HZ.out])
                  obtain ⟨W6, hW6⟩ : ∃ W, (((((w1).setCell ⟨P, 0, none⟩ (.int .i64 2)).setCell ⟨P, 1, none⟩ (.int .i64 (-(n : Int)))).setCell ⟨P, 2, none⟩ (.string ⟨#[]⟩)).setCell ⟨P, 3, none⟩ (.slice none 0 0)).setCell ⟨P, 4, none⟩ (.slice none 0 0) = W := ⟨_, rfl⟩
                  rw [hW6] at h5
                  rw [hW6]
                  have v0 := h5.1.cell 0
                  have v1 := h5.1.cell 1
                  have v2 := h5.1.cell 2
                  have v3 := h5.1.cell 3
                  have v4 := h5.1.cell 4
                  (try simp only [Exit.inBlock, Exit.then])
                  refine bodyPost_ret (v := .tuple #[.agg #[.int .i64 2, .int .i64 (-(n : Int)), .string ⟨#[]⟩, .slice none 0 0, .slice none 0 0], .int .i64 j, .int .i64 0]) ?_ rfl ⟨[.int .i64 2, .int .i64 (-(n : Int)), .string ⟨#[]⟩, .slice none 0 0, .slice none 0 0], j, 0, rfl, ⟨⟨_, _, _, _, _, _, _, _, _, rfl⟩, by rw [HNM.out]; exact ⟨rfl, HT.out.2.2, rfl, .int _ ⟨by omega, by omega⟩⟩⟩, h5.2⟩
                  rw [results_cell_tmp2 rfl]
                  go_simp
                | true =>
                  go_wp2
                  have h5 := set5 kz H.out.2.2.2.2.1 H.out.2.1 (.int .i64 2) (.int .i64 (-(n : Int))) (.string ⟨#[]⟩) (.slice none 0 0) (.slice none 0 0)
                  (try rw [HZ.out])
                  obtain ⟨W6, hW6⟩ : ∃ W, (((((w1).setCell ⟨P, 0, none⟩ (.int .i64 2)).setCell ⟨P, 1, none⟩ (.int .i64 (-(n : Int)))).setCell ⟨P, 2, none⟩ (.string ⟨#[]⟩)).setCell ⟨P, 3, none⟩ (.slice none 0 0)).setCell ⟨P, 4, none⟩ (.slice none 0 0) = W := ⟨_, rfl⟩
                  rw [hW6] at h5
                  rw [hW6]
                  have v0 := h5.1.cell 0
                  have v1 := h5.1.cell 1
                  have v2 := h5.1.cell 2
                  have v3 := h5.1.cell 3
                  have v4 := h5.1.cell 4
                  (try simp only [Exit.inBlock, Exit.then])
                  refine bodyPost_ret (v := .tuple #[.agg #[.int .i64 2, .int .i64 (-(n : Int)), .string ⟨#[]⟩, .slice none 0 0, .slice none 0 0], .int .i64 j, .int .i64 0]) ?_ rfl ⟨[.int .i64 2, .int .i64 (-(n : Int)), .string ⟨#[]⟩, .slice none 0 0, .slice none 0 0], j, 0, rfl, ⟨⟨_, _, _, _, _, _, _, _, _, rfl⟩, by rw [HNM.out]; exact ⟨rfl, HT.out.2.2, rfl, .int _ ⟨by omega, by omega⟩⟩⟩, h5.2⟩
                  rw [results_cell_tmp2 rfl]
                  go_simp
  | false =>
    have hbi : b = i := HB.out.1
    clear hb
    go_upto_region 5 with fail
    have hbz : (i : Int) = (b : Int) := by omega
    rw [hbz]
    have HBI := Lib.hid hbi
    clear hbi hbz
    clear hwi
    go_upto_block 0 with fail
    go_cut [1] from 21 to 49 (fun v wx => ∃ j : Nat, v = .int .i64 j ∧ Hid (takeN (s.drop b) = (s.drop b).take (j - b) ∧ (takeN (s.drop b)).length + b = j ∧ j ≤ s.length) ∧ wx = w1)
    case first =>
      go_wp2_with fail
      go_loopg [1] (s.length - b) (fun gk iv wr => ∃ (j : Nat), gk + j = s.length ∧ iv = .int .i64 j ∧ b ≤ j ∧ Hid (DgT s b j) ∧ wr = w1)
      case atStart => exact ⟨b, by omega, rfl, Nat.le_refl _, Lib.hid (DgT.start hbl), rfl⟩
      case round =>
        obtain ⟨j, hg, rfl, hbj, HD, rfl⟩ := hrel
        by_cases hj : j < s.length
        · have hjz : (j : Int) < (K.size : Int) := by omega
          have hjz2 : (j : Int) < (s.length : Int) := by omega
          have hz1 : decide ((j : Int) < (K.size : Int)) = true := by simpa using hjz
          have hwK : IntKind.i64.wrap ((j : Int) + 1) = ((j + 1 : Nat) : Int) := by rw [IntWalk.i64_in _ (by omega)]; omega
          have hjK : j < K.size := by omega
          have hbK : b < K.size := by omega
          have hbz3 : (b : Int) < (K.size : Int) := by omega
          have hbz4 : (b : Int) < (s.length : Int) := by omega
          obtain ⟨c, hc⟩ : ∃ c, K[j] = c := ⟨_, rfl⟩
          have hcs : s[j]? = some c := by rw [← hc]; exact H.out.2.2.2.2.2 j hjK
          have hdg := isDig_dec c
          obtain ⟨x1, hx1⟩ : ∃ x, decide ((48 : Int) ≤ (c.toNat : Int)) = x := ⟨_, rfl⟩
          obtain ⟨x2, hx2⟩ : ∃ x, decide ((c.toNat : Int) ≤ 57) = x := ⟨_, rfl⟩
          rw [hx1, hx2] at hdg
          have HS := Lib.hid (And.intro hdg hcs)
          clear hdg hcs
          cases x1 with
          | false =>
            have HX := Lib.hid (HD.out.done (.inr (.inl ⟨c, HS.out.2, HS.out.1.trans rfl⟩)))
            go_wp2
            go_meet
            exact ⟨j, rfl, Lib.hid ⟨HX.out.1, HX.out.2, by omega⟩, rfl⟩
          | true =>
            cases x2 with
            | false =>
              have HX := Lib.hid (HD.out.done (.inr (.inl ⟨c, HS.out.2, HS.out.1.trans rfl⟩)))
              go_wp2
              go_meet
              exact ⟨j, rfl, Lib.hid ⟨HX.out.1, HX.out.2, by omega⟩, rfl⟩
            | true =>
              by_cases hjb : j = b
              · have hjbz : (j : Int) = (b : Int) := by omega
                have hjbb : ((j : Int) == (b : Int)) = true := beq_iff_eq.2 hjbz
                have HJ := Lib.hid hjb
                clear hjb hjbz
                have HX := Lib.hid (HD.out.step HS.out.2 (HS.out.1.trans rfl) (.inl HJ.out))
                go_wp2
                go_roundg (gk - 1)
                case rel => exact ⟨j + 1, by omega, rfl, by omega, HX, rfl⟩
                case measure => omega
              · have hjbb : ((j : Int) == (b : Int)) = false := beq_eq_false_iff_ne.2 (by omega)
                have HJ := Lib.hid hjb
                clear hjb
                obtain ⟨c0, hc0⟩ : ∃ c, K[b] = c := ⟨_, rfl⟩
                have hcs0 : s[b]? = some c0 := by rw [← hc0]; exact H.out.2.2.2.2.2 b hbK
                obtain ⟨x4, hx4⟩ : ∃ x, (c0 == 48) = x := ⟨_, rfl⟩
                have hx5 : (((c0.toNat : Nat) : Int) == 48) = x4 := (u8_eq c0 48 (by decide)).trans hx4
                have HS0 := Lib.hid (And.intro hcs0 hx4)
                clear hcs0 hx4
                cases x4 with
                | true =>
                  have HX := Lib.hid (HD.out.done (.inr (.inr ⟨by have := HJ.out; omega, by rw [HS0.out.1, beq_iff_eq.1 HS0.out.2]⟩)))
                  go_wp2
                  go_meet
                  exact ⟨j, rfl, Lib.hid ⟨HX.out.1, HX.out.2, by omega⟩, rfl⟩
                | false =>
                  have HX := Lib.hid (HD.out.step HS.out.2 (HS.out.1.trans rfl) (.inr (by rw [HS0.out.1]; intro e; exact absurd (Option.some.inj e) (beq_eq_false_iff_ne.1 HS0.out.2))))
                  go_wp2
                  go_roundg (gk - 1)
                  case rel => exact ⟨j + 1, by omega, rfl, by omega, HX, rfl⟩
                  case measure => omega
        · have hjz : ¬ (j : Int) < (K.size : Int) := by omega
          have hz1 : decide ((j : Int) < (K.size : Int)) = false := by simpa using hjz
          have hjz2 : ¬ (j : Int) < (s.length : Int) := by omega
          have HX := Lib.hid (HD.out.done (.inl (by omega)))
          go_wp2
          go_meet
          exact ⟨j, rfl, Lib.hid ⟨HX.out.1, HX.out.2, by omega⟩, rfl⟩
    case rest =>
      obtain ⟨j, rfl, HT, hwc⟩ := hcut
      have hwc2 := hwc.symm
      clear hwc
      subst hwc2
      have kz := H.out.2.2.2.1
      have z0 := kz.cell 0
      have y0 := kz.frozen 0
      have z1 := kz.cell 1
      have y1 := kz.frozen 1
      have z2 := kz.cell 2
      have y2 := kz.frozen 2
      have z3 := kz.cell 3
      have y3 := kz.frozen 3
      have z4 := kz.cell 4
      have y4 := kz.frozen 4
      by_cases hjb : j = b
      · have hjbb : ((j : Int) == (b : Int)) = true := beq_iff_eq.2 (by omega)
        have HJ := Lib.hid hjb
        clear hjb
        have hnum : numP false (s.drop b) = .error 1 := by
          have h0 : takeN (s.drop b) = [] := List.eq_nil_of_length_eq_zero (by have := HT.out.2.1; have := HJ.out; omega)
          unfold numP
          rw [if_pos h0]
        have HNM := Lib.hid hnum
        clear hnum
        go_wp2
        have h5 := set5 kz H.out.2.2.2.2.1 H.out.2.1 (.int .i64 0) (.int .i64 0) (.string ⟨#[]⟩) (.slice none 0 0) (.slice none 0 0)
        obtain ⟨W6, hW6⟩ : ∃ W, (((((w1).setCell ⟨P, 0, none⟩ (.int .i64 0)).setCell ⟨P, 1, none⟩ (.int .i64 0)).setCell ⟨P, 2, none⟩ (.string ⟨#[]⟩)).setCell ⟨P, 3, none⟩ (.slice none 0 0)).setCell ⟨P, 4, none⟩ (.slice none 0 0) = W := ⟨_, rfl⟩
        rw [hW6] at h5
        rw [hW6]
        have v0 := h5.1.cell 0
        have v1 := h5.1.cell 1
        have v2 := h5.1.cell 2
        have v3 := h5.1.cell 3
        have v4 := h5.1.cell 4
        (try simp only [Exit.inBlock, Exit.then])
        refine bodyPost_ret (v := .tuple #[.agg #[.int .i64 0, .int .i64 0, .string ⟨#[]⟩, .slice none 0 0, .slice none 0 0], .int .i64 b, .int .i64 1]) ?_ rfl ⟨[.int .i64 0, .int .i64 0, .string ⟨#[]⟩, .slice none 0 0, .slice none 0 0], b, 1, rfl, ⟨⟨_, _, _, _, _, _, _, _, _, rfl⟩, by rw [HNM.out]; exact ⟨rfl, by decide⟩⟩, h5.2⟩
        rw [results_cell_tmp2 rfl]
        go_simp
      · have hjbb : ((j : Int) == (b : Int)) = false := beq_eq_false_iff_ne.2 (by omega)
        have HJ := Lib.hid hjb
        clear hjb
        go_upto_region 10 with fail
        go_cut [76] from 55 to 76 (fun v wx => v = .bool (isDot (s.drop j)) ∧ wx = w1)
        case first =>
          by_cases hjl : j < s.length
          · have hjz : (j : Int) < (K.size : Int) := by omega
            have hjz2 : (j : Int) < (s.length : Int) := by omega
            have hz1 : decide ((j : Int) < (K.size : Int)) = true := by simpa using hjz
            have hjK : j < K.size := by omega
            obtain ⟨c, hc⟩ : ∃ c, K[j] = c := ⟨_, rfl⟩
            have hcs : s[j]? = some c := by rw [← hc]; exact H.out.2.2.2.2.2 j hjK
            have hdt : isDot (s.drop j) = (c == 46 || c == 101 || c == 69) := by
              obtain ⟨h, he⟩ := List.getElem?_eq_some_iff.1 hcs
              rw [List.drop_eq_getElem_cons h, he]; rfl
            obtain ⟨x1, hx1⟩ : ∃ x, (c == 46) = x := ⟨_, rfl⟩
            have q1 : (((c.toNat : Nat) : Int) == 46) = x1 := (u8_eq c 46 (by decide)).trans hx1
            obtain ⟨x2, hx2⟩ : ∃ x, (c == 101) = x := ⟨_, rfl⟩
            have q2 : (((c.toNat : Nat) : Int) == 101) = x2 := (u8_eq c 101 (by decide)).trans hx2
            obtain ⟨x3, hx3⟩ : ∃ x, (c == 69) = x := ⟨_, rfl⟩
            have q3 : (((c.toNat : Nat) : Int) == 69) = x3 := (u8_eq c 69 (by decide)).trans hx3
            rw [hx1, hx2, hx3] at hdt
            have HD := Lib.hid hdt
            clear hdt hcs hx1 hx2 hx3
            cases x1 with
            | true =>
              go_wp2
              go_meet
              exact ⟨by rw [HD.out]; simp, rfl⟩
            | false =>
              cases x2 with
              | true =>
                go_wp2
                go_meet
                exact ⟨by rw [HD.out]; simp, rfl⟩
              | false =>
                cases x3 with
                | true =>
                  go_wp2
                  go_meet
                  exact ⟨by rw [HD.out]; simp, rfl⟩
                | false =>
                  go_wp2
                  go_meet
                  exact ⟨by rw [HD.out]; simp, rfl⟩
          · have hjz : ¬ (j : Int) < (K.size : Int) := by omega
            have hz1 : decide ((j : Int) < (K.size : Int)) = false := by simpa using hjz
            have hjz2 : ¬ (j : Int) < (s.length : Int) := by omega
            have HD := Lib.hid (show isDot (s.drop j) = false by rw [List.drop_eq_nil_of_le (by omega)]; rfl)
            go_wp2
            go_meet
            exact ⟨by rw [HD.out], rfl⟩
        case rest =>
          obtain ⟨rfl, hwc⟩ := hcut
          have hwc2 := hwc.symm
          clear hwc
          subst hwc2
          obtain ⟨d, hd⟩ : ∃ d, isDot (s.drop j) = d := ⟨_, rfl⟩
          rw [hd]
          have HD := Lib.hid hd
          clear hd
          have hne : takeN (s.drop b) ≠ [] := fun e => by
            have h1 := HT.out.2.1
            have h2 := HJ.out
            rw [e, List.length_nil] at h1
            omega
          have hdr : (s.drop b).drop (takeN (s.drop b)).length = s.drop j := by rw [List.drop_drop]; congr 1; have := HT.out.2.1; omega
          have HN := Lib.hid (And.intro hne hdr)
          clear hne hdr
          cases d with
          | true =>
            have hnum : numP false (s.drop b) = .error 4 := by
              unfold numP
              rw [if_neg HN.out.1, HN.out.2, HD.out, if_pos rfl]
            have HNM := Lib.hid hnum
            clear hnum
            go_wp2
            have h5 := set5 kz H.out.2.2.2.2.1 H.out.2.1 (.int .i64 0) (.int .i64 0) (.string ⟨#[]⟩) (.slice none 0 0) (.slice none 0 0)
            obtain ⟨W6, hW6⟩ : ∃ W, (((((w1).setCell ⟨P, 0, none⟩ (.int .i64 0)).setCell ⟨P, 1, none⟩ (.int .i64 0)).setCell ⟨P, 2, none⟩ (.string ⟨#[]⟩)).setCell ⟨P, 3, none⟩ (.slice none 0 0)).setCell ⟨P, 4, none⟩ (.slice none 0 0) = W := ⟨_, rfl⟩
            rw [hW6] at h5
            rw [hW6]
            have v0 := h5.1.cell 0
            have v1 := h5.1.cell 1
            have v2 := h5.1.cell 2
            have v3 := h5.1.cell 3
            have v4 := h5.1.cell 4
            (try simp only [Exit.inBlock, Exit.then])
            refine bodyPost_ret (v := .tuple #[.agg #[.int .i64 0, .int .i64 0, .string ⟨#[]⟩, .slice none 0 0, .slice none 0 0], .int .i64 b, .int .i64 4]) ?_ rfl ⟨[.int .i64 0, .int .i64 0, .string ⟨#[]⟩, .slice none 0 0, .slice none 0 0], b, 4, rfl, ⟨⟨_, _, _, _, _, _, _, _, _, rfl⟩, by rw [HNM.out]; exact ⟨rfl, by decide⟩⟩, h5.2⟩
            rw [results_cell_tmp2 rfl]
            go_simp
          | false =>
            go_wp2_with fail
            go_loopg [10, 11] (j - b) (fun gk nv iv wr => ∃ (q n : Nat), gk + q = j ∧ nv = .int .u64 n ∧ iv = .int .i64 q ∧ b ≤ q ∧ n ≤ 9223372036854775808 ∧ Hid (n = numOf ((takeN (s.drop b)).take (q - b))) ∧ wr = w1)
            case atStart => exact ⟨b, 0, by have := HT.out.2.1; omega, rfl, rfl, Nat.le_refl _, by omega, Lib.hid (by rw [Nat.sub_self]; rfl), rfl⟩
            case round =>
              obtain ⟨q, n, hg, rfl, rfl, hbq, hn63, HQ, hwr⟩ := hrel
              have hwr2 := hwr.symm
              clear hwr
              subst hwr2
              by_cases hq : q < j
              · have hqz : (q : Int) < (j : Int) := by omega
                have hwK : IntKind.i64.wrap ((q : Int) + 1) = ((q + 1 : Nat) : Int) := by have := HT.out.2.2; rw [IntWalk.i64_in _ (by omega)]; omega
                have hqK : q < K.size := by have := HT.out.2.2; omega
                have hqz2 : (q : Int) < (K.size : Int) := by omega
                obtain ⟨c, hc⟩ : ∃ c, K[q] = c := ⟨_, rfl⟩
                have hcs : s[q]? = some c := by rw [← hc]; exact H.out.2.2.2.2.2 q hqK
                have htq : (takeN (s.drop b))[q - b]? = some c := by
                  rw [HT.out.1, List.getElem?_take_of_lt (by omega), List.getElem?_drop, show b + (q - b) = q by omega]
                  exact hcs
                have hdc := takeN_all _ c (List.mem_of_getElem? htq)
                have hns := numOf_step htq
                have hd2 : 48 ≤ c.toNat ∧ c.toNat ≤ 57 := by unfold isDig at hdc; simpa using hdc
                obtain ⟨d, hd⟩ : ∃ d, c.toNat - 48 = d := ⟨_, rfl⟩
                have hw1 : IntKind.u8.wrap ((c.toNat : Int) - 48) = (d : Int) := by rw [IntKind.wrap_u8]; omega
                have hw2 : IntKind.u64.wrap (d : Int) = (d : Int) := by rw [IntKind.wrap_u64]; omega
                have hw3 : IntKind.u64.wrap (9223372036854775808 - (d : Int)) = ((9223372036854775808 - d : Nat) : Int) := by rw [IntKind.wrap_u64]; omega
                obtain ⟨m, hm⟩ : ∃ m, 9223372036854775808 - d = m := ⟨_, rfl⟩
                rw [hm] at hw3
                obtain ⟨t, ht⟩ : ∃ t, m / 10 = t := ⟨_, rfl⟩
                have hw4 : (m : Int).tdiv 10 = (t : Int) := by rw [Int.tdiv_eq_ediv_of_nonneg (by omega)]; omega
                have hd9 : d ≤ 9 := by omega
                have HX := Lib.hid (And.intro hns (And.intro hd (And.intro hm ht)))
                have hw1b : ((c.toNat : Int) - 48) % 256 = (d : Int) := by omega
                have hw3b : (9223372036854775808 - (d : Int)) / 10 = (t : Int) := by omega
                clear hcs htq hdc hns hd2 hm ht hd
                by_cases hov : t < n
                · have hovz : (t : Int) < (n : Int) := by omega
                  have hnum : numP false (s.drop b) = .error 4 := by
                    have e1 := HX.out.1
                    rw [← HQ.out, HX.out.2.1] at e1
                    have e2 := numOf_le ((takeN (s.drop b)).take (q - b + 1)) ((takeN (s.drop b)).drop (q - b + 1))
                    rw [List.take_append_drop, e1] at e2
                    have e3 := HX.out.2.2.1
                    have e4 := HX.out.2.2.2
                    unfold numP
                    rw [if_neg HN.out.1, HN.out.2, HD.out, if_neg (by decide), if_neg (by omega)]
                  have HNM := Lib.hid hnum
                  clear hnum
                  go_wp2
                  have h5 := set5 kz H.out.2.2.2.2.1 H.out.2.1 (.int .i64 0) (.int .i64 0) (.string ⟨#[]⟩) (.slice none 0 0) (.slice none 0 0)
                  obtain ⟨W6, hW6⟩ : ∃ W, (((((w1).setCell ⟨P, 0, none⟩ (.int .i64 0)).setCell ⟨P, 1, none⟩ (.int .i64 0)).setCell ⟨P, 2, none⟩ (.string ⟨#[]⟩)).setCell ⟨P, 3, none⟩ (.slice none 0 0)).setCell ⟨P, 4, none⟩ (.slice none 0 0) = W := ⟨_, rfl⟩
                  rw [hW6] at h5
                  rw [hW6]
                  have v0 := h5.1.cell 0
                  have v1 := h5.1.cell 1
                  have v2 := h5.1.cell 2
                  have v3 := h5.1.cell 3
                  have v4 := h5.1.cell 4
                  (try simp only [Exit.inBlock, Exit.then])
                  refine bodyPost_ret (v := .tuple #[.agg #[.int .i64 0, .int .i64 0, .string ⟨#[]⟩, .slice none 0 0, .slice none 0 0], .int .i64 b, .int .i64 4]) ?_ rfl ⟨[.int .i64 0, .int .i64 0, .string ⟨#[]⟩, .slice none 0 0, .slice none 0 0], b, 4, rfl, ⟨⟨_, _, _, _, _, _, _, _, _, rfl⟩, by rw [HNM.out]; exact ⟨rfl, by decide⟩⟩, h5.2⟩
                  rw [results_cell_tmp2 rfl]
                  go_simp
                · have hovz : ¬ (t : Int) < (n : Int) := by omega
                  have hw5 : IntKind.u64.wrap ((n : Int) * 10) = ((n * 10 : Nat) : Int) := by rw [IntKind.wrap_u64]; omega
                  have hn2 : n * 10 + d ≤ 9223372036854775808 := by have e3 := HX.out.2.2.1; have e4 := HX.out.2.2.2; omega
                  have hw6 : IntKind.u64.wrap (((n * 10 : Nat) : Int) + (d : Int)) = ((n * 10 + d : Nat) : Int) := by rw [IntKind.wrap_u64]; omega
                  have hnew : n * 10 + d = numOf ((takeN (s.drop b)).take (q + 1 - b)) := by
                    have e1 := HX.out.1
                    rw [← HQ.out, HX.out.2.1] at e1
                    rw [show q + 1 - b = q - b + 1 by omega, e1]
                  have HNW := Lib.hid hnew
                  clear hnew
                  go_wp2
                  go_roundg (gk - 1)
                  case rel => exact ⟨q + 1, n * 10 + d, by omega, by first | rfl | (congr 1; omega) | simp, by first | rfl | (congr 1; omega) | simp, by omega, hn2, HNW, rfl⟩
                  case measure => omega
              · have hqz : ¬ (q : Int) < (j : Int) := by omega
                have hnn : n = numOf (takeN (s.drop b)) := by
                  have e := HQ.out
                  rw [List.take_of_length_le (by have := HT.out.2.1; omega)] at e
                  exact e
                have HNN := Lib.hid hnn
                clear hnn
                by_cases h63 : n = 9223372036854775808
                · have h63z : ((n : Int) == 9223372036854775808) = true := beq_iff_eq.2 (by omega)
                  have hnum : numP false (s.drop b) = .error 4 := by
                    have e := HNN.out
                    unfold numP
                    rw [if_neg HN.out.1, HN.out.2, HD.out, if_neg (by decide), if_neg (by simp; omega)]
                  have HNM := Lib.hid hnum
                  clear hnum
                  have H63 := Lib.hid h63
                  clear h63
                  go_wp2
                  have h5 := set5 kz H.out.2.2.2.2.1 H.out.2.1 (.int .i64 0) (.int .i64 0) (.string ⟨#[]⟩) (.slice none 0 0) (.slice none 0 0)
                  obtain ⟨W6, hW6⟩ : ∃ W, (((((w1).setCell ⟨P, 0, none⟩ (.int .i64 0)).setCell ⟨P, 1, none⟩ (.int .i64 0)).setCell ⟨P, 2, none⟩ (.string ⟨#[]⟩)).setCell ⟨P, 3, none⟩ (.slice none 0 0)).setCell ⟨P, 4, none⟩ (.slice none 0 0) = W := ⟨_, rfl⟩
                  rw [hW6] at h5
                  rw [hW6]
                  have v0 := h5.1.cell 0
                  have v1 := h5.1.cell 1
                  have v2 := h5.1.cell 2
                  have v3 := h5.1.cell 3
                  have v4 := h5.1.cell 4
                  (try simp only [Exit.inBlock, Exit.then])
                  refine bodyPost_ret (v := .tuple #[.agg #[.int .i64 0, .int .i64 0, .string ⟨#[]⟩, .slice none 0 0, .slice none 0 0], .int .i64 b, .int .i64 4]) ?_ rfl ⟨[.int .i64 0, .int .i64 0, .string ⟨#[]⟩, .slice none 0 0, .slice none 0 0], b, 4, rfl, ⟨⟨_, _, _, _, _, _, _, _, _, rfl⟩, by rw [HNM.out]; exact ⟨rfl, by decide⟩⟩, h5.2⟩
                  rw [results_cell_tmp2 rfl]
                  go_simp
                · have h63z : ((n : Int) == 9223372036854775808) = false := beq_eq_false_iff_ne.2 (by omega)
                  have hnum : numP false (s.drop b) = .ok (.int (n : Int), s.drop j) := by
                    have e := HNN.out
                    unfold numP
                    rw [if_neg HN.out.1, HN.out.2, HD.out, if_neg (by decide), if_pos (by omega), ← e]; simp
                  have HNM := Lib.hid hnum
                  clear hnum
                  have HZ := Lib.hid (show wrap64 (n : Int) = (n : Int) by
                    unfold wrap64
                    (try rw [IntKind.wrap_u64])
                    omega)
                  have h64 : n < 9223372036854775808 := by omega
                  clear h63
                  go_wp2
                  have h5 := set5 kz H.out.2.2.2.2.1 H.out.2.1 (.int .i64 2) (.int .i64 ((n : Int))) (.string ⟨#[]⟩) (.slice none 0 0) (.slice none 0 0)
                  (try rw [HZ.out])
                  obtain ⟨W6, hW6⟩ : ∃ W, (((((w1).setCell ⟨P, 0, none⟩ (.int .i64 2)).setCell ⟨P, 1, none⟩ (.int .i64 ((n : Int)))).setCell ⟨P, 2, none⟩ (.string ⟨#[]⟩)).setCell ⟨P, 3, none⟩ (.slice none 0 0)).setCell ⟨P, 4, none⟩ (.slice none 0 0) = W := ⟨_, rfl⟩
                  rw [hW6] at h5
                  rw [hW6]
                  have v0 := h5.1.cell 0
                  have v1 := h5.1.cell 1
                  have v2 := h5.1.cell 2
                  have v3 := h5.1.cell 3
                  have v4 := h5.1.cell 4
                  (try simp only [Exit.inBlock, Exit.then])
                  refine bodyPost_ret (v := .tuple #[.agg #[.int .i64 2, .int .i64 ((n : Int)), .string ⟨#[]⟩, .slice none 0 0, .slice none 0 0], .int .i64 j, .int .i64 0]) ?_ rfl ⟨[.int .i64 2, .int .i64 ((n : Int)), .string ⟨#[]⟩, .slice none 0 0, .slice none 0 0], j, 0, rfl, ⟨⟨_, _, _, _, _, _, _, _, _, rfl⟩, by rw [HNM.out]; exact ⟨rfl, HT.out.2.2, rfl, .int _ ⟨by omega, by omega⟩⟩⟩, h5.2⟩
                  rw [results_cell_tmp2 rfl]
                  go_simp
end Go.Proofs.YtccnfnoonpfdfaaGreatDoor
