/- json.Parse (printed by wip/gen_jno.py). -/
import Derived.Test.YtccnfnoonpfdfaaGreatDoorJnN
namespace Go.Proofs.YtccnfnoonpfdfaaGreatDoor
open Go.Shelf Go.RowKit Go.Lib

theorem new_made (c : Int) (s : ByteArray) (hc : (c == 0) = false) (w : World) : Calls Tryz.prog 30 #[.int .i64 c, .string s] w fun e w' => (∃ t u, e = .returned (.iface t u) ∧ Chain w' 1 (.iface t u) c) ∧ Below w.heap.size w w' := by
  refine (faultNew_some c s w hc).mono ?_
  rintro e w' ⟨rfl, rfl⟩
  exact ⟨⟨_, _, rfl, _, _, _, rfl, heap_alloc_new w _, rfl⟩, (Below.refl _ w).alloc (Nat.le_refl _) _⟩
/-- what Parse answers. -/
def ParsePost (w : World) (s : BL) (e : Ending) (w' : World) : Prop := match parseP s with
  | .ok v => ∃ c, e = .returned (.tuple #[.agg c.toArray, .nilIface]) ∧ Shape c ∧ VAt (fun b => w.heap.size ≤ b ∧ b < w'.heap.size) w' v c ∧ Below w.heap.size w w'
  | .error k => ∃ ev, e = .returned (.tuple #[.agg #[.int .i64 0, .int .i64 0, .string ⟨#[]⟩, .slice none 0 0, .slice none 0 0], ev]) ∧ Chain w' 1 ev k ∧ Below w.heap.size w w'
theorem post_err {w w' : World} {s : BL} {k : Nat} {ev : Value} (h : parseP s = .error k) (hc : Chain w' 1 ev k) (hb : Below w.heap.size w w') : ParsePost w s (.returned (.tuple #[.agg #[.int .i64 0, .int .i64 0, .string ⟨#[]⟩, .slice none 0 0, .slice none 0 0], ev])) w' := by
  unfold ParsePost
  rw [h]
  exact ⟨ev, rfl, hc, hb⟩

/-- a chain of one lies in one block. -/
theorem chain_only {S : Nat → Prop} {w w2 : World} {v : Value} {c : Int} (h : Chain w 1 v c) (ho : Only S w w2) (hS : ∀ {b : Nat} {xs : List Value}, Blk w b 95 xs → ¬ S b) : Chain w2 1 v c := by
  obtain ⟨b, s, u, rfl, hb, hu⟩ := h
  exact ⟨b, s, u, rfl, hb.only ho (hS hb), hu⟩
set_option maxHeartbeats 8000000 in
set_option maxRecDepth 100000 in
theorem parse_long (S : ByteArray) (s : BL) (hS : BA s = S) (w : World) (hl : 4096 < s.length) : Calls Tryz.prog 14 #[.string S] w (ParsePost w s) := by
  obtain ⟨P, hP⟩ : ∃ P, w.heap.size = P := ⟨_, rfl⟩
  have hSs : S.size = s.length := by rw [← hS, ba_size]
  have hz : (4096 : Int) < (S.size : Int) := by omega
  have hp : parseP s = .error 3 := by unfold parseP; rw [if_pos hl]
  obtain ⟨W0, hW0⟩ : ∃ W, w.alloc (.cells #[.int .i64 0, .int .i64 0, .string ⟨#[]⟩, .slice none 0 0, .slice none 0 0] 28) = W := ⟨_, rfl⟩
  have hb0 : Below w.heap.size w W0 := by rw [← hW0]; exact (Below.refl _ w).alloc (Nat.le_refl _) _
  have k0 : Blk W0 P 28 [.int .i64 0, .int .i64 0, .string ⟨#[]⟩, .slice none 0 0, .slice none 0 0] := by rw [← hW0, ← hP]; exact heap_alloc_new w _
  have hcall := new_made 3 ⟨#[106, 115, 111, 110]⟩ (by decide) W0
  have H := Lib.hid (And.intro hW0 (And.intro hcall (And.intro k0 (And.intro hb0 (And.intro hp hP)))))
  clear hSs hp hW0 hb0 k0 hcall hl hS
  go_enter Tryz.func14, Tryz.ntmps14
  go_wp2_with fail
  rw [H.out.1]
  (try rw [hP])
  refine H.out.2.1.mono ?_
  rintro e w2 ⟨⟨ty, uu, rfl, hch⟩, hb2⟩
  have hk2 := H.out.2.2.1.below hb2
  obtain ⟨W5, hW5⟩ : ∃ W5, ((((w2.setCell ⟨P, 0, none⟩ (.int .i64 0)).setCell ⟨P, 1, none⟩ (.int .i64 0)).setCell ⟨P, 2, none⟩ (.string ⟨#[]⟩)).setCell ⟨P, 3, none⟩ (.slice none 0 0)).setCell ⟨P, 4, none⟩ (.slice none 0 0) = W5 := ⟨_, rfl⟩
  obtain ⟨hR5, hO5⟩ := put5 hk2 hW5
  have hbw : Below w.heap.size w W5 := (H.out.2.2.2.1.trans (hb2.mono H.out.2.2.2.1.size)).trans (hO5.below (by have := H.out.2.2.2.1.size; have := hb2.size; omega) (fun k hk e => by have e2 : k = P := e; have := H.out.2.2.2.2.2; omega))
  have hc5 : Chain W5 1 (.iface ty uu) ((3 : Nat) : Int) := chain_only hch hO5 (fun hb => by rintro rfl; exact absurd (Blk.inj hb hk2).1 (by decide))
  have HF := Lib.hid (And.intro hW5 (And.intro hR5 (post_err (s := s) H.out.2.2.2.2.1 hc5 hbw)))
  have r0 := hk2.cell 0
  have f0 := hk2.frozen 0
  have r1 := hk2.cell 1
  have f1 := hk2.frozen 1
  have r2 := hk2.cell 2
  have f2 := hk2.frozen 2
  have r3 := hk2.cell 3
  have f3 := hk2.frozen 3
  have r4 := hk2.cell 4
  have f4 := hk2.frozen 4
  clear hW5 hk2 hR5 hO5 hbw hc5 hch hb2 hP
  go_wp2_with fail
  (try rw [HF.out.1])
  have z0 := HF.out.2.1.cell 0
  have z1 := HF.out.2.1.cell 1
  have z2 := HF.out.2.1.cell 2
  have z3 := HF.out.2.1.cell 3
  have z4 := HF.out.2.1.cell 4
  (try simp only [Exit.inBlock, Exit.then])
  refine bodyPost_ret (v := .tuple #[.agg #[.int .i64 0, .int .i64 0, .string ⟨#[]⟩, .slice none 0 0, .slice none 0 0], .iface ty uu]) ?_ rfl HF.out.2.2
  rw [results_cell_tmp rfl]
  go_simp


def finP (res : Res V) : Except Nat V := match res with
  | .error e => .error e
  | .ok p => if blankL p.2 = [] then .ok p.1 else .error 1
theorem parseP_fin (s : BL) (h : ¬ 4096 < s.length) : parseP s = finP (valP 16 (blankL s)) := by
  unfold parseP finP
  rw [if_neg h]
  cases valP 16 (blankL s) <;> rfl
/-- what is known behind the value and blanks. -/
def endS (res : Res V) : Except Nat BL := match res with
  | .ok p => .ok (blankL p.2)
  | .error e => .error e
set_option maxHeartbeats 16000000 in
set_option maxRecDepth 100000 in
theorem parse_short (S : ByteArray) (s : BL) (hS : BA s = S) (w : World) (hl : s.length ≤ 4096) (hE : Env w) (hG : 11 ≤ w.heap.size) : Calls Tryz.prog 14 #[.string S] w (ParsePost w s) := by
  obtain ⟨P, hP⟩ : ∃ P, w.heap.size = P := ⟨_, rfl⟩
  have hSs : S.size = s.length := by rw [← hS, ba_size]
  have hz : ¬ (4096 : Int) < (S.size : Int) := by omega
  have hp : parseP s = finP (valP 16 (blankL s)) := parseP_fin s (by omega)
  obtain ⟨W0, hW0⟩ : ∃ W, (w.alloc (.cells #[.int .i64 0, .int .i64 0, .string ⟨#[]⟩, .slice none 0 0, .slice none 0 0] 28)).alloc (.cells #[.string S, .int .i64 0, .int .i64 0] 64) = W := ⟨_, rfl⟩
  have hb0 : Below w.heap.size w W0 := by rw [← hW0]; exact ((Below.refl _ w).alloc (Nat.le_refl _) _).alloc (by simp) _
  have k0 : Blk W0 P 28 [.int .i64 0, .int .i64 0, .string ⟨#[]⟩, .slice none 0 0, .slice none 0 0] := by rw [← hW0, ← hP]; exact (show Blk _ w.heap.size 28 [.int .i64 0, .int .i64 0, .string ⟨#[]⟩, .slice none 0 0, .slice none 0 0] from heap_alloc_new w (.cells #[.int .i64 0, .int .i64 0, .string ⟨#[]⟩, .slice none 0 0, .slice none 0 0] 28)).alloc _
  have k1 : Blk W0 (P + 1) 64 [.string S, .int .i64 0, .int .i64 0] := by rw [← hW0, ← hP]; exact blk_new2 w _ _ _
  have hR0 : RS W0 (P + 1) s (.ok s) := ⟨0, Nat.zero_le _, rfl, by rw [← hS] at k1; exact k1⟩
  have henv : ∀ wr, Below w.heap.size w wr → Env wr := fun wr hb => hE.below hG hb
  have H := Lib.hid (And.intro hW0 (And.intro k0 (And.intro hb0 (And.intro hR0 (And.intro henv (And.intro hp (And.intro hP (And.intro (show s.length ≤ 1000000 by omega) (And.intro hS (show 11 ≤ P + 1 by omega))))))))))
  clear hW0 k0 hb0 hR0 henv hp hS k1 hl hG hE hSs
  go_enter Tryz.func14, Tryz.ntmps14
  go_wp2_with fail
  rw [H.out.1]
  (try rw [hP])
  refine (blank_any (P + 1) s (.ok s) W0 H.out.2.2.2.2.2.2.2.1 H.out.2.2.2.1).mono ?_
  rintro e w1 ⟨rfl, hr1, ho1⟩
  have hbel : ∀ wr, Only (· = P + 1) W0 wr → Below w.heap.size w wr := fun wr ho => H.out.2.2.1.trans (ho.below H.out.2.2.1.size (fun k hk e => by have e2 : k = P + 1 := e; have := H.out.2.2.2.2.2.2.1; omega))
  have hv := rv_any 16 (Nat.le_refl _) w1 (P + 1) s _ H.out.2.2.2.2.2.2.2.1 hr1 (H.out.2.2.2.2.1 w1 (hbel w1 ho1)) H.out.2.2.2.2.2.2.2.2.2
  rw [show (17 - ((16 : Nat) : Int)) = 1 from rfl, show vst ((Except.ok s : Except Nat BL).map blankL) (valP 16) = valP 16 (blankL s) from rfl] at hv
  have H1 := Lib.hid (And.intro hv (And.intro ho1 hbel))
  clear hv ho1 hr1 hbel
  go_wp2_with fail
  refine H1.out.1.mono ?_
  rintro e w2 ⟨qc, rfl, ⟨q0, q1, q2, q3, q4, q5, q6, q7, q8, rfl⟩, hm2, ho2⟩
  obtain ⟨res, hres⟩ : ∃ x, valP 16 (blankL s) = x := ⟨_, rfl⟩
  rw [hres] at hm2
  obtain ⟨N, hN⟩ : ∃ N, w2.heap.size = N := ⟨_, rfl⟩
  obtain ⟨W3, hW3⟩ : ∃ W, w2.alloc (.cells #[.int .i64 q0, .int .i64 q1, .string q2, .slice q3 q4 q5, .slice q6 q7 q8] 28) = W := ⟨_, rfl⟩
  have hb3 : Below w2.heap.size w2 W3 := by rw [← hW3]; exact (Below.refl _ w2).alloc (Nat.le_refl _) _
  have kN : Blk W3 N 28 [.int .i64 q0, .int .i64 q1, .string q2, .slice q3 q4 q5, .slice q6 q7 q8] := by rw [← hW3, ← hN]; exact heap_alloc_new w2 _
  have hR3 : RS W3 (P + 1) s (aftS res) := by
    cases res with
    | ok p => exact hm2.2.below hb3
    | error e => exact RS.below (show RS w2 (P + 1) s (.error e) from hm2) hb3
  have hV3 : ∀ p, res = .ok p → VAt (fun b => P + 2 ≤ b ∧ b < W3.heap.size) W3 p.1 [.int .i64 q0, .int .i64 q1, .string q2, .slice q3 q4 q5, .slice q6 q7 q8] := by
    intro p hp
    rw [hp] at hm2
    have hs1 : P + 2 ≤ w1.heap.size := by
      have h1 := H1.out.2.1.size
      have h2 : W0.heap.size = P + 2 := by rw [← H.out.1]; simp [H.out.2.2.2.2.2.2.1]
      omega
    refine (hm2.1.keep (T := fun b => P + 2 ≤ b ∧ b < W3.heap.size) ?_ ?_)
    · rintro b ⟨h1, h2⟩
      have := hb3.size
      exact ⟨by omega, by omega⟩
    · intro b _ k u hu
      exact bcell hb3 hu
  have hO3 : Only (· = P + 1) W0 W3 := (H1.out.2.1.trans ho2).trans (Only.ofBelow hb3 _)
  have hPN : P + 1 < N := by have := H.out.2.2.2.1.lt; have := (H1.out.2.1.trans ho2).size; omega
  have H3 := Lib.hid (And.intro hW3 (And.intro hR3 (And.intro hV3 (And.intro hO3 (And.intro kN (And.intro hPN hres))))))
  clear hW3 hb3 hR3 hV3 hO3 kN hm2 ho2 hPN hres
  go_wp2_with fail
  rw [H3.out.1]
  (try rw [hN])
  refine (blank_any (P + 1) s _ W3 H.out.2.2.2.2.2.2.2.1 H3.out.2.1).mono ?_
  rintro e w4 ⟨rfl, hr4, ho4⟩
  rw [show (aftS res).map blankL = endS res by cases res <;> rfl] at hr4
  have hO4 : Only (· = P + 1) W0 w4 := H3.out.2.2.2.1.trans ho4
  have kN4 := H3.out.2.2.2.2.1.only ho4 (fun e => by have e2 : N = P + 1 := e; have := H3.out.2.2.2.2.2.1; omega)
  have hV4 : ∀ p, res = .ok p → VAt (fun b => P + 2 ≤ b ∧ b < w4.heap.size) w4 p.1 [.int .i64 q0, .int .i64 q1, .string q2, .slice q3 q4 q5, .slice q6 q7 q8] := fun p hp => by
    refine ((H3.out.2.2.1 p hp).keep (T := fun b => P + 2 ≤ b ∧ b < w4.heap.size) ?_ ?_)
    · rintro b ⟨h1, h2⟩
      have := ho4.size
      exact ⟨h1, by omega⟩
    · rintro b ⟨h1, h2⟩ k u hu
      exact ho4.cell (fun e => by have e2 : b = P + 1 := e; omega) hu
  have hp2 : parseP s = finP res := by rw [H.out.2.2.2.2.2.1, H3.out.2.2.2.2.2.2]
  have hk4 : Blk w4 P 28 [.int .i64 0, .int .i64 0, .string ⟨#[]⟩, .slice none 0 0, .slice none 0 0] := H.out.2.1.only hO4 (fun e => by have e2 : P = P + 1 := e; omega)
  have HW := Lib.hid (And.intro hO4 (And.intro kN4 (And.intro hV4 (And.intro hp2 (And.intro hk4 H3.out.2.2.2.2.2.1)))))
  have HBE := H1.out.2.2
  have HB := Lib.hid HBE
  clear hO4 kN4 hV4 hp2 hk4 ho4 HBE hN
  obtain ⟨k, c, hk, hB4, hcase⟩ := hr4.any
  have hSs : S.size = s.length := by rw [← H.out.2.2.2.2.2.2.2.2.1, ba_size]
  have d1 := Blk.cell hB4 1
  have HR := Lib.hid (And.intro hr4 (And.intro hB4 hcase))
  clear hr4 hB4 hcase
  by_cases hkl : k < S.size
  · have hkz : (k : Int) < (S.size : Int) := by omega
    have HK := Lib.hid (show k < s.length by omega)
    clear hSs hk hkl
    go_wp2_with fail
    refine (wrong_any (P + 1) s _ 1 (by decide) w4 HR.out.1).mono ?_
    rintro e w6 ⟨rfl, hr6, ho6⟩
    have herr : ∃ c6, c6 ≠ 0 ∧ fell (endS res) 1 = .error c6 ∧ parseP s = .error c6 := by
      rcases HR.out.2.2 with ⟨rfl, he⟩ | ⟨hc, he⟩
      · cases res with
        | error e => cases he
        | ok p =>
          refine ⟨1, by decide, rfl, ?_⟩
          rw [HW.out.2.2.2.1]
          have he2 : blankL p.2 = s.drop k := by injection he
          show (if blankL p.2 = [] then Except.ok p.1 else Except.error 1) = _
          rw [if_neg (by rw [he2]; intro h; have h9 := congrArg List.length h; rw [List.length_drop, List.length_nil] at h9; have := HK.out; omega)]
      · cases res with
        | ok p => cases he
        | error e =>
          have he2 : e = c := by injection he
          subst he2
          exact ⟨e, hc, rfl, by rw [HW.out.2.2.2.1]; rfl⟩
    obtain ⟨c6, hc6, hfe, hpe⟩ := herr
    rw [hfe] at hr6
    obtain ⟨_, k6, hk6, hB6⟩ := hr6
    have hO6 := HW.out.1.trans ho6
    have hk6' : Blk w6 P 28 [.int .i64 0, .int .i64 0, .string ⟨#[]⟩, .slice none 0 0, .slice none 0 0] := HW.out.2.2.2.2.1.only ho6 (fun e => by have e2 : P = P + 1 := e; omega)
    clear hk6 hfe ho6 d1
    have d2 := Blk.cell hB6 2
    have hz0 : ((c6 : Int) != 0) = true := by rw [bne, beq_eq_false_iff_ne.2 (show (c6 : Int) ≠ 0 by omega)]; rfl
    have hz1 : ¬ (c6 : Int) = 0 := by omega
    have hcall := new_made (c6 : Int) ⟨#[106, 115, 111, 110]⟩ (beq_eq_false_iff_ne.2 (by omega)) w6
    have HC := Lib.hid (And.intro hcall (And.intro hO6 (And.intro hk6' (And.intro hpe (HB.out w6 hO6)))))
    clear hcall hO6 hk6' hpe hc6 hB6
    go_wp2_with fail
    refine HC.out.1.mono ?_
    rintro e w7 ⟨⟨ty, uu, rfl, hch⟩, hb7⟩
    have hk7 := HC.out.2.2.1.below hb7
    obtain ⟨W5, hW5⟩ : ∃ W5, ((((w7.setCell ⟨P, 0, none⟩ (.int .i64 0)).setCell ⟨P, 1, none⟩ (.int .i64 0)).setCell ⟨P, 2, none⟩ (.string ⟨#[]⟩)).setCell ⟨P, 3, none⟩ (.slice none 0 0)).setCell ⟨P, 4, none⟩ (.slice none 0 0) = W5 := ⟨_, rfl⟩
    obtain ⟨hR5, hO5⟩ := put5 hk7 hW5
    have hbw7 : Below w.heap.size w w7 := HC.out.2.2.2.2.trans (hb7.mono HC.out.2.2.2.2.size)
    have hbw : Below w.heap.size w W5 := hbw7.trans (hO5.below hbw7.size (fun k hk e => by have e2 : k = P := e; have := H.out.2.2.2.2.2.2.1; omega))
    have hc5 : Chain W5 1 (.iface ty uu) ((c6 : Nat) : Int) := chain_only hch hO5 (fun hb => by rintro rfl; exact absurd (Blk.inj hb hk7).1 (by decide))
    have HF := Lib.hid (And.intro hW5 (And.intro hR5 (post_err (s := s) HC.out.2.2.2.1 hc5 hbw)))
    have r0 := hk7.cell 0
    have f0 := hk7.frozen 0
    have r1 := hk7.cell 1
    have f1 := hk7.frozen 1
    have r2 := hk7.cell 2
    have f2 := hk7.frozen 2
    have r3 := hk7.cell 3
    have f3 := hk7.frozen 3
    have r4 := hk7.cell 4
    have f4 := hk7.frozen 4
    clear hW5 hk7 hR5 hO5 hbw hc5 hch hb7 hbw7
    go_wp2_with fail
    (try rw [HF.out.1])
    have z0 := HF.out.2.1.cell 0
    have z1 := HF.out.2.1.cell 1
    have z2 := HF.out.2.1.cell 2
    have z3 := HF.out.2.1.cell 3
    have z4 := HF.out.2.1.cell 4
    (try simp only [Exit.inBlock, Exit.then])
    refine bodyPost_ret (v := .tuple #[.agg #[.int .i64 0, .int .i64 0, .string ⟨#[]⟩, .slice none 0 0, .slice none 0 0], .iface ty uu]) ?_ rfl HF.out.2.2
    rw [results_cell_tmp rfl]
    go_simp
  · have hkz : ¬ (k : Int) < (S.size : Int) := by omega
    have hdr : s.drop k = [] := List.drop_eq_nil_of_le (by omega)
    have HD := Lib.hid hdr
    clear hSs hk hkl hdr
    cases res with
    | error e0 =>
      have he : e0 = c ∧ c ≠ 0 := by
        rcases HR.out.2.2 with ⟨_, he⟩ | ⟨hc, he⟩
        · cases he
        · have he2 : e0 = c := by injection he
          exact ⟨he2, hc⟩
      obtain ⟨rfl, hc6⟩ := he
      have hpe : parseP s = .error e0 := by rw [HW.out.2.2.2.1]; rfl
      have hB6 := HR.out.2.1
      have hO6 := HW.out.1
      have hk6' := HW.out.2.2.2.2.1
      have d2 := Blk.cell hB6 2
      have hz0 : ((e0 : Int) != 0) = true := by rw [bne, beq_eq_false_iff_ne.2 (show (e0 : Int) ≠ 0 by omega)]; rfl
      have hz1 : ¬ (e0 : Int) = 0 := by omega
      have hcall := new_made (e0 : Int) ⟨#[106, 115, 111, 110]⟩ (beq_eq_false_iff_ne.2 (by omega)) w4
      have HC := Lib.hid (And.intro hcall (And.intro hO6 (And.intro hk6' (And.intro hpe (HB.out w4 hO6)))))
      clear hcall hO6 hk6' hpe hc6 hB6
      go_wp2_with fail
      refine HC.out.1.mono ?_
      rintro e w7 ⟨⟨ty, uu, rfl, hch⟩, hb7⟩
      have hk7 := HC.out.2.2.1.below hb7
      obtain ⟨W5, hW5⟩ : ∃ W5, ((((w7.setCell ⟨P, 0, none⟩ (.int .i64 0)).setCell ⟨P, 1, none⟩ (.int .i64 0)).setCell ⟨P, 2, none⟩ (.string ⟨#[]⟩)).setCell ⟨P, 3, none⟩ (.slice none 0 0)).setCell ⟨P, 4, none⟩ (.slice none 0 0) = W5 := ⟨_, rfl⟩
      obtain ⟨hR5, hO5⟩ := put5 hk7 hW5
      have hbw7 : Below w.heap.size w w7 := HC.out.2.2.2.2.trans (hb7.mono HC.out.2.2.2.2.size)
      have hbw : Below w.heap.size w W5 := hbw7.trans (hO5.below hbw7.size (fun k hk e => by have e2 : k = P := e; have := H.out.2.2.2.2.2.2.1; omega))
      have hc5 : Chain W5 1 (.iface ty uu) ((e0 : Nat) : Int) := chain_only hch hO5 (fun hb => by rintro rfl; exact absurd (Blk.inj hb hk7).1 (by decide))
      have HF := Lib.hid (And.intro hW5 (And.intro hR5 (post_err (s := s) HC.out.2.2.2.1 hc5 hbw)))
      have r0 := hk7.cell 0
      have f0 := hk7.frozen 0
      have r1 := hk7.cell 1
      have f1 := hk7.frozen 1
      have r2 := hk7.cell 2
      have f2 := hk7.frozen 2
      have r3 := hk7.cell 3
      have f3 := hk7.frozen 3
      have r4 := hk7.cell 4
      have f4 := hk7.frozen 4
      clear hW5 hk7 hR5 hO5 hbw hc5 hch hb7 hbw7
      go_wp2_with fail
      (try rw [HF.out.1])
      have z0 := HF.out.2.1.cell 0
      have z1 := HF.out.2.1.cell 1
      have z2 := HF.out.2.1.cell 2
      have z3 := HF.out.2.1.cell 3
      have z4 := HF.out.2.1.cell 4
      (try simp only [Exit.inBlock, Exit.then])
      refine bodyPost_ret (v := .tuple #[.agg #[.int .i64 0, .int .i64 0, .string ⟨#[]⟩, .slice none 0 0, .slice none 0 0], .iface ty uu]) ?_ rfl HF.out.2.2
      rw [results_cell_tmp rfl]
      go_simp
    | ok p =>
      have he : c = 0 ∧ blankL p.2 = [] := by
        rcases HR.out.2.2 with ⟨hc, he⟩ | ⟨hc, he⟩
        · have he2 : blankL p.2 = s.drop k := by injection he
          exact ⟨hc, by rw [he2, HD.out]⟩
        · cases he
      obtain ⟨rfl, hbl⟩ := he
      have hpo : parseP s = .ok p.1 := by rw [HW.out.2.2.2.1]; exact if_pos hbl
      have d2 := Blk.cell HR.out.2.1 2
      have hz0 : (((0 : Nat) : Int) != 0) = false := rfl
      obtain ⟨W5, hW5⟩ : ∃ W5, ((((w4.setCell ⟨P, 0, none⟩ (.int .i64 q0)).setCell ⟨P, 1, none⟩ (.int .i64 q1)).setCell ⟨P, 2, none⟩ (.string q2)).setCell ⟨P, 3, none⟩ (.slice q3 q4 q5)).setCell ⟨P, 4, none⟩ (.slice q6 q7 q8) = W5 := ⟨_, rfl⟩
      obtain ⟨hR5, hO5⟩ := put5 HW.out.2.2.2.2.1 hW5
      have hbw : Below w.heap.size w W5 := (HB.out w4 HW.out.1).trans (hO5.below (HB.out w4 HW.out.1).size (fun k hk e => by have e2 : k = P := e; have := H.out.2.2.2.2.2.2.1; omega))
      have hV5 : VAt (fun b => w.heap.size ≤ b ∧ b < W5.heap.size) W5 p.1 [.int .i64 q0, .int .i64 q1, .string q2, .slice q3 q4 q5, .slice q6 q7 q8] := by
        refine (HW.out.2.2.1 p rfl).keep ?_ ?_
        · rintro b ⟨h1, h2⟩
          have := hO5.size
          have := H.out.2.2.2.2.2.2.1
          exact ⟨by omega, by omega⟩
        · rintro b ⟨h1, h2⟩ j u hu
          exact hO5.cell (fun e => by have e2 : b = P := e; omega) hu
      have HF := Lib.hid (And.intro hW5 (And.intro hR5 (show ParsePost w s (.returned (.tuple #[.agg #[.int .i64 q0, .int .i64 q1, .string q2, .slice q3 q4 q5, .slice q6 q7 q8], .nilIface])) W5 by
        unfold ParsePost
        rw [hpo]
        exact ⟨_, rfl, ⟨_, _, _, _, _, _, _, _, _, rfl⟩, hV5, hbw⟩)))
      have hk4 := HW.out.2.2.2.2.1
      have kN4 := HW.out.2.1
      have hNP : ¬ N = P := by have := HW.out.2.2.2.2.2; omega
      have hPN : ¬ P = N := by omega
      have r0 := hk4.cell 0
      have f0 := hk4.frozen 0
      have r1 := hk4.cell 1
      have f1 := hk4.frozen 1
      have r2 := hk4.cell 2
      have f2 := hk4.frozen 2
      have r3 := hk4.cell 3
      have f3 := hk4.frozen 3
      have r4 := hk4.cell 4
      have f4 := hk4.frozen 4
      have n0 := kN4.cell 0
      have n1 := kN4.cell 1
      have n2 := kN4.cell 2
      have n3 := kN4.cell 3
      have n4 := kN4.cell 4
      clear hW5 hR5 hO5 hbw hV5 hk4 kN4 hpo hbl
      go_wp2_with fail
      (try rw [HF.out.1])
      have z0 := HF.out.2.1.cell 0
      have z1 := HF.out.2.1.cell 1
      have z2 := HF.out.2.1.cell 2
      have z3 := HF.out.2.1.cell 3
      have z4 := HF.out.2.1.cell 4
      (try simp only [Exit.inBlock, Exit.then])
      refine bodyPost_ret (v := .tuple #[.agg #[.int .i64 q0, .int .i64 q1, .string q2, .slice q3 q4 q5, .slice q6 q7 q8], .nilIface]) ?_ rfl HF.out.2.2
      rw [results_cell_tmp rfl]
      go_simp
theorem parse_any' (s : BL) (w : World) (hE : Env w) (hG : 11 ≤ w.heap.size) : Calls Tryz.prog 14 #[.string (BA s)] w (ParsePost w s) := by
  by_cases hl : s.length ≤ 4096
  · exact parse_short (BA s) s rfl w hl hE hG
  · exact parse_long (BA s) s rfl w (by omega)
end Go.Proofs.YtccnfnoonpfdfaaGreatDoor
