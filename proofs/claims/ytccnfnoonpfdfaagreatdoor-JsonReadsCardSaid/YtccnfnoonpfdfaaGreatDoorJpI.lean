/- The law's read, and Read (printed by wip/gen_jpi.py). -/
import Derived.Test.YtccnfnoonpfdfaaGreatDoorJpH
namespace Go.Proofs.YtccnfnoonpfdfaaGreatDoor
open Go.Shelf Go.RowKit Go.Lib

theorem lres_move {s : BL} {res : Res V} {S T : Nat → Prop} {w5 W9 : World} {P : Nat} {c : List Value} {j k : Nat} (h : LRes s res S w5 c j k) (ho : Only (fun x => x = P) w5 W9) (hS : ∀ b, S b → b ≠ P) (hT : ∀ b, S b → T b) : LRes s res T W9 c j k := by
  refine ⟨h.1, ?_⟩
  have h2 := h.2
  cases res with
  | error e => exact h2
  | ok p => exact ⟨h2.1, h2.2.1, h2.2.2.1, h2.2.2.2.keep hT (fun b hb k u hu => ho.cell (fun e => hS b hb e) hu)⟩
theorem num_int {m : Bool} {x : BL} {p : V × BL} (h : numP m x = .ok p) : ∃ z, p.1 = .int z := by
  unfold numP at h
  by_cases h1 : takeN x = []
  · rw [if_pos h1] at h; cases h
  · rw [if_neg h1] at h
    by_cases h4 : isDot (x.drop (takeN x).length)
    · rw [if_pos h4] at h; cases h
    · rw [if_neg h4] at h
      split at h
      · cases h; exact ⟨_, rfl⟩
      · cases h
theorem lres_num {s : BL} {m : Bool} {x : BL} {S T : Nat → Prop} {w : World} {c : List Value} {j k : Nat} (h : LRes s (numP m x) S w c j k) : LRes s (numP m x) T w c j k := by
  refine ⟨h.1, ?_⟩
  have h2 := h.2
  cases hr : numP m x with
  | error e => rw [hr] at h2; exact h2
  | ok p =>
    rw [hr] at h2
    obtain ⟨z, hz⟩ := num_int hr
    obtain ⟨v, t⟩ := p
    have hz2 : v = .int z := hz
    subst hz2
    refine ⟨h2.1, h2.2.1, h2.2.2.1, ?_⟩
    have h3 := h2.2.2.2
    cases h3 with
    | int _ hn => exact .int _ hn
theorem body_nil (n : Nat) : bodyP (valP n) [] = .error 1 := rfl
theorem drop_at {s : BL} {i : Nat} {c : UInt8} (h : s[i]? = some c) : s.drop i = c :: s.drop (i + 1) := by
  obtain ⟨hi, he⟩ := List.getElem?_eq_some_iff.1 h
  rw [List.drop_eq_getElem_cons hi, he]
theorem isL_yes (c : UInt8) (t : BL) : isL [c] (c :: t) = some t := by rw [isL, if_pos rfl, isL]
theorem isL_no {a c : UInt8} (h : (c == a) = false) (t : BL) : isL [a] (c :: t) = none := by
  rw [isL, if_neg (fun e => by rw [e] at h; simp at h)]
theorem isL_drop {s t r : BL} {i : Nat} (hi : i ≤ s.length) (h : isL t (s.drop i) = some r) : i + t.length ≤ s.length ∧ s.drop (i + t.length) = r := by
  have h1 := isL_len h
  have h2 := congrArg List.length h1
  rw [List.length_append, List.length_drop] at h2
  have h3 := congrArg (List.drop t.length) h1
  rw [List.drop_drop, List.drop_left] at h3
  exact ⟨by omega, h3⟩
set_option maxHeartbeats 8000000 in
set_option maxRecDepth 100000 in
theorem lread_zero : LRV 0 := by
  intro s K hK hs i hi w
  obtain ⟨P, hP⟩ : ∃ P, w.heap.size = P := ⟨_, rfl⟩
  obtain ⟨W0, hW0⟩ : ∃ W, w.alloc (.cells #[.int .i64 0, .int .i64 0, .string ⟨#[]⟩, .slice none 0 0, .slice none 0 0] 28) = W := ⟨_, rfl⟩
  have hb0 : Below w.heap.size w W0 := by rw [← hW0]; exact (Below.refl _ w).alloc (Nat.le_refl _) _
  have k0 : Blk W0 P 28 [.int .i64 0, .int .i64 0, .string ⟨#[]⟩, .slice none 0 0, .slice none 0 0] := by rw [← hW0, ← hP]; exact heap_alloc_new w _
  have H := Lib.hid (And.intro hW0 (And.intro hP (And.intro hb0 k0)))
  clear hW0 hb0 k0 hK
  rw [show (17 - ((0 : Nat) : Int)) = 17 from rfl]
  go_enter Tryz.func37, Tryz.ntmps37
  go_upto_region 2 with fail
  rw [H.out.1]
  (try rw [hP])
  have r0 := (H.out.2.2.2).cell 0
  have f0 := (H.out.2.2.2).frozen 0
  have r1 := (H.out.2.2.2).cell 1
  have f1 := (H.out.2.2.2).frozen 1
  have r2 := (H.out.2.2.2).cell 2
  have f2 := (H.out.2.2.2).frozen 2
  have r3 := (H.out.2.2.2).cell 3
  have f3 := (H.out.2.2.2).frozen 3
  have r4 := (H.out.2.2.2).cell 4
  have f4 := (H.out.2.2.2).frozen 4
  obtain ⟨W9, hW9⟩ : ∃ W, (((((W0).setCell ⟨P, 0, none⟩ (.int .i64 0)).setCell ⟨P, 1, none⟩ (.int .i64 0)).setCell ⟨P, 2, none⟩ (.string ⟨#[]⟩)).setCell ⟨P, 3, none⟩ (.slice none 0 0)).setCell ⟨P, 4, none⟩ (.slice none 0 0) = W := ⟨_, rfl⟩
  obtain ⟨k9, ho9⟩ := put5 (H.out.2.2.2) hW9
  have hb9 := ret_below (H.out.2.2.1) ho9 (by omega)
  have HL := Lib.hid (And.intro (show LRes s (.error 2) (fun b => w.heap.size ≤ b ∧ b < W9.heap.size) W9 [.int .i64 0, .int .i64 0, .string ⟨#[]⟩, .slice none 0 0, .slice none 0 0] i 2 from ⟨⟨_, _, _, _, _, _, _, _, _, rfl⟩, rfl, by decide⟩) (And.intro hb9 (And.intro hW9 k9)))
  clear k9 ho9 hb9 hW9
  go_wp2
  (try rw [HL.out.2.2.1])
  clear r0 r1 r2 r3 r4 f0 f1 f2 f3 f4
  have v0 := HL.out.2.2.2.cell 0
  have v1 := HL.out.2.2.2.cell 1
  have v2 := HL.out.2.2.2.cell 2
  have v3 := HL.out.2.2.2.cell 3
  have v4 := HL.out.2.2.2.cell 4
  (try simp only [Exit.inBlock, Exit.then])
  refine bodyPost_ret (v := .tuple #[.agg #[.int .i64 0, .int .i64 0, .string ⟨#[]⟩, .slice none 0 0, .slice none 0 0], .int .i64 i, .int .i64 2]) ?_ rfl ⟨[.int .i64 0, .int .i64 0, .string ⟨#[]⟩, .slice none 0 0, .slice none 0 0], i, 2, rfl, HL.out.1, HL.out.2.1⟩
  rw [results_cell_tmp2 rfl]
  go_simp
set_option maxHeartbeats 8000000 in
set_option maxRecDepth 100000 in
theorem lread_succ (n : Nat) (hn : n ≤ 15) (hrec : LRV n) : LRV (n + 1) := by
  intro s K hK hs i hi w
  have hN : K.size = s.length := by rw [← hK, ba_size]
  rw [show (17 - ((n + 1 : Nat) : Int)) = 16 - (n : Int) by omega]
  have hlist := fun (j : Nat) (hj : j ≤ s.length) (w : World) => lmany_list n (by omega) hrec s K hK hs j hj w
  have hobj := fun (j : Nat) (hj : j ≤ s.length) (w : World) => lmany_obj n (by omega) hrec s K hK hs j hj w
  obtain ⟨d, hd⟩ : ∃ d : Int, 16 - (n : Int) = d := ⟨_, rfl⟩
  have hd16 : ¬ (16 : Int) < d := by omega
  rw [hd] at hlist hobj ⊢
  show Calls _ _ _ _ (LVal s (bodyP (valP n) (s.drop i)) w)
  obtain ⟨P, hP⟩ : ∃ P, w.heap.size = P := ⟨_, rfl⟩
  obtain ⟨W0, hW0⟩ : ∃ W, w.alloc (.cells #[.int .i64 0, .int .i64 0, .string ⟨#[]⟩, .slice none 0 0, .slice none 0 0] 28) = W := ⟨_, rfl⟩
  have hb0 : Below w.heap.size w W0 := by rw [← hW0]; exact (Below.refl _ w).alloc (Nat.le_refl _) _
  have k0 : Blk W0 P 28 [.int .i64 0, .int .i64 0, .string ⟨#[]⟩, .slice none 0 0, .slice none 0 0] := by rw [← hW0, ← hP]; exact heap_alloc_new w _
  have H := Lib.hid (And.intro hW0 (And.intro hP (And.intro hb0 (And.intro k0 hK))))
  have HC := Lib.hid (And.intro hlist hobj)
  clear hW0 hb0 k0 hK hrec hlist hobj hd
  go_enter Tryz.func37, Tryz.ntmps37
  by_cases hil : i < s.length
  · have hiz : ¬ (K.size : Int) ≤ (i : Int) := by omega
    have hiz2 : ¬ (s.length : Int) ≤ (i : Int) := by omega
    have hiz3 : (i : Int) < (K.size : Int) := by omega
    have hiK : i < K.size := by omega
    obtain ⟨c, hc⟩ : ∃ c, K[i] = c := ⟨_, rfl⟩
    have hcs : s[i]? = some c := by rw [← hc]; exact ba_get H.out.2.2.2.2 i hiK
    have hdr := drop_at hcs
    have hw1 : IntKind.i64.wrap ((i : Int) + 1) = ((i + 1 : Nat) : Int) := by rw [IntWalk.i64_in _ (by omega)]; omega
    have hw4 : IntKind.i64.wrap ((i : Int) + 4) = ((i + 4 : Nat) : Int) := by rw [IntWalk.i64_in _ (by omega)]; omega
    have hw5 : IntKind.i64.wrap ((i : Int) + 5) = ((i + 5 : Nat) : Int) := by rw [IntWalk.i64_in _ (by omega)]; omega
    have HD := Lib.hid hdr
    clear hcs hdr
    go_wp2_with fail
    rw [H.out.1]
    (try rw [hP])
    refine (show Calls _ _ _ _ _ from lis_any s [110, 117, 108, 108] K ⟨#[110, 117, 108, 108]⟩ H.out.2.2.2.2 rfl i hi hs (by decide) W0).mono ?_
    rintro e w1 ⟨rfl, hw⟩
    replace hw := hw.symm
    subst hw
    cases h0 : isL [110, 117, 108, 108] (s.drop i) with
    | some t =>
      obtain ⟨hj, ht⟩ := isL_drop hi h0
      have HQ := Lib.hid (And.intro (rv_word n (s.drop i) t 0 (by omega) (fun j hj => absurd hj (by omega)) h0) (And.intro hj ht))
      clear h0 hj ht
      (try simp only [Option.isSome_some])
      have r0 := (H.out.2.2.2.1).cell 0
      have f0 := (H.out.2.2.2.1).frozen 0
      have r1 := (H.out.2.2.2.1).cell 1
      have f1 := (H.out.2.2.2.1).frozen 1
      have r2 := (H.out.2.2.2.1).cell 2
      have f2 := (H.out.2.2.2.1).frozen 2
      have r3 := (H.out.2.2.2.1).cell 3
      have f3 := (H.out.2.2.2.1).frozen 3
      have r4 := (H.out.2.2.2.1).cell 4
      have f4 := (H.out.2.2.2.1).frozen 4
      obtain ⟨W9, hW9⟩ : ∃ W, (((((W0).setCell ⟨P, 0, none⟩ (.int .i64 0)).setCell ⟨P, 1, none⟩ (.int .i64 0)).setCell ⟨P, 2, none⟩ (.string ⟨#[]⟩)).setCell ⟨P, 3, none⟩ (.slice none 0 0)).setCell ⟨P, 4, none⟩ (.slice none 0 0) = W := ⟨_, rfl⟩
      obtain ⟨k9, ho9⟩ := put5 (H.out.2.2.2.1) hW9
      have hb9 := ret_below (H.out.2.2.1) ho9 (by omega)
      have HL := Lib.hid (And.intro (show LRes s (bodyP (valP n) (s.drop i)) (fun b => w.heap.size ≤ b ∧ b < W9.heap.size) W9 [.int .i64 0, .int .i64 0, .string ⟨#[]⟩, .slice none 0 0, .slice none 0 0] (i + 4) 0 from by rw [HQ.out.1]; exact ⟨⟨_, _, _, _, _, _, _, _, _, rfl⟩, rfl, HQ.out.2.1, HQ.out.2.2, .null⟩) (And.intro hb9 (And.intro hW9 k9)))
      clear k9 ho9 hb9 hW9
      go_wp2
      (try rw [HL.out.2.2.1])
      clear r0 r1 r2 r3 r4 f0 f1 f2 f3 f4
      have v0 := HL.out.2.2.2.cell 0
      have v1 := HL.out.2.2.2.cell 1
      have v2 := HL.out.2.2.2.cell 2
      have v3 := HL.out.2.2.2.cell 3
      have v4 := HL.out.2.2.2.cell 4
      (try simp only [Exit.inBlock, Exit.then])
      refine bodyPost_ret (v := .tuple #[.agg #[.int .i64 0, .int .i64 0, .string ⟨#[]⟩, .slice none 0 0, .slice none 0 0], .int .i64 ((i + 4 : Nat) : Int), .int .i64 0]) ?_ rfl ⟨[.int .i64 0, .int .i64 0, .string ⟨#[]⟩, .slice none 0 0, .slice none 0 0], i + 4, 0, rfl, HL.out.1, HL.out.2.1⟩
      rw [results_cell_tmp2 rfl]
      go_simp
    | none =>
    (try simp only [Option.isSome_none])
    have HN0 := Lib.hid h0
    clear h0
    go_wp2_with fail
    refine (show Calls _ _ _ _ _ from lis_any s [116, 114, 117, 101] K ⟨#[116, 114, 117, 101]⟩ H.out.2.2.2.2 rfl i hi hs (by decide) _).mono ?_
    rintro e w1 ⟨rfl, hw⟩
    replace hw := hw.symm
    subst hw
    cases h0 : isL [116, 114, 117, 101] (s.drop i) with
    | some t =>
      obtain ⟨hj, ht⟩ := isL_drop hi h0
      have HQ := Lib.hid (And.intro (rv_word n (s.drop i) t 1 (by omega) (fun j hj => by
        obtain rfl : j = 0 := by omega
        exact HN0.out) h0) (And.intro hj ht))
      clear h0 hj ht
      (try simp only [Option.isSome_some])
      have r0 := (H.out.2.2.2.1).cell 0
      have f0 := (H.out.2.2.2.1).frozen 0
      have r1 := (H.out.2.2.2.1).cell 1
      have f1 := (H.out.2.2.2.1).frozen 1
      have r2 := (H.out.2.2.2.1).cell 2
      have f2 := (H.out.2.2.2.1).frozen 2
      have r3 := (H.out.2.2.2.1).cell 3
      have f3 := (H.out.2.2.2.1).frozen 3
      have r4 := (H.out.2.2.2.1).cell 4
      have f4 := (H.out.2.2.2.1).frozen 4
      obtain ⟨W9, hW9⟩ : ∃ W, (((((W0).setCell ⟨P, 0, none⟩ (.int .i64 1)).setCell ⟨P, 1, none⟩ (.int .i64 1)).setCell ⟨P, 2, none⟩ (.string ⟨#[]⟩)).setCell ⟨P, 3, none⟩ (.slice none 0 0)).setCell ⟨P, 4, none⟩ (.slice none 0 0) = W := ⟨_, rfl⟩
      obtain ⟨k9, ho9⟩ := put5 (H.out.2.2.2.1) hW9
      have hb9 := ret_below (H.out.2.2.1) ho9 (by omega)
      have HL := Lib.hid (And.intro (show LRes s (bodyP (valP n) (s.drop i)) (fun b => w.heap.size ≤ b ∧ b < W9.heap.size) W9 [.int .i64 1, .int .i64 1, .string ⟨#[]⟩, .slice none 0 0, .slice none 0 0] (i + 4) 0 from by rw [HQ.out.1]; exact ⟨⟨_, _, _, _, _, _, _, _, _, rfl⟩, rfl, HQ.out.2.1, HQ.out.2.2, .bool 1 (by decide)⟩) (And.intro hb9 (And.intro hW9 k9)))
      clear k9 ho9 hb9 hW9
      go_wp2
      (try rw [HL.out.2.2.1])
      clear r0 r1 r2 r3 r4 f0 f1 f2 f3 f4
      have v0 := HL.out.2.2.2.cell 0
      have v1 := HL.out.2.2.2.cell 1
      have v2 := HL.out.2.2.2.cell 2
      have v3 := HL.out.2.2.2.cell 3
      have v4 := HL.out.2.2.2.cell 4
      (try simp only [Exit.inBlock, Exit.then])
      refine bodyPost_ret (v := .tuple #[.agg #[.int .i64 1, .int .i64 1, .string ⟨#[]⟩, .slice none 0 0, .slice none 0 0], .int .i64 ((i + 4 : Nat) : Int), .int .i64 0]) ?_ rfl ⟨[.int .i64 1, .int .i64 1, .string ⟨#[]⟩, .slice none 0 0, .slice none 0 0], i + 4, 0, rfl, HL.out.1, HL.out.2.1⟩
      rw [results_cell_tmp2 rfl]
      go_simp
    | none =>
    (try simp only [Option.isSome_none])
    have HN1 := Lib.hid h0
    clear h0
    go_wp2_with fail
    refine (show Calls _ _ _ _ _ from lis_any s [102, 97, 108, 115, 101] K ⟨#[102, 97, 108, 115, 101]⟩ H.out.2.2.2.2 rfl i hi hs (by decide) _).mono ?_
    rintro e w1 ⟨rfl, hw⟩
    replace hw := hw.symm
    subst hw
    cases h0 : isL [102, 97, 108, 115, 101] (s.drop i) with
    | some t =>
      obtain ⟨hj, ht⟩ := isL_drop hi h0
      have HQ := Lib.hid (And.intro (rv_word n (s.drop i) t 2 (by omega) (fun j hj => by
        rcases (show j = 0 ∨ j = 1 by omega) with rfl | rfl
        · exact HN0.out
        · exact HN1.out) h0) (And.intro hj ht))
      clear h0 hj ht
      (try simp only [Option.isSome_some])
      have r0 := (H.out.2.2.2.1).cell 0
      have f0 := (H.out.2.2.2.1).frozen 0
      have r1 := (H.out.2.2.2.1).cell 1
      have f1 := (H.out.2.2.2.1).frozen 1
      have r2 := (H.out.2.2.2.1).cell 2
      have f2 := (H.out.2.2.2.1).frozen 2
      have r3 := (H.out.2.2.2.1).cell 3
      have f3 := (H.out.2.2.2.1).frozen 3
      have r4 := (H.out.2.2.2.1).cell 4
      have f4 := (H.out.2.2.2.1).frozen 4
      obtain ⟨W9, hW9⟩ : ∃ W, (((((W0).setCell ⟨P, 0, none⟩ (.int .i64 1)).setCell ⟨P, 1, none⟩ (.int .i64 0)).setCell ⟨P, 2, none⟩ (.string ⟨#[]⟩)).setCell ⟨P, 3, none⟩ (.slice none 0 0)).setCell ⟨P, 4, none⟩ (.slice none 0 0) = W := ⟨_, rfl⟩
      obtain ⟨k9, ho9⟩ := put5 (H.out.2.2.2.1) hW9
      have hb9 := ret_below (H.out.2.2.1) ho9 (by omega)
      have HL := Lib.hid (And.intro (show LRes s (bodyP (valP n) (s.drop i)) (fun b => w.heap.size ≤ b ∧ b < W9.heap.size) W9 [.int .i64 1, .int .i64 0, .string ⟨#[]⟩, .slice none 0 0, .slice none 0 0] (i + 5) 0 from by rw [HQ.out.1]; exact ⟨⟨_, _, _, _, _, _, _, _, _, rfl⟩, rfl, HQ.out.2.1, HQ.out.2.2, .bool 0 (by decide)⟩) (And.intro hb9 (And.intro hW9 k9)))
      clear k9 ho9 hb9 hW9
      go_wp2
      (try rw [HL.out.2.2.1])
      clear r0 r1 r2 r3 r4 f0 f1 f2 f3 f4
      have v0 := HL.out.2.2.2.cell 0
      have v1 := HL.out.2.2.2.cell 1
      have v2 := HL.out.2.2.2.cell 2
      have v3 := HL.out.2.2.2.cell 3
      have v4 := HL.out.2.2.2.cell 4
      (try simp only [Exit.inBlock, Exit.then])
      refine bodyPost_ret (v := .tuple #[.agg #[.int .i64 1, .int .i64 0, .string ⟨#[]⟩, .slice none 0 0, .slice none 0 0], .int .i64 ((i + 5 : Nat) : Int), .int .i64 0]) ?_ rfl ⟨[.int .i64 1, .int .i64 0, .string ⟨#[]⟩, .slice none 0 0, .slice none 0 0], i + 5, 0, rfl, HL.out.1, HL.out.2.1⟩
      rw [results_cell_tmp2 rfl]
      go_simp
    | none =>
    (try simp only [Option.isSome_none])
    have hskip := rv_skip n (s.drop i) (fun j hj => by
      rcases (show j = 0 ∨ j = 1 ∨ j = 2 by omega) with rfl | rfl | rfl
      · exact HN0.out
      · exact HN1.out
      · exact h0)
    rw [HD.out] at hskip
    have HSK := Lib.hid hskip
    clear h0 hskip HN0 HN1
    obtain ⟨x1, hx1⟩ : ∃ x, (c == 91) = x := ⟨_, rfl⟩
    have q1 : (((c.toNat : Nat) : Int) == 91) = x1 := (u8_eq c 91 (by decide)).trans hx1
    obtain ⟨x2, hx2⟩ : ∃ x, (c == 123) = x := ⟨_, rfl⟩
    have q2 : (((c.toNat : Nat) : Int) == 123) = x2 := (u8_eq c 123 (by decide)).trans hx2
    obtain ⟨x3, hx3⟩ : ∃ x, (c == 34) = x := ⟨_, rfl⟩
    have q3 : (((c.toNat : Nat) : Int) == 34) = x3 := (u8_eq c 34 (by decide)).trans hx3
    have HX := Lib.hid (And.intro hx1 (And.intro hx2 hx3))
    clear hx1 hx2 hx3
    cases x1 with
    | true =>
      have HQ := Lib.hid (show bodyP (valP n) (s.drop i) = listP (valP n) (s.drop (i + 1)) by
        have h := HSK.out
        rw [beq_iff_eq.1 HX.out.1, isL_yes] at h
        rw [HD.out, beq_iff_eq.1 HX.out.1]
        exact h)
      obtain ⟨i2, hi2⟩ : ∃ x, i + 1 = x := ⟨_, rfl⟩
      rw [hi2] at hw1 HQ
      go_wp2_with fail
      refine (show Calls _ _ _ _ _ from HC.out.1 i2 (by omega) _).mono ?_
      rintro e w5 ⟨cc, j3, k3, rfl, hres, hb5⟩
      obtain ⟨q0, q1, q2, q3, q4, q5, q6, q7, q8, rfl⟩ := hres.1
      have k5 := H.out.2.2.2.1.below hb5
      have hbw := H.out.2.2.1.trans (hb5.mono H.out.2.2.1.size)
      have r0 := (k5).cell 0
      have f0 := (k5).frozen 0
      have r1 := (k5).cell 1
      have f1 := (k5).frozen 1
      have r2 := (k5).cell 2
      have f2 := (k5).frozen 2
      have r3 := (k5).cell 3
      have f3 := (k5).frozen 3
      have r4 := (k5).cell 4
      have f4 := (k5).frozen 4
      obtain ⟨W9, hW9⟩ : ∃ W, (((((w5).setCell ⟨P, 0, none⟩ (.int .i64 q0)).setCell ⟨P, 1, none⟩ (.int .i64 q1)).setCell ⟨P, 2, none⟩ (.string q2)).setCell ⟨P, 3, none⟩ (.slice q3 q4 q5)).setCell ⟨P, 4, none⟩ (.slice q6 q7 q8) = W := ⟨_, rfl⟩
      obtain ⟨k9, ho9⟩ := put5 (k5) hW9
      have hb9 := ret_below (hbw) ho9 (by omega)
      have HL := Lib.hid (And.intro (show LRes s (bodyP (valP n) (s.drop i)) (fun b => w.heap.size ≤ b ∧ b < W9.heap.size) W9 [.int .i64 q0, .int .i64 q1, .string q2, .slice q3 q4 q5, .slice q6 q7 q8] (j3) k3 from by rw [HQ.out]; exact lres_move hres ho9 (fun b hb e => by have h1 := hb.1; have h2 := H.out.2.2.2.1.lt; omega) (fun b hb => ⟨Nat.le_trans H.out.2.2.1.size hb.1, Nat.lt_of_lt_of_le hb.2 ho9.size⟩)) (And.intro hb9 (And.intro hW9 k9)))
      clear k9 ho9 hb9 hW9
      clear hres hb5 k5 hbw
      go_wp2
      (try rw [HL.out.2.2.1])
      clear r0 r1 r2 r3 r4 f0 f1 f2 f3 f4
      have v0 := HL.out.2.2.2.cell 0
      have v1 := HL.out.2.2.2.cell 1
      have v2 := HL.out.2.2.2.cell 2
      have v3 := HL.out.2.2.2.cell 3
      have v4 := HL.out.2.2.2.cell 4
      (try simp only [Exit.inBlock, Exit.then])
      refine bodyPost_ret (v := .tuple #[.agg #[.int .i64 q0, .int .i64 q1, .string q2, .slice q3 q4 q5, .slice q6 q7 q8], .int .i64 j3, .int .i64 k3]) ?_ rfl ⟨[.int .i64 q0, .int .i64 q1, .string q2, .slice q3 q4 q5, .slice q6 q7 q8], j3, k3, rfl, HL.out.1, HL.out.2.1⟩
      rw [results_cell_tmp2 rfl]
      go_simp
    | false =>
    cases x2 with
    | true =>
      have HQ := Lib.hid (show bodyP (valP n) (s.drop i) = objP (valP n) (s.drop (i + 1)) by
        have h := HSK.out
        rw [beq_iff_eq.1 HX.out.2.1, isL_no (by decide), isL_yes] at h
        rw [HD.out, beq_iff_eq.1 HX.out.2.1]
        exact h)
      obtain ⟨i2, hi2⟩ : ∃ x, i + 1 = x := ⟨_, rfl⟩
      rw [hi2] at hw1 HQ
      go_wp2_with fail
      refine (show Calls _ _ _ _ _ from HC.out.2 i2 (by omega) _).mono ?_
      rintro e w5 ⟨cc, j3, k3, rfl, hres, hb5⟩
      obtain ⟨q0, q1, q2, q3, q4, q5, q6, q7, q8, rfl⟩ := hres.1
      have k5 := H.out.2.2.2.1.below hb5
      have hbw := H.out.2.2.1.trans (hb5.mono H.out.2.2.1.size)
      have r0 := (k5).cell 0
      have f0 := (k5).frozen 0
      have r1 := (k5).cell 1
      have f1 := (k5).frozen 1
      have r2 := (k5).cell 2
      have f2 := (k5).frozen 2
      have r3 := (k5).cell 3
      have f3 := (k5).frozen 3
      have r4 := (k5).cell 4
      have f4 := (k5).frozen 4
      obtain ⟨W9, hW9⟩ : ∃ W, (((((w5).setCell ⟨P, 0, none⟩ (.int .i64 q0)).setCell ⟨P, 1, none⟩ (.int .i64 q1)).setCell ⟨P, 2, none⟩ (.string q2)).setCell ⟨P, 3, none⟩ (.slice q3 q4 q5)).setCell ⟨P, 4, none⟩ (.slice q6 q7 q8) = W := ⟨_, rfl⟩
      obtain ⟨k9, ho9⟩ := put5 (k5) hW9
      have hb9 := ret_below (hbw) ho9 (by omega)
      have HL := Lib.hid (And.intro (show LRes s (bodyP (valP n) (s.drop i)) (fun b => w.heap.size ≤ b ∧ b < W9.heap.size) W9 [.int .i64 q0, .int .i64 q1, .string q2, .slice q3 q4 q5, .slice q6 q7 q8] (j3) k3 from by rw [HQ.out]; exact lres_move hres ho9 (fun b hb e => by have h1 := hb.1; have h2 := H.out.2.2.2.1.lt; omega) (fun b hb => ⟨Nat.le_trans H.out.2.2.1.size hb.1, Nat.lt_of_lt_of_le hb.2 ho9.size⟩)) (And.intro hb9 (And.intro hW9 k9)))
      clear k9 ho9 hb9 hW9
      clear hres hb5 k5 hbw
      go_wp2
      (try rw [HL.out.2.2.1])
      clear r0 r1 r2 r3 r4 f0 f1 f2 f3 f4
      have v0 := HL.out.2.2.2.cell 0
      have v1 := HL.out.2.2.2.cell 1
      have v2 := HL.out.2.2.2.cell 2
      have v3 := HL.out.2.2.2.cell 3
      have v4 := HL.out.2.2.2.cell 4
      (try simp only [Exit.inBlock, Exit.then])
      refine bodyPost_ret (v := .tuple #[.agg #[.int .i64 q0, .int .i64 q1, .string q2, .slice q3 q4 q5, .slice q6 q7 q8], .int .i64 j3, .int .i64 k3]) ?_ rfl ⟨[.int .i64 q0, .int .i64 q1, .string q2, .slice q3 q4 q5, .slice q6 q7 q8], j3, k3, rfl, HL.out.1, HL.out.2.1⟩
      rw [results_cell_tmp2 rfl]
      go_simp
    | false =>
    cases x3 with
    | true =>
      have hbody : bodyP (valP n) (s.drop i) = (match textP (s.drop i) with
          | .error e => .error e
          | .ok p => .ok (.text p.1, p.2)) := by
        have h := HSK.out
        rw [beq_iff_eq.1 HX.out.2.2, isL_no (by decide), isL_no (by decide), isL_yes] at h
        rw [HD.out, beq_iff_eq.1 HX.out.2.2]
        exact h
      have HBD := Lib.hid hbody
      clear hbody
      have hE := drop_baJ H.out.2.2.2.2 i hi
      obtain ⟨E, hEE⟩ : ∃ E, K.extract i s.length = E := ⟨_, rfl⟩
      rw [hEE] at hE
      have hrd := read_any E W0 (by rw [size_eq, hE, List.length_drop]; omega)
      rw [hE] at hrd
      have HE := Lib.hid (And.intro hrd hEE)
      clear hrd hEE hE
      go_wp2_with fail
      (try rw [HE.out.2])
      refine (show Calls _ _ _ _ _ from HE.out.1).mono ?_
      rintro e w1 ⟨hR, hb1⟩
      unfold Rd at hR
      have HB1 := Lib.hid (And.intro (H.out.2.2.1.trans (hb1.mono H.out.2.2.1.size)) (H.out.2.2.2.1.below hb1))
      clear hb1
      cases hrl : readL (s.drop i) with
      | none =>
        rw [hrl] at hR
        subst hR
        have HQ := Lib.hid (show bodyP (valP n) (s.drop i) = .error 1 by rw [HBD.out, text_none hrl])
        clear hrl
        have r0 := (HB1.out.2).cell 0
        have f0 := (HB1.out.2).frozen 0
        have r1 := (HB1.out.2).cell 1
        have f1 := (HB1.out.2).frozen 1
        have r2 := (HB1.out.2).cell 2
        have f2 := (HB1.out.2).frozen 2
        have r3 := (HB1.out.2).cell 3
        have f3 := (HB1.out.2).frozen 3
        have r4 := (HB1.out.2).cell 4
        have f4 := (HB1.out.2).frozen 4
        obtain ⟨W9, hW9⟩ : ∃ W, (((((w1).setCell ⟨P, 0, none⟩ (.int .i64 0)).setCell ⟨P, 1, none⟩ (.int .i64 0)).setCell ⟨P, 2, none⟩ (.string ⟨#[]⟩)).setCell ⟨P, 3, none⟩ (.slice none 0 0)).setCell ⟨P, 4, none⟩ (.slice none 0 0) = W := ⟨_, rfl⟩
        obtain ⟨k9, ho9⟩ := put5 (HB1.out.2) hW9
        have hb9 := ret_below (HB1.out.1) ho9 (by omega)
        have HL := Lib.hid (And.intro (show LRes s (bodyP (valP n) (s.drop i)) (fun b => w.heap.size ≤ b ∧ b < W9.heap.size) W9 [.int .i64 0, .int .i64 0, .string ⟨#[]⟩, .slice none 0 0, .slice none 0 0] (i) 1 from by rw [HQ.out]; exact ⟨⟨_, _, _, _, _, _, _, _, _, rfl⟩, rfl, by decide⟩) (And.intro hb9 (And.intro hW9 k9)))
        clear k9 ho9 hb9 hW9
        go_wp2
        (try rw [HL.out.2.2.1])
        clear r0 r1 r2 r3 r4 f0 f1 f2 f3 f4
        have v0 := HL.out.2.2.2.cell 0
        have v1 := HL.out.2.2.2.cell 1
        have v2 := HL.out.2.2.2.cell 2
        have v3 := HL.out.2.2.2.cell 3
        have v4 := HL.out.2.2.2.cell 4
        (try simp only [Exit.inBlock, Exit.then])
        refine bodyPost_ret (v := .tuple #[.agg #[.int .i64 0, .int .i64 0, .string ⟨#[]⟩, .slice none 0 0, .slice none 0 0], .int .i64 i, .int .i64 1]) ?_ rfl ⟨[.int .i64 0, .int .i64 0, .string ⟨#[]⟩, .slice none 0 0, .slice none 0 0], i, 1, rfl, HL.out.1, HL.out.2.1⟩
        rw [results_cell_tmp2 rfl]
        go_simp
      | some tm =>
        obtain ⟨t, m⟩ := tm
        rw [hrl] at hR
        subst hR
        have hml := readL_le hrl
        rw [List.length_drop] at hml
        have hm0 : ((m : Int) == 0) = false := beq_eq_false_iff_ne.2 (by omega)
        have hmz : ¬ (m : Int) = 0 := by omega
        obtain ⟨i2, hi2⟩ : ∃ x, i + m = x := ⟨_, rfl⟩
        have HQ := Lib.hid (show bodyP (valP n) (s.drop i) = .ok (.text t, s.drop i2) by rw [HBD.out, text_some hrl, List.drop_drop, hi2])
        clear hrl
        have hwm : IntKind.i64.wrap ((i : Int) + (m : Int)) = (i2 : Int) := by rw [IntWalk.i64_in _ (by omega)]; omega
        obtain ⟨T, hT⟩ : ∃ T, BA t = T := ⟨_, rfl⟩
        rw [hT]
        have HT := Lib.hid hT
        clear hT
        have r0 := (HB1.out.2).cell 0
        have f0 := (HB1.out.2).frozen 0
        have r1 := (HB1.out.2).cell 1
        have f1 := (HB1.out.2).frozen 1
        have r2 := (HB1.out.2).cell 2
        have f2 := (HB1.out.2).frozen 2
        have r3 := (HB1.out.2).cell 3
        have f3 := (HB1.out.2).frozen 3
        have r4 := (HB1.out.2).cell 4
        have f4 := (HB1.out.2).frozen 4
        obtain ⟨W9, hW9⟩ : ∃ W, (((((w1).setCell ⟨P, 0, none⟩ (.int .i64 3)).setCell ⟨P, 1, none⟩ (.int .i64 0)).setCell ⟨P, 2, none⟩ (.string T)).setCell ⟨P, 3, none⟩ (.slice none 0 0)).setCell ⟨P, 4, none⟩ (.slice none 0 0) = W := ⟨_, rfl⟩
        obtain ⟨k9, ho9⟩ := put5 (HB1.out.2) hW9
        have hb9 := ret_below (HB1.out.1) ho9 (by omega)
        have HL := Lib.hid (And.intro (show LRes s (bodyP (valP n) (s.drop i)) (fun b => w.heap.size ≤ b ∧ b < W9.heap.size) W9 [.int .i64 3, .int .i64 0, .string T, .slice none 0 0, .slice none 0 0] (i2) 0 from by rw [HQ.out]; exact ⟨⟨_, _, _, _, _, _, _, _, _, rfl⟩, rfl, by omega, rfl, by rw [← HT.out]; exact .text t⟩) (And.intro hb9 (And.intro hW9 k9)))
        clear k9 ho9 hb9 hW9
        go_wp2
        (try rw [HL.out.2.2.1])
        clear r0 r1 r2 r3 r4 f0 f1 f2 f3 f4
        have v0 := HL.out.2.2.2.cell 0
        have v1 := HL.out.2.2.2.cell 1
        have v2 := HL.out.2.2.2.cell 2
        have v3 := HL.out.2.2.2.cell 3
        have v4 := HL.out.2.2.2.cell 4
        (try simp only [Exit.inBlock, Exit.then])
        refine bodyPost_ret (v := .tuple #[.agg #[.int .i64 3, .int .i64 0, .string T, .slice none 0 0, .slice none 0 0], .int .i64 i2, .int .i64 0]) ?_ rfl ⟨[.int .i64 3, .int .i64 0, .string T, .slice none 0 0, .slice none 0 0], i2, 0, rfl, HL.out.1, HL.out.2.1⟩
        rw [results_cell_tmp2 rfl]
        go_simp
    | false =>
      have hbody : bodyP (valP n) (s.drop i) = numR (s.drop i) := by
        have h := HSK.out
        rw [isL_no HX.out.1, isL_no HX.out.2.1, isL_no HX.out.2.2] at h
        rw [HD.out]
        exact h
      obtain ⟨mb, hmb⟩ : ∃ b, (isL [45] (s.drop i)).isSome = b := ⟨_, rfl⟩
      obtain ⟨bb, hbb⟩ : ∃ b, (if mb then i + 1 else i) = b := ⟨_, rfl⟩
      have hnum : numR (s.drop i) = numP mb (s.drop bb) ∧ bb ≤ s.length := by
        unfold numR
        cases h : isL [45] (s.drop i) with
        | none =>
          rw [h] at hmb
          have hm : mb = false := hmb.symm
          subst hm
          have hb : bb = i := hbb.symm
          subst hb
          exact ⟨rfl, hi⟩
        | some r =>
          rw [h] at hmb
          have hm : mb = true := hmb.symm
          subst hm
          have hb : bb = i + 1 := hbb.symm
          subst hb
          obtain ⟨h1, h2⟩ := isL_one_drop hi h
          exact ⟨by rw [h2], h1⟩
      have HQ := Lib.hid (hbody.trans hnum.1)
      have hcall := lnum_any s K H.out.2.2.2.2 i bb mb hi hs hmb hbb.symm hnum.2 W0
      have HCN := Lib.hid hcall
      clear hbody hnum hcall hmb hbb
      go_wp2_with fail
      refine (show Calls _ _ _ _ _ from HCN.out).mono ?_
      rintro e w5 ⟨cc, j3, k3, rfl, hres0, hb5⟩
      have hres : LRes s (numP mb (s.drop bb)) (fun b => W0.heap.size ≤ b ∧ b < w5.heap.size) w5 cc j3 k3 := lres_num hres0
      clear hres0
      obtain ⟨q0, q1, q2, q3, q4, q5, q6, q7, q8, rfl⟩ := hres.1
      have k5 := H.out.2.2.2.1.below hb5
      have hbw := H.out.2.2.1.trans (hb5.mono H.out.2.2.1.size)
      have r0 := (k5).cell 0
      have f0 := (k5).frozen 0
      have r1 := (k5).cell 1
      have f1 := (k5).frozen 1
      have r2 := (k5).cell 2
      have f2 := (k5).frozen 2
      have r3 := (k5).cell 3
      have f3 := (k5).frozen 3
      have r4 := (k5).cell 4
      have f4 := (k5).frozen 4
      obtain ⟨W9, hW9⟩ : ∃ W, (((((w5).setCell ⟨P, 0, none⟩ (.int .i64 q0)).setCell ⟨P, 1, none⟩ (.int .i64 q1)).setCell ⟨P, 2, none⟩ (.string q2)).setCell ⟨P, 3, none⟩ (.slice q3 q4 q5)).setCell ⟨P, 4, none⟩ (.slice q6 q7 q8) = W := ⟨_, rfl⟩
      obtain ⟨k9, ho9⟩ := put5 (k5) hW9
      have hb9 := ret_below (hbw) ho9 (by omega)
      have HL := Lib.hid (And.intro (show LRes s (bodyP (valP n) (s.drop i)) (fun b => w.heap.size ≤ b ∧ b < W9.heap.size) W9 [.int .i64 q0, .int .i64 q1, .string q2, .slice q3 q4 q5, .slice q6 q7 q8] (j3) k3 from by rw [HQ.out]; exact lres_move hres ho9 (fun b hb e => by have h1 := hb.1; have h2 := H.out.2.2.2.1.lt; omega) (fun b hb => ⟨Nat.le_trans H.out.2.2.1.size hb.1, Nat.lt_of_lt_of_le hb.2 ho9.size⟩)) (And.intro hb9 (And.intro hW9 k9)))
      clear k9 ho9 hb9 hW9
      clear hres hb5 k5 hbw
      go_wp2
      (try rw [HL.out.2.2.1])
      clear r0 r1 r2 r3 r4 f0 f1 f2 f3 f4
      have v0 := HL.out.2.2.2.cell 0
      have v1 := HL.out.2.2.2.cell 1
      have v2 := HL.out.2.2.2.cell 2
      have v3 := HL.out.2.2.2.cell 3
      have v4 := HL.out.2.2.2.cell 4
      (try simp only [Exit.inBlock, Exit.then])
      refine bodyPost_ret (v := .tuple #[.agg #[.int .i64 q0, .int .i64 q1, .string q2, .slice q3 q4 q5, .slice q6 q7 q8], .int .i64 j3, .int .i64 k3]) ?_ rfl ⟨[.int .i64 q0, .int .i64 q1, .string q2, .slice q3 q4 q5, .slice q6 q7 q8], j3, k3, rfl, HL.out.1, HL.out.2.1⟩
      rw [results_cell_tmp2 rfl]
      go_simp
  · have hiz : (K.size : Int) ≤ (i : Int) := by omega
    have hiz2 : (s.length : Int) ≤ (i : Int) := by omega
    have HQ := Lib.hid (show bodyP (valP n) (s.drop i) = .error 1 by rw [List.drop_eq_nil_of_le (by omega)]; rfl)
    go_upto_region 4 with fail
    rw [H.out.1]
    (try rw [hP])
    have r0 := (H.out.2.2.2.1).cell 0
    have f0 := (H.out.2.2.2.1).frozen 0
    have r1 := (H.out.2.2.2.1).cell 1
    have f1 := (H.out.2.2.2.1).frozen 1
    have r2 := (H.out.2.2.2.1).cell 2
    have f2 := (H.out.2.2.2.1).frozen 2
    have r3 := (H.out.2.2.2.1).cell 3
    have f3 := (H.out.2.2.2.1).frozen 3
    have r4 := (H.out.2.2.2.1).cell 4
    have f4 := (H.out.2.2.2.1).frozen 4
    obtain ⟨W9, hW9⟩ : ∃ W, (((((W0).setCell ⟨P, 0, none⟩ (.int .i64 0)).setCell ⟨P, 1, none⟩ (.int .i64 0)).setCell ⟨P, 2, none⟩ (.string ⟨#[]⟩)).setCell ⟨P, 3, none⟩ (.slice none 0 0)).setCell ⟨P, 4, none⟩ (.slice none 0 0) = W := ⟨_, rfl⟩
    obtain ⟨k9, ho9⟩ := put5 (H.out.2.2.2.1) hW9
    have hb9 := ret_below (H.out.2.2.1) ho9 (by omega)
    have HL := Lib.hid (And.intro (show LRes s (bodyP (valP n) (s.drop i)) (fun b => w.heap.size ≤ b ∧ b < W9.heap.size) W9 [.int .i64 0, .int .i64 0, .string ⟨#[]⟩, .slice none 0 0, .slice none 0 0] (i) 1 from by rw [HQ.out]; exact ⟨⟨_, _, _, _, _, _, _, _, _, rfl⟩, rfl, by decide⟩) (And.intro hb9 (And.intro hW9 k9)))
    clear k9 ho9 hb9 hW9
    go_wp2
    (try rw [HL.out.2.2.1])
    clear r0 r1 r2 r3 r4 f0 f1 f2 f3 f4
    have v0 := HL.out.2.2.2.cell 0
    have v1 := HL.out.2.2.2.cell 1
    have v2 := HL.out.2.2.2.cell 2
    have v3 := HL.out.2.2.2.cell 3
    have v4 := HL.out.2.2.2.cell 4
    (try simp only [Exit.inBlock, Exit.then])
    refine bodyPost_ret (v := .tuple #[.agg #[.int .i64 0, .int .i64 0, .string ⟨#[]⟩, .slice none 0 0, .slice none 0 0], .int .i64 i, .int .i64 1]) ?_ rfl ⟨[.int .i64 0, .int .i64 0, .string ⟨#[]⟩, .slice none 0 0, .slice none 0 0], i, 1, rfl, HL.out.1, HL.out.2.1⟩
    rw [results_cell_tmp2 rfl]
    go_simp
theorem lrv_any : ∀ n, n ≤ 16 → LRV n
  | 0, _ => lread_zero
  | n + 1, h => lread_succ n (by omega) (lrv_any n (by omega))
def LRdR (S : Nat → Prop) (w : World) (c : List Value) (k : Nat) : Except Nat V → Prop
  | .ok v => k = 0 ∧ VAt S w v c
  | .error e => k = e ∧ 0 < k
/-- what the law's Read gives. -/
def LRd (res : Except Nat V) (w : World) (e : Ending) (w' : World) : Prop := ∃ q0 q1 q2 q3 q4 q5 q6 q7 q8, ∃ k : Nat, e = .returned (.tuple #[.agg #[.int .i64 q0, .int .i64 q1, .string q2, .slice q3 q4 q5, .slice q6 q7 q8], .int .i64 k]) ∧ Below w.heap.size w w' ∧ LRdR (fun b => w.heap.size ≤ b ∧ b < w'.heap.size) w' [.int .i64 q0, .int .i64 q1, .string q2, .slice q3 q4 q5, .slice q6 q7 q8] k res
set_option maxHeartbeats 8000000 in
set_option maxRecDepth 100000 in
theorem lRead_any (s : BL) (K : ByteArray) (hK : BA s = K) (hs : s.length ≤ 4096) (w : World) : Calls Tryz.prog 19 #[.string K] w (LRd (parseP s) w) := by
  have hN : K.size = s.length := by rw [← hK, ba_size]
  obtain ⟨P, hP⟩ : ∃ P, w.heap.size = P := ⟨_, rfl⟩
  obtain ⟨W0, hW0⟩ : ∃ W, w.alloc (.cells #[.int .i64 0, .int .i64 0, .string ⟨#[]⟩, .slice none 0 0, .slice none 0 0] 28) = W := ⟨_, rfl⟩
  have hb0 : Below w.heap.size w W0 := by rw [← hW0]; exact (Below.refl _ w).alloc (Nat.le_refl _) _
  have k0 : Blk W0 P 28 [.int .i64 0, .int .i64 0, .string ⟨#[]⟩, .slice none 0 0, .slice none 0 0] := by rw [← hW0, ← hP]; exact heap_alloc_new w _
  have H := Lib.hid (And.intro hW0 (And.intro hP (And.intro hb0 (And.intro k0 hK))))
  clear hW0 hb0 k0 hK
  have hlz : ¬ (4096 : Int) < (K.size : Int) := by omega
  have hlz2 : ¬ (4096 : Int) < (s.length : Int) := by omega
  have hblk := lblank_any s K H.out.2.2.2.2 0 (Nat.zero_le _) hs W0
  rw [show (((0 : Nat) : Int)) = 0 from rfl] at hblk
  have HB := Lib.hid hblk
  clear hblk
  go_enter Tryz.func19, Tryz.ntmps19
  go_wp2_with fail
  rw [H.out.1]
  (try rw [hP])
  refine (show Calls _ _ _ _ _ from HB.out).mono ?_
  rintro e w1 ⟨j1, rfl, _, hj1, hj1d, hw⟩
  replace hw := hw.symm
  subst hw
  rw [List.drop_zero] at hj1d
  have hcall := lrv_any 16 (Nat.le_refl _) s K H.out.2.2.2.2 hs j1 hj1 W0
  rw [show (17 - ((16 : Nat) : Int)) = 1 from rfl, hj1d] at hcall
  have HC := Lib.hid hcall
  clear hcall hj1d
  go_wp2_with fail
  refine (show Calls _ _ _ _ _ from HC.out).mono ?_
  rintro e w5 ⟨cc, j3, k3, rfl, ⟨⟨q0, q1, q2, q3, q4, q5, q6, q7, q8, rfl⟩, hres⟩, hb5⟩
  obtain ⟨Q, hQ⟩ : ∃ Q, w5.heap.size = Q := ⟨_, rfl⟩
  obtain ⟨W6, hW6⟩ : ∃ W, w5.alloc (.cells #[.int .i64 q0, .int .i64 q1, .string q2, .slice q3 q4 q5, .slice q6 q7 q8] 28) = W := ⟨_, rfl⟩
  have hb56 : Below w5.heap.size w5 W6 := by rw [← hW6]; exact (Below.refl _ w5).alloc (Nat.le_refl _) _
  have kQ : Blk W6 Q 28 [.int .i64 q0, .int .i64 q1, .string q2, .slice q3 q4 q5, .slice q6 q7 q8] := by rw [← hW6, ← hQ]; exact heap_alloc_new w5 _
  have kP : Blk W6 P 28 [.int .i64 0, .int .i64 0, .string ⟨#[]⟩, .slice none 0 0, .slice none 0 0] := (H.out.2.2.2.1.below hb5).below hb56
  have hb6 : Below w.heap.size w W6 := (H.out.2.2.1.trans (hb5.mono H.out.2.2.1.size)).trans (hb56.mono (Nat.le_trans H.out.2.2.1.size hb5.size))
  have hPQ : ¬ P = Q := fun e => by have h1 := (H.out.2.2.2.1.below hb5).lt; omega
  obtain ⟨res, hr0⟩ : ∃ r, valP 16 (blankL s) = r := ⟨_, rfl⟩
  rw [hr0] at hres
  have HR := Lib.hid (And.intro hres (And.intro hr0 (And.intro hb56 (And.intro kQ (And.intro kP (And.intro hb6 (And.intro hQ (And.intro hW6 (Nat.le_trans H.out.2.2.1.size hb5.size)))))))))
  clear hres hr0 hb56 kQ kP hb6 hb5 HC HB
  cases res with
  | error e5 =>
    have hk3 : 0 < k3 := HR.out.1.2
    have hke : k3 = e5 := HR.out.1.1
    have hz0 : ((k3 : Int) == 0) = false := beq_eq_false_iff_ne.2 (by omega)
    have hz1 : ¬ (k3 : Int) = 0 := by omega
    have hz2 : ((k3 : Int) != 0) = true := by rw [bne, hz0]; rfl
    have HQ := Lib.hid (show parseP s = .error e5 by unfold parseP; rw [if_neg (by omega), HR.out.2.1])
    clear hQ hW6
    go_upto_region 7 with fail
    (try rw [HR.out.2.2.2.2.2.2.2.1])
    (try rw [HR.out.2.2.2.2.2.2.1])
    have g0 := HR.out.2.2.2.1.cell 0
    have g1 := HR.out.2.2.2.1.cell 1
    have g2 := HR.out.2.2.2.1.cell 2
    have g3 := HR.out.2.2.2.1.cell 3
    have g4 := HR.out.2.2.2.1.cell 4
    have r0 := (HR.out.2.2.2.2.1).cell 0
    have f0 := (HR.out.2.2.2.2.1).frozen 0
    have r1 := (HR.out.2.2.2.2.1).cell 1
    have f1 := (HR.out.2.2.2.2.1).frozen 1
    have r2 := (HR.out.2.2.2.2.1).cell 2
    have f2 := (HR.out.2.2.2.2.1).frozen 2
    have r3 := (HR.out.2.2.2.2.1).cell 3
    have f3 := (HR.out.2.2.2.2.1).frozen 3
    have r4 := (HR.out.2.2.2.2.1).cell 4
    have f4 := (HR.out.2.2.2.2.1).frozen 4
    obtain ⟨W9, hW9⟩ : ∃ W, (((((W6).setCell ⟨P, 0, none⟩ (.int .i64 0)).setCell ⟨P, 1, none⟩ (.int .i64 0)).setCell ⟨P, 2, none⟩ (.string ⟨#[]⟩)).setCell ⟨P, 3, none⟩ (.slice none 0 0)).setCell ⟨P, 4, none⟩ (.slice none 0 0) = W := ⟨_, rfl⟩
    obtain ⟨k9, ho9⟩ := put5 (HR.out.2.2.2.2.1) hW9
    have hb9 := ret_below (HR.out.2.2.2.2.2.1) ho9 (by omega)
    have HL := Lib.hid (And.intro (show LRdR (fun b => w.heap.size ≤ b ∧ b < W9.heap.size) W9 [.int .i64 0, .int .i64 0, .string ⟨#[]⟩, .slice none 0 0, .slice none 0 0] k3 (parseP s) from by rw [HQ.out]; exact ⟨hke, hk3⟩) (And.intro hb9 (And.intro hW9 k9)))
    clear k9 ho9 hb9 hW9
    go_wp2
    (try rw [HL.out.2.2.1])
    clear r0 r1 r2 r3 r4 f0 f1 f2 f3 f4
    have v0 := HL.out.2.2.2.cell 0
    have v1 := HL.out.2.2.2.cell 1
    have v2 := HL.out.2.2.2.cell 2
    have v3 := HL.out.2.2.2.cell 3
    have v4 := HL.out.2.2.2.cell 4
    (try simp only [Exit.inBlock, Exit.then])
    refine bodyPost_ret (v := .tuple #[.agg #[.int .i64 0, .int .i64 0, .string ⟨#[]⟩, .slice none 0 0, .slice none 0 0], .int .i64 k3]) ?_ rfl ⟨_, _, _, _, _, _, _, _, _, k3, rfl, HL.out.2.1, HL.out.1⟩
    rw [results_cell_tmp rfl]
    go_simp
  | ok p =>
    have hk0 : k3 = 0 := HR.out.1.1
    have hj3 : j3 ≤ s.length := HR.out.1.2.1
    have hd3 : s.drop j3 = p.2 := HR.out.1.2.2.1
    subst hk0
    have hz0 : (((0 : Nat) : Int) == 0) = true := rfl
    have HD3 := Lib.hid hd3
    clear hd3 hQ hW6
    go_wp2_with fail
    (try rw [HR.out.2.2.2.2.2.2.2.1])
    (try rw [HR.out.2.2.2.2.2.2.1])
    refine (show Calls _ _ _ _ _ from lblank_any s K H.out.2.2.2.2 j3 hj3 hs _).mono ?_
    rintro e w1 ⟨j4, rfl, _, hj4, hj4d, hw⟩
    replace hw := hw.symm
    subst hw
    have HD4 := Lib.hid (show s.drop j4 = blankL p.2 by rw [hj4d, HD3.out])
    clear hj4d
    by_cases hend : j4 = s.length
    · have hne : ((j4 : Int) != (K.size : Int)) = false := by rw [bne, beq_iff_eq.2 (by omega)]; rfl
      have hne2 : ((j4 : Int) != (s.length : Int)) = false := by rw [bne, beq_iff_eq.2 (by omega)]; rfl
      have HQ := Lib.hid (show parseP s = .ok p.1 by
        unfold parseP
        rw [if_neg (by omega), HR.out.2.1]
        simp only []
        rw [if_pos (by rw [← HD4.out, hend]; exact List.drop_length)])
      have HEND := Lib.hid hend
      clear hend
      have g0 := HR.out.2.2.2.1.cell 0
      have g1 := HR.out.2.2.2.1.cell 1
      have g2 := HR.out.2.2.2.1.cell 2
      have g3 := HR.out.2.2.2.1.cell 3
      have g4 := HR.out.2.2.2.1.cell 4
      have r0 := (HR.out.2.2.2.2.1).cell 0
      have f0 := (HR.out.2.2.2.2.1).frozen 0
      have r1 := (HR.out.2.2.2.2.1).cell 1
      have f1 := (HR.out.2.2.2.2.1).frozen 1
      have r2 := (HR.out.2.2.2.2.1).cell 2
      have f2 := (HR.out.2.2.2.2.1).frozen 2
      have r3 := (HR.out.2.2.2.2.1).cell 3
      have f3 := (HR.out.2.2.2.2.1).frozen 3
      have r4 := (HR.out.2.2.2.2.1).cell 4
      have f4 := (HR.out.2.2.2.2.1).frozen 4
      obtain ⟨W9, hW9⟩ : ∃ W, (((((W6).setCell ⟨P, 0, none⟩ (.int .i64 q0)).setCell ⟨P, 1, none⟩ (.int .i64 q1)).setCell ⟨P, 2, none⟩ (.string q2)).setCell ⟨P, 3, none⟩ (.slice q3 q4 q5)).setCell ⟨P, 4, none⟩ (.slice q6 q7 q8) = W := ⟨_, rfl⟩
      obtain ⟨k9, ho9⟩ := put5 (HR.out.2.2.2.2.1) hW9
      have hb9 := ret_below (HR.out.2.2.2.2.2.1) ho9 (by omega)
      have HL := Lib.hid (And.intro (show LRdR (fun b => w.heap.size ≤ b ∧ b < W9.heap.size) W9 [.int .i64 q0, .int .i64 q1, .string q2, .slice q3 q4 q5, .slice q6 q7 q8] (0 : Nat) (parseP s) from by rw [HQ.out]; exact ⟨rfl, HR.out.1.2.2.2.keep (fun b hb => ⟨Nat.le_trans H.out.2.2.1.size hb.1, Nat.lt_of_lt_of_le hb.2 (Nat.le_trans HR.out.2.2.1.size ho9.size)⟩) (fun b hb k u hu => ho9.cell (fun e => by have e2 : b = P := e; have h1 := hb.1; have h2 := H.out.2.2.2.1.lt; omega) (bcell HR.out.2.2.1 hu))⟩) (And.intro hb9 (And.intro hW9 k9)))
      clear k9 ho9 hb9 hW9
      go_wp2
      (try rw [HL.out.2.2.1])
      clear r0 r1 r2 r3 r4 f0 f1 f2 f3 f4 g0 g1 g2 g3 g4
      have v0 := HL.out.2.2.2.cell 0
      have v1 := HL.out.2.2.2.cell 1
      have v2 := HL.out.2.2.2.cell 2
      have v3 := HL.out.2.2.2.cell 3
      have v4 := HL.out.2.2.2.cell 4
      (try simp only [Exit.inBlock, Exit.then])
      refine bodyPost_ret (v := .tuple #[.agg #[.int .i64 q0, .int .i64 q1, .string q2, .slice q3 q4 q5, .slice q6 q7 q8], .int .i64 (0 : Nat)]) ?_ rfl ⟨_, _, _, _, _, _, _, _, _, (0 : Nat), rfl, HL.out.2.1, HL.out.1⟩
      rw [results_cell_tmp rfl]
      go_simp
    · have hne : ((j4 : Int) != (K.size : Int)) = true := by rw [bne, beq_eq_false_iff_ne.2 (show (j4 : Int) ≠ (K.size : Int) by omega)]; rfl
      have hne2 : ((j4 : Int) != (s.length : Int)) = true := by rw [bne, beq_eq_false_iff_ne.2 (show (j4 : Int) ≠ (s.length : Int) by omega)]; rfl
      have HQ := Lib.hid (show parseP s = .error 1 by
        unfold parseP
        rw [if_neg (by omega), HR.out.2.1]
        simp only []
        rw [if_neg (by rw [← HD4.out]; intro e; have h := congrArg List.length e; rw [List.length_drop, List.length_nil] at h; omega)])
      have HEND := Lib.hid hend
      clear hend
      have g0 := HR.out.2.2.2.1.cell 0
      have g1 := HR.out.2.2.2.1.cell 1
      have g2 := HR.out.2.2.2.1.cell 2
      have g3 := HR.out.2.2.2.1.cell 3
      have g4 := HR.out.2.2.2.1.cell 4
      have r0 := (HR.out.2.2.2.2.1).cell 0
      have f0 := (HR.out.2.2.2.2.1).frozen 0
      have r1 := (HR.out.2.2.2.2.1).cell 1
      have f1 := (HR.out.2.2.2.2.1).frozen 1
      have r2 := (HR.out.2.2.2.2.1).cell 2
      have f2 := (HR.out.2.2.2.2.1).frozen 2
      have r3 := (HR.out.2.2.2.2.1).cell 3
      have f3 := (HR.out.2.2.2.2.1).frozen 3
      have r4 := (HR.out.2.2.2.2.1).cell 4
      have f4 := (HR.out.2.2.2.2.1).frozen 4
      obtain ⟨W9, hW9⟩ : ∃ W, (((((W6).setCell ⟨P, 0, none⟩ (.int .i64 0)).setCell ⟨P, 1, none⟩ (.int .i64 0)).setCell ⟨P, 2, none⟩ (.string ⟨#[]⟩)).setCell ⟨P, 3, none⟩ (.slice none 0 0)).setCell ⟨P, 4, none⟩ (.slice none 0 0) = W := ⟨_, rfl⟩
      obtain ⟨k9, ho9⟩ := put5 (HR.out.2.2.2.2.1) hW9
      have hb9 := ret_below (HR.out.2.2.2.2.2.1) ho9 (by omega)
      have HL := Lib.hid (And.intro (show LRdR (fun b => w.heap.size ≤ b ∧ b < W9.heap.size) W9 [.int .i64 0, .int .i64 0, .string ⟨#[]⟩, .slice none 0 0, .slice none 0 0] (1 : Nat) (parseP s) from by rw [HQ.out]; exact ⟨rfl, by decide⟩) (And.intro hb9 (And.intro hW9 k9)))
      clear k9 ho9 hb9 hW9
      go_wp2
      (try rw [HL.out.2.2.1])
      clear r0 r1 r2 r3 r4 f0 f1 f2 f3 f4
      have v0 := HL.out.2.2.2.cell 0
      have v1 := HL.out.2.2.2.cell 1
      have v2 := HL.out.2.2.2.cell 2
      have v3 := HL.out.2.2.2.cell 3
      have v4 := HL.out.2.2.2.cell 4
      (try simp only [Exit.inBlock, Exit.then])
      refine bodyPost_ret (v := .tuple #[.agg #[.int .i64 0, .int .i64 0, .string ⟨#[]⟩, .slice none 0 0, .slice none 0 0], .int .i64 (1 : Nat)]) ?_ rfl ⟨_, _, _, _, _, _, _, _, _, (1 : Nat), rfl, HL.out.2.1, HL.out.1⟩
      rw [results_cell_tmp rfl]
      go_simp
end Go.Proofs.YtccnfnoonpfdfaaGreatDoor
