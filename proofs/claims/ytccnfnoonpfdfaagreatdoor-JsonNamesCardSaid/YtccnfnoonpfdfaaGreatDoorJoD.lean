/- JsonNames: the law's walk (printed by wip/gen_jod.py). -/
import Derived.Test.YtccnfnoonpfdfaaGreatDoorJoC
namespace Go.Proofs.YtccnfnoonpfdfaaGreatDoor
open Go.Shelf Go.RowKit Go.Lib

def docM (l : BL) : List (BL × V) := (fieldsN (madeL 2) ((l.head?.getD 0).toNat % 16) 4 ((l.take 60).drop 1)).1
theorem docL_eq (l : BL) : docL l = .obj (docM l) := by
  unfold docL maskL docM
  obtain ⟨k, hk⟩ : ∃ k, (l.head?.getD 0).toNat % 16 = k := ⟨_, rfl⟩
  have hk16 : k < 16 := by omega
  rw [hk]
  have e : (UInt8.ofNat (5 + 6 * k)).toNat = 5 + 6 * k := by rw [UInt8.toNat_ofNat']; omega
  rw [madeL]
  simp only [e]
  rw [if_neg (by omega), if_pos (by omega), show (5 + 6 * k) / 6 = k by omega]
theorem names_take (M : List (BL × V)) (i : Nat) (hi : i < M.length) : namesT (M.take (i + 1)) = if 0 < i then namesT (M.take i) ++ ([44, 32] ++ nameT M[i]) else nameT M[i] := by
  rw [List.take_succ_eq_append_getElem hi, namesT_snoc]
  by_cases h : 0 < i
  · rw [if_pos h, if_neg (fun e => by
      rcases List.take_eq_nil_iff.1 e with h0 | h0
      · omega
      · rw [h0] at hi; simp at hi)]
  · have : i = 0 := by omega
    subst this
    rw [List.take_zero, if_pos rfl, if_neg (by omega)]
theorem names_long (M : List (BL × V)) (h4 : M.length ≤ 4) (h : ∀ x ∈ M, (nameT x).length ≤ 620) (i : Nat) : (namesT (M.take i)).length ≤ 2488 := by
  have h1 := names_len (M.take i) 620 (fun x hx => h x (List.mem_of_mem_take hx))
  have h2 : (M.take i).length * (620 + 2) ≤ 4 * (620 + 2) := Nat.mul_le_mul_right _ (by rw [List.length_take]; omega)
  omega

set_option maxHeartbeats 8000000 in
set_option maxRecDepth 100000 in
theorem jnames_false (nb : Nat) (w : World) (sv : Value) (nm0 : ByteArray) (l : BL) (hnb : nb ≤ w.heap.size) (h : BRead nb w sv l) (hJ : JW w) :
    Calls Tryz.prog 8 #[sv, .string nm0, .bool false] w fun e w' => e = .returned (.bool true) ∧ Below w.heap.size w w' := by
  have H := Lib.hid (And.intro hnb (And.intro h hJ))
  clear hnb h hJ
  go_enter Tryz.func8, Tryz.ntmps8
  go_wp2_with fail
  refine (jawake_any _ H.out.2.2.1).mono ?_
  rintro e w1 ⟨rfl, hb1⟩
  have H1 := Lib.hid hb1
  clear hb1
  go_wp2_with fail
  refine (doc_any nb w1 sv l (Nat.le_trans H.out.1 H1.out.size) (H.out.2.1.later (H1.out.mono H.out.1)) (H.out.2.2.2.later H1.out)).mono ?_
  rintro e w2 ⟨x, rfl, hx, hb2⟩
  have hx0 : VAt (fun b => w1.heap.size ≤ b ∧ b < w2.heap.size) w2 (.obj (docM l)) x := by rw [← docL_eq]; exact hx
  have hok := hx0.ok
  rw [okV] at hok
  have hdoc : DocFJ (docM l) := doc_fJ _ _ (fun x hx => okFs_mem hok hx)
  obtain ⟨m, hm⟩ : ∃ m, docM l = m := ⟨_, rfl⟩
  rw [hm] at hx0 hdoc
  clear hx hok hm
  have hxk := Lib.hid hx0
  cases hx0 with
  | obj m cs sl hV hr =>
  obtain ⟨p, cap, rfl, hp⟩ := row_form hr
  clear hr
  obtain ⟨n, hn⟩ : ∃ n, m.length = n := ⟨_, rfl⟩
  rw [hn] at hxk ⊢
  have hn4 : n ≤ 4 := by rw [← hn]; exact hdoc.few
  obtain ⟨P, hP⟩ : ∃ P, w2.heap.size = P := ⟨_, rfl⟩
  obtain ⟨W2, hW2⟩ : ∃ W, w2.alloc (.cells #[.int .i64 5, .int .i64 0, .string ⟨#[]⟩, .slice none 0 0, .slice p n cap] 28) = W := ⟨_, rfl⟩
  have hk2 : Blk W2 P 28 [.int .i64 5, .int .i64 0, .string ⟨#[]⟩, .slice none 0 0, .slice p n cap] := by rw [← hW2, ← hP]; exact heap_alloc_new w2 _
  have hb2a : Below w2.heap.size w2 W2 := by rw [← hW2]; exact (Below.refl _ w2).alloc (Nat.le_refl _) _
  obtain ⟨M, hM⟩ : ∃ M, turned false m = M := ⟨_, rfl⟩
  have hMl : M.length = n := by rw [← hM, turned_len, hn]
  have hMs := names_long M (by omega) (fun x hx => hdoc.size x ((turned_mem false m x).1 (by rw [hM]; exact hx)))
  have H2 := Lib.hid (And.intro hW2 (And.intro hP (And.intro (hxk.out.later hb2a) (And.intro hk2 (And.intro ((H1.out.trans (hb2.mono H1.out.size)).trans (hb2a.mono (Nat.le_trans H1.out.size hb2.size))) (And.intro hdoc (And.intro hM (And.intro hMl hMs))))))))
  have HV := Lib.hid (And.intro hV (And.intro hp (And.intro hn hb2a)))
  clear hb2 hk2 hb2a hW2 hM hMl hMs hdoc hV hp hxk hn
  go_wp2_with fail
  rw [H2.out.1]
  (try rw [H2.out.2.1])
  clear hP
  go_loopg [8, 22] n (fun gk sv iv wr => ∃ (i : Nat) (X : ByteArray), gk + i = n ∧ sv = .string X ∧ iv = .int .i64 i ∧ X.size ≤ 2488 ∧ Hid (X = BA (namesT (M.take i)) ∧ Below W2.heap.size W2 wr))
  case atStart => exact ⟨0, _, by omega, rfl, rfl, by decide, Lib.hid ⟨by rw [List.take_zero]; rfl, Below.refl _ _⟩⟩
  case round =>
    obtain ⟨i, X, hg, rfl, rfl, hxs, HI⟩ := hrel
    have hpp := (H2.out.2.2.2.1.below HI.out.2).cell 4
    by_cases hi : i < n
    · have hiz : (i : Int) < (n : Int) := by omega
      have hwK : IntKind.i64.wrap ((i : Int) + 1) = ((i + 1 : Nat) : Int) := by rw [IntWalk.i64_in _ (by omega)]; omega
      have hil : i < m.length := by rw [HV.out.2.2.1]; exact hi
      obtain ⟨b, hpe, hrb⟩ := HV.out.2.1 (by omega)
      subst hpe
      have hrb2 : ∀ k u, cs[k]? = some u → wr.cell? ⟨b, k, none⟩ = some u := fun k u h => bcell HI.out.2 (bcell HV.out.2.2.2 (hrb k u h))
      obtain ⟨ad0, ad1, ad2, ad3, ad4, ax, a5, a0, a1, a2, a3, a4⟩ := HV.out.1.get i hil
      obtain ⟨q0, q1, q2, q3, q4, q5, q6, q7, q8, aq⟩ := ax.shape
      simp only [List.cons.injEq, and_true] at aq
      obtain ⟨rfl, rfl, rfl, rfl, rfl⟩ := aq
      have ak5 := hrb2 _ _ a5
      have ak0 := hrb2 _ _ a0
      have ak1 := hrb2 _ _ a1
      have ak2 := hrb2 _ _ a2
      have ak3 := hrb2 _ _ a3
      have ak4 := hrb2 _ _ a4
      go_upto_region 11 with fail
      clear ak0 ak1 ak2 ak3 ak4 ak5
      obtain ⟨N, hN⟩ : ∃ N, wr.heap.size = N := ⟨_, rfl⟩
      obtain ⟨W3, hW3⟩ : ∃ W, wr.alloc (.cells #[.string (BA m[i].1), .int .i64 q0, .int .i64 q1, .string q2, .slice q3 q4 q5, .slice q6 q7 q8] 51) = W := ⟨_, rfl⟩
      rw [hW3]
      (try rw [hN])
      have hb3 : Below wr.heap.size wr W3 := by rw [← hW3]; exact (Below.refl _ wr).alloc (Nat.le_refl _) _
      have kF : Blk W3 N 51 [.string (BA m[i].1), .int .i64 q0, .int .i64 q1, .string q2, .slice q3 q4 q5, .slice q6 q7 q8] := by rw [← hW3, ← hN]; exact heap_alloc_new wr _
      obtain ⟨f, hf⟩ : ∃ f, m[i] = f := ⟨_, rfl⟩
      have hMi : M[i]? = some f := by rw [← H2.out.2.2.2.2.2.2.1]; show m[i]? = some f; rw [List.getElem?_eq_getElem hil, hf]
      have HX := Lib.hid (And.intro True.intro (And.intro hN (And.intro (HI.out.2.trans (hb3.mono HI.out.2.size)) (And.intro kF (And.intro (ax.later ((HV.out.2.2.2.trans (HI.out.2.mono HV.out.2.2.2.size)).trans (hb3.mono (Nat.le_trans HV.out.2.2.2.size HI.out.2.size)))) hMi)))))
      have hfm : f ∈ m := by rw [← hf]; exact List.getElem_mem hil
      have hfs := H2.out.2.2.2.2.2.1.size f hfm
      have hks : (printV f.2).length ≤ 620 := by unfold nameT at hfs; simp only [List.length_cons, List.length_append] at hfs; omega
      have hns : f.1.length ≤ 620 := by unfold nameT at hfs; simp only [List.length_cons, List.length_append] at hfs; omega
      rw [hf] at kF HX
      obtain ⟨NM, hNM⟩ : ∃ N, BA f.1 = N := ⟨_, rfl⟩
      have hns2 : NM.size ≤ 620 := by rw [← hNM, ba_size]; exact hns
      have hMf := HX.out.2.2.2.2.2
      have hiM : i < M.length := by rw [H2.out.2.2.2.2.2.2.2.1]; exact hi
      rw [List.getElem?_eq_getElem hiM] at hMf
      have hMf2 : M[i] = f := Option.some.inj hMf
      have hnt := names_take M i hiM
      rw [hMf2] at hnt
      have hbw3 := H2.out.2.2.2.2.1.trans (HX.out.2.2.1.mono H2.out.2.2.2.2.1.size)
      have hcall := print_any f.2 _ W3.drew _ (HX.out.2.2.2.2.1.later ((Below.refl _ W3).drew)) (H.out.2.2.1.below hbw3.drew) (by omega)
      unfold PrC at hcall
      rw [hNM] at kF
      have HY := Lib.hid (And.intro hcall (And.intro kF (And.intro hNM (And.intro hnt (And.intro (show Below W2.heap.size W2 W3.drew from HX.out.2.2.1.drew) True.intro)))))
      clear hfm hfs kF hNM hMf hiM hMf2 hnt hbw3 hcall hpp hns hrb hrb2
      by_cases hi0 : 0 < i
      · have hz0 : (0 : Int) < (i : Int) := by omega
        have hz1 : decide ((0 : Int) < (i : Int)) = true := by simpa using hz0
        go_wp2_with fail
        refine AnyP.begin (J := fun j => Nat.ble j 9) (S := fun W => Blk W N 51 [.string NM, .int .i64 q0, .int .i64 q1, .string q2, .slice q3 q4 q5, .slice q6 q7 q8]) (by kernel_rfl) rfl rfl ?_
        refine AnyP.takeP (i := 0) (v := .string (X ++ ⟨#[44, 32]⟩)) rfl rfl (by kernel_rfl) (by kernel_rfl) (by kernel_rfl) (fun _ _ _ h => h) (by rfl) ?_ ?_
        · intro W
          go_simp
          try (with_reducible rfl)
        simp only [Act.put, List.setIfInBounds_toArray, List.set_cons_zero, List.set_cons_succ]
        refine AnyP.takeP (i := 1) (v := .string ((X ++ ⟨#[44, 32]⟩) ++ ⟨#[34]⟩)) rfl rfl (by kernel_rfl) (by kernel_rfl) (by kernel_rfl) (fun _ _ _ h => h) (by rfl) ?_ ?_
        · intro W
          have g1 : X.size + 2 ≤ 9223372036854775807 := by omega
          have g2 : X.size + 2 ≤ 9223372036854775806 := by omega
          have g3 : X.size + 2 ≤ 9223372036854775805 := by omega
          have g4 : X.size + 2 ≤ 9223372036854775803 := by omega
          have g5 : X.size + 2 + 1 ≤ 9223372036854775807 := by omega
          have g6 : X.size + 2 + 1 ≤ 9223372036854775806 := by omega
          have g7 : X.size + 2 + 1 ≤ 9223372036854775805 := by omega
          have g8 : X.size + 2 + 1 ≤ 9223372036854775803 := by omega
          have g9 : X.size + 2 + 1 + NM.size ≤ 9223372036854775807 := by omega
          have g10 : X.size + 2 + 1 + NM.size ≤ 9223372036854775806 := by omega
          have g11 : X.size + 2 + 1 + NM.size ≤ 9223372036854775805 := by omega
          have g12 : X.size + 2 + 1 + NM.size ≤ 9223372036854775803 := by omega
          have g13 : X.size + 2 + 1 + NM.size + 4 ≤ 9223372036854775807 := by omega
          have g14 : X.size + 2 + 1 + NM.size + 4 ≤ 9223372036854775806 := by omega
          have g15 : X.size + 2 + 1 + NM.size + 4 ≤ 9223372036854775805 := by omega
          have g16 : X.size + 2 + 1 + NM.size + 4 ≤ 9223372036854775803 := by omega
          have g17 : X.size ≤ 9223372036854775807 := by omega
          have g18 : X.size ≤ 9223372036854775806 := by omega
          have g19 : X.size ≤ 9223372036854775805 := by omega
          have g20 : X.size ≤ 9223372036854775803 := by omega
          go_simp
          try (with_reducible rfl)
        simp only [Act.put, List.setIfInBounds_toArray, List.set_cons_zero, List.set_cons_succ]
        refine AnyP.takeP (i := 2) (v := .pointer (some ⟨N, 0, none⟩)) rfl rfl (by kernel_rfl) (by kernel_rfl) (by kernel_rfl) (fun _ _ _ h => h) (by rfl) ?_ ?_
        · intro W
          go_simp
          try (with_reducible rfl)
        simp only [Act.put, List.setIfInBounds_toArray, List.set_cons_zero, List.set_cons_succ]
        refine AnyP.takeT [6, 7, 8] (by rfl) (i := 3) (v := .string NM) rfl rfl (by kernel_rfl) (by kernel_rfl) (by kernel_rfl) (by kernel_rfl) (fun _ _ _ h => h) (by rfl) ?_ HY.out.2.1.drew ?_
        · intro W hW
          have n0 := hW.cell 0
          go_simp
          try (with_reducible rfl)
        simp only [Act.put, List.setIfInBounds_toArray, List.set_cons_zero, List.set_cons_succ]
        refine AnyP.takeP (i := 4) (v := .string ((X ++ ⟨#[44, 32]⟩) ++ ⟨#[34]⟩ ++ NM)) rfl rfl (by kernel_rfl) (by kernel_rfl) (by kernel_rfl) (fun _ _ _ h => h) (by rfl) ?_ ?_
        · intro W
          have g1 : X.size + 2 ≤ 9223372036854775807 := by omega
          have g2 : X.size + 2 ≤ 9223372036854775806 := by omega
          have g3 : X.size + 2 ≤ 9223372036854775805 := by omega
          have g4 : X.size + 2 ≤ 9223372036854775803 := by omega
          have g5 : X.size + 2 + 1 ≤ 9223372036854775807 := by omega
          have g6 : X.size + 2 + 1 ≤ 9223372036854775806 := by omega
          have g7 : X.size + 2 + 1 ≤ 9223372036854775805 := by omega
          have g8 : X.size + 2 + 1 ≤ 9223372036854775803 := by omega
          have g9 : X.size + 2 + 1 + NM.size ≤ 9223372036854775807 := by omega
          have g10 : X.size + 2 + 1 + NM.size ≤ 9223372036854775806 := by omega
          have g11 : X.size + 2 + 1 + NM.size ≤ 9223372036854775805 := by omega
          have g12 : X.size + 2 + 1 + NM.size ≤ 9223372036854775803 := by omega
          have g13 : X.size + 2 + 1 + NM.size + 4 ≤ 9223372036854775807 := by omega
          have g14 : X.size + 2 + 1 + NM.size + 4 ≤ 9223372036854775806 := by omega
          have g15 : X.size + 2 + 1 + NM.size + 4 ≤ 9223372036854775805 := by omega
          have g16 : X.size + 2 + 1 + NM.size + 4 ≤ 9223372036854775803 := by omega
          have g17 : X.size ≤ 9223372036854775807 := by omega
          have g18 : X.size ≤ 9223372036854775806 := by omega
          have g19 : X.size ≤ 9223372036854775805 := by omega
          have g20 : X.size ≤ 9223372036854775803 := by omega
          go_simp
          try (with_reducible rfl)
        simp only [Act.put, List.setIfInBounds_toArray, List.set_cons_zero, List.set_cons_succ]
        refine AnyP.takeP (i := 5) (v := .string ((X ++ ⟨#[44, 32]⟩) ++ ⟨#[34]⟩ ++ NM ++ ⟨#[34, 32, 58, 32]⟩)) rfl rfl (by kernel_rfl) (by kernel_rfl) (by kernel_rfl) (fun _ _ _ h => h) (by rfl) ?_ ?_
        · intro W
          have g1 : X.size + 2 ≤ 9223372036854775807 := by omega
          have g2 : X.size + 2 ≤ 9223372036854775806 := by omega
          have g3 : X.size + 2 ≤ 9223372036854775805 := by omega
          have g4 : X.size + 2 ≤ 9223372036854775803 := by omega
          have g5 : X.size + 2 + 1 ≤ 9223372036854775807 := by omega
          have g6 : X.size + 2 + 1 ≤ 9223372036854775806 := by omega
          have g7 : X.size + 2 + 1 ≤ 9223372036854775805 := by omega
          have g8 : X.size + 2 + 1 ≤ 9223372036854775803 := by omega
          have g9 : X.size + 2 + 1 + NM.size ≤ 9223372036854775807 := by omega
          have g10 : X.size + 2 + 1 + NM.size ≤ 9223372036854775806 := by omega
          have g11 : X.size + 2 + 1 + NM.size ≤ 9223372036854775805 := by omega
          have g12 : X.size + 2 + 1 + NM.size ≤ 9223372036854775803 := by omega
          have g13 : X.size + 2 + 1 + NM.size + 4 ≤ 9223372036854775807 := by omega
          have g14 : X.size + 2 + 1 + NM.size + 4 ≤ 9223372036854775806 := by omega
          have g15 : X.size + 2 + 1 + NM.size + 4 ≤ 9223372036854775805 := by omega
          have g16 : X.size + 2 + 1 + NM.size + 4 ≤ 9223372036854775803 := by omega
          have g17 : X.size ≤ 9223372036854775807 := by omega
          have g18 : X.size ≤ 9223372036854775806 := by omega
          have g19 : X.size ≤ 9223372036854775805 := by omega
          have g20 : X.size ≤ 9223372036854775803 := by omega
          go_simp
          try (with_reducible rfl)
        simp only [Act.put, List.setIfInBounds_toArray, List.set_cons_zero, List.set_cons_succ]
        refine AnyP.takeP (i := 6) (v := .pointer (some ⟨N, 1, none⟩)) rfl rfl (by kernel_rfl) (by kernel_rfl) (by kernel_rfl) (fun _ _ _ h => h) (by rfl) ?_ ?_
        · intro W
          go_simp
          try (with_reducible rfl)
        simp only [Act.put, List.setIfInBounds_toArray, List.set_cons_zero, List.set_cons_succ]
        refine AnyP.takeT [] (by rfl) (i := 7) (v := .agg #[.int .i64 q0, .int .i64 q1, .string q2, .slice q3 q4 q5, .slice q6 q7 q8]) rfl rfl (by kernel_rfl) (by kernel_rfl) (by kernel_rfl) (by kernel_rfl) (fun _ _ _ h => h) (by rfl) ?_ HY.out.2.1.drew ?_
        · intro W hW
          have n1 := hW.cell 1
          have n2 := hW.cell 2
          have n3 := hW.cell 3
          have n4 := hW.cell 4
          have n5 := hW.cell 5
          go_simp
          try (with_reducible rfl)
        simp only [Act.put, List.setIfInBounds_toArray, List.set_cons_zero, List.set_cons_succ]
        refine AnyP.oneL (i := 8) (by kernel_rfl) rfl (fun K hK => ?_)
        go_simp
        refine (show Calls _ _ _ _ _ from HY.out.1).mono ?_
        rintro e w5 ⟨rfl, hb5⟩
        refine hK.out _ _ (fun _ h => h.below hb5) ?_
        clear hK K
        (try simp only [Act.put, List.setIfInBounds_toArray, List.set_cons_zero, List.set_cons_succ])
        obtain ⟨K, hK⟩ : ∃ K, BA (printV f.2) = K := ⟨_, rfl⟩
        have hks2 : K.size ≤ 620 := by rw [← hK, ba_size]; exact hks
        rw [hK]
        have g6 : ¬ 9223372036854775807 < X.size + 2 + 1 + NM.size + 4 + K.size := by omega
        have HF := Lib.hid (And.intro hK (HY.out.2.2.2.2.1.trans (hb5.mono HY.out.2.2.2.2.1.size)))
        clear hK hb5 hks
        refine AnyP.oneL (i := 9) (by kernel_rfl) rfl (fun K hK => ?_)
        go_simp
        refine hK.out _ _ (fun _ h => h) ?_
        clear hK K
        (try simp only [Act.put, List.setIfInBounds_toArray, List.set_cons_zero, List.set_cons_succ])
        refine AnyP.oneL (i := 10) (by kernel_rfl) rfl (fun K hK => ?_)
        go_simp
        refine hK.out _ _ (fun h => by cases h) ?_
        clear hK K
        (try simp only [Act.put, List.setIfInBounds_toArray, List.set_cons_zero, List.set_cons_succ])
        refine AnyP.done (by kernel_rfl) ?_
        go_wp2
        go_roundg (gk - 1)
        case rel =>
          have heq : (X ++ ⟨#[44, 32]⟩) ++ ⟨#[34]⟩ ++ NM ++ ⟨#[34, 32, 58, 32]⟩ ++ K = BA (namesT (M.take (i + 1))) := by
            rw [HY.out.2.2.2.1, if_pos hi0, HI.out.1, ← HY.out.2.2.1, ← HF.out.1, show (⟨#[44, 32]⟩ : ByteArray) = BA [44, 32] from rfl, show (⟨#[34]⟩ : ByteArray) = BA [34] from rfl, show (⟨#[34, 32, 58, 32]⟩ : ByteArray) = BA [34, 32, 58, 32] from rfl]
            unfold nameT
            simp only [ba_add, List.append_assoc, List.cons_append, List.nil_append]
          exact ⟨i + 1, _, by omega, rfl, rfl, by rw [heq, ba_size]; exact H2.out.2.2.2.2.2.2.2.2 (i + 1), Lib.hid ⟨heq, HF.out.2⟩⟩
        case measure => omega
      · have hz0 : ¬ (0 : Int) < (i : Int) := by omega
        have hz1 : decide ((0 : Int) < (i : Int)) = false := by simpa using hz0
        go_wp2_with fail
        refine AnyP.begin (J := fun j => Nat.ble j 9) (S := fun W => Blk W N 51 [.string NM, .int .i64 q0, .int .i64 q1, .string q2, .slice q3 q4 q5, .slice q6 q7 q8]) (by kernel_rfl) rfl rfl ?_
        refine AnyP.takeP (i := 0) (v := .string X) rfl rfl (by kernel_rfl) (by kernel_rfl) (by kernel_rfl) (fun _ _ _ h => h) (by rfl) ?_ ?_
        · intro W
          go_simp
          try (with_reducible rfl)
        simp only [Act.put, List.setIfInBounds_toArray, List.set_cons_zero, List.set_cons_succ]
        refine AnyP.takeP (i := 1) (v := .string (X ++ ⟨#[34]⟩)) rfl rfl (by kernel_rfl) (by kernel_rfl) (by kernel_rfl) (fun _ _ _ h => h) (by rfl) ?_ ?_
        · intro W
          have g1 : X.size ≤ 9223372036854775807 := by omega
          have g2 : X.size ≤ 9223372036854775806 := by omega
          have g3 : X.size ≤ 9223372036854775805 := by omega
          have g4 : X.size ≤ 9223372036854775803 := by omega
          have g5 : X.size + 1 ≤ 9223372036854775807 := by omega
          have g6 : X.size + 1 ≤ 9223372036854775806 := by omega
          have g7 : X.size + 1 ≤ 9223372036854775805 := by omega
          have g8 : X.size + 1 ≤ 9223372036854775803 := by omega
          have g9 : X.size + 1 + NM.size ≤ 9223372036854775807 := by omega
          have g10 : X.size + 1 + NM.size ≤ 9223372036854775806 := by omega
          have g11 : X.size + 1 + NM.size ≤ 9223372036854775805 := by omega
          have g12 : X.size + 1 + NM.size ≤ 9223372036854775803 := by omega
          have g13 : X.size + 1 + NM.size + 4 ≤ 9223372036854775807 := by omega
          have g14 : X.size + 1 + NM.size + 4 ≤ 9223372036854775806 := by omega
          have g15 : X.size + 1 + NM.size + 4 ≤ 9223372036854775805 := by omega
          have g16 : X.size + 1 + NM.size + 4 ≤ 9223372036854775803 := by omega
          go_simp
          try (with_reducible rfl)
        simp only [Act.put, List.setIfInBounds_toArray, List.set_cons_zero, List.set_cons_succ]
        refine AnyP.takeP (i := 2) (v := .pointer (some ⟨N, 0, none⟩)) rfl rfl (by kernel_rfl) (by kernel_rfl) (by kernel_rfl) (fun _ _ _ h => h) (by rfl) ?_ ?_
        · intro W
          go_simp
          try (with_reducible rfl)
        simp only [Act.put, List.setIfInBounds_toArray, List.set_cons_zero, List.set_cons_succ]
        refine AnyP.takeT [6, 7, 8] (by rfl) (i := 3) (v := .string NM) rfl rfl (by kernel_rfl) (by kernel_rfl) (by kernel_rfl) (by kernel_rfl) (fun _ _ _ h => h) (by rfl) ?_ HY.out.2.1.drew ?_
        · intro W hW
          have n0 := hW.cell 0
          go_simp
          try (with_reducible rfl)
        simp only [Act.put, List.setIfInBounds_toArray, List.set_cons_zero, List.set_cons_succ]
        refine AnyP.takeP (i := 4) (v := .string (X ++ ⟨#[34]⟩ ++ NM)) rfl rfl (by kernel_rfl) (by kernel_rfl) (by kernel_rfl) (fun _ _ _ h => h) (by rfl) ?_ ?_
        · intro W
          have g1 : X.size ≤ 9223372036854775807 := by omega
          have g2 : X.size ≤ 9223372036854775806 := by omega
          have g3 : X.size ≤ 9223372036854775805 := by omega
          have g4 : X.size ≤ 9223372036854775803 := by omega
          have g5 : X.size + 1 ≤ 9223372036854775807 := by omega
          have g6 : X.size + 1 ≤ 9223372036854775806 := by omega
          have g7 : X.size + 1 ≤ 9223372036854775805 := by omega
          have g8 : X.size + 1 ≤ 9223372036854775803 := by omega
          have g9 : X.size + 1 + NM.size ≤ 9223372036854775807 := by omega
          have g10 : X.size + 1 + NM.size ≤ 9223372036854775806 := by omega
          have g11 : X.size + 1 + NM.size ≤ 9223372036854775805 := by omega
          have g12 : X.size + 1 + NM.size ≤ 9223372036854775803 := by omega
          have g13 : X.size + 1 + NM.size + 4 ≤ 9223372036854775807 := by omega
          have g14 : X.size + 1 + NM.size + 4 ≤ 9223372036854775806 := by omega
          have g15 : X.size + 1 + NM.size + 4 ≤ 9223372036854775805 := by omega
          have g16 : X.size + 1 + NM.size + 4 ≤ 9223372036854775803 := by omega
          go_simp
          try (with_reducible rfl)
        simp only [Act.put, List.setIfInBounds_toArray, List.set_cons_zero, List.set_cons_succ]
        refine AnyP.takeP (i := 5) (v := .string (X ++ ⟨#[34]⟩ ++ NM ++ ⟨#[34, 32, 58, 32]⟩)) rfl rfl (by kernel_rfl) (by kernel_rfl) (by kernel_rfl) (fun _ _ _ h => h) (by rfl) ?_ ?_
        · intro W
          have g1 : X.size ≤ 9223372036854775807 := by omega
          have g2 : X.size ≤ 9223372036854775806 := by omega
          have g3 : X.size ≤ 9223372036854775805 := by omega
          have g4 : X.size ≤ 9223372036854775803 := by omega
          have g5 : X.size + 1 ≤ 9223372036854775807 := by omega
          have g6 : X.size + 1 ≤ 9223372036854775806 := by omega
          have g7 : X.size + 1 ≤ 9223372036854775805 := by omega
          have g8 : X.size + 1 ≤ 9223372036854775803 := by omega
          have g9 : X.size + 1 + NM.size ≤ 9223372036854775807 := by omega
          have g10 : X.size + 1 + NM.size ≤ 9223372036854775806 := by omega
          have g11 : X.size + 1 + NM.size ≤ 9223372036854775805 := by omega
          have g12 : X.size + 1 + NM.size ≤ 9223372036854775803 := by omega
          have g13 : X.size + 1 + NM.size + 4 ≤ 9223372036854775807 := by omega
          have g14 : X.size + 1 + NM.size + 4 ≤ 9223372036854775806 := by omega
          have g15 : X.size + 1 + NM.size + 4 ≤ 9223372036854775805 := by omega
          have g16 : X.size + 1 + NM.size + 4 ≤ 9223372036854775803 := by omega
          go_simp
          try (with_reducible rfl)
        simp only [Act.put, List.setIfInBounds_toArray, List.set_cons_zero, List.set_cons_succ]
        refine AnyP.takeP (i := 6) (v := .pointer (some ⟨N, 1, none⟩)) rfl rfl (by kernel_rfl) (by kernel_rfl) (by kernel_rfl) (fun _ _ _ h => h) (by rfl) ?_ ?_
        · intro W
          go_simp
          try (with_reducible rfl)
        simp only [Act.put, List.setIfInBounds_toArray, List.set_cons_zero, List.set_cons_succ]
        refine AnyP.takeT [] (by rfl) (i := 7) (v := .agg #[.int .i64 q0, .int .i64 q1, .string q2, .slice q3 q4 q5, .slice q6 q7 q8]) rfl rfl (by kernel_rfl) (by kernel_rfl) (by kernel_rfl) (by kernel_rfl) (fun _ _ _ h => h) (by rfl) ?_ HY.out.2.1.drew ?_
        · intro W hW
          have n1 := hW.cell 1
          have n2 := hW.cell 2
          have n3 := hW.cell 3
          have n4 := hW.cell 4
          have n5 := hW.cell 5
          go_simp
          try (with_reducible rfl)
        simp only [Act.put, List.setIfInBounds_toArray, List.set_cons_zero, List.set_cons_succ]
        refine AnyP.oneL (i := 8) (by kernel_rfl) rfl (fun K hK => ?_)
        go_simp
        refine (show Calls _ _ _ _ _ from HY.out.1).mono ?_
        rintro e w5 ⟨rfl, hb5⟩
        refine hK.out _ _ (fun _ h => h.below hb5) ?_
        clear hK K
        (try simp only [Act.put, List.setIfInBounds_toArray, List.set_cons_zero, List.set_cons_succ])
        obtain ⟨K, hK⟩ : ∃ K, BA (printV f.2) = K := ⟨_, rfl⟩
        have hks2 : K.size ≤ 620 := by rw [← hK, ba_size]; exact hks
        rw [hK]
        have g6 : ¬ 9223372036854775807 < X.size + 1 + NM.size + 4 + K.size := by omega
        have HF := Lib.hid (And.intro hK (HY.out.2.2.2.2.1.trans (hb5.mono HY.out.2.2.2.2.1.size)))
        clear hK hb5 hks
        refine AnyP.oneL (i := 9) (by kernel_rfl) rfl (fun K hK => ?_)
        go_simp
        refine hK.out _ _ (fun _ h => h) ?_
        clear hK K
        (try simp only [Act.put, List.setIfInBounds_toArray, List.set_cons_zero, List.set_cons_succ])
        refine AnyP.oneL (i := 10) (by kernel_rfl) rfl (fun K hK => ?_)
        go_simp
        refine hK.out _ _ (fun h => by cases h) ?_
        clear hK K
        (try simp only [Act.put, List.setIfInBounds_toArray, List.set_cons_zero, List.set_cons_succ])
        refine AnyP.done (by kernel_rfl) ?_
        go_wp2
        go_roundg (gk - 1)
        case rel =>
          have heq : X ++ ⟨#[34]⟩ ++ NM ++ ⟨#[34, 32, 58, 32]⟩ ++ K = BA (namesT (M.take (i + 1))) := by
            rw [HY.out.2.2.2.1, if_neg hi0, HI.out.1, ← HY.out.2.2.1, ← HF.out.1, show (⟨#[34]⟩ : ByteArray) = BA [34] from rfl, show (⟨#[34, 32, 58, 32]⟩ : ByteArray) = BA [34, 32, 58, 32] from rfl]
            unfold nameT
            rw [show i = 0 by omega, List.take_zero, namesT]; simp only [ba_add, List.append_assoc, List.cons_append, List.nil_append]
          exact ⟨i + 1, _, by omega, rfl, rfl, by rw [heq, ba_size]; exact H2.out.2.2.2.2.2.2.2.2 (i + 1), Lib.hid ⟨heq, HF.out.2⟩⟩
        case measure => omega
    · have hiz : ¬ (i : Int) < (n : Int) := by omega
      have hie : i = n := by omega
      subst hie
      have hX := HI.out.1
      rw [List.take_of_length_le (by rw [H2.out.2.2.2.2.2.2.2.1]; exact Nat.le_refl _)] at hX
      have hdoc := H2.out.2.2.2.2.2.1
      have hpar := names_parse false hdoc
      rw [H2.out.2.2.2.2.2.2.1] at hpar
      have HX := Lib.hid (And.intro hX hpar)
      have hbw := H2.out.2.2.2.2.1.trans (HI.out.2.mono H2.out.2.2.2.2.1.size)
      clear hX hpar hpp
      go_wp2_with fail
      refine Calls.mono (parse_ok HX.out.2 _ (by rw [HX.out.1, show (⟨#[123]⟩ : ByteArray) = BA [123] from rfl, show (⟨#[125]⟩ : ByteArray) = BA [125] from rfl, ba_add, ba_add]; rfl) wr (H.out.2.2.1.below hbw)) ?_
      rintro e w4 ⟨r0, r1, r2, r3, r4, r5, r6, r7, r8, rfl, hy, hb4⟩
      obtain ⟨W4, hW4⟩ : ∃ W, w4.alloc (.cells #[.int .i64 r0, .int .i64 r1, .string r2, .slice r3 r4 r5, .slice r6 r7 r8] 28) = W := ⟨_, rfl⟩
      have hb4a : Below w4.heap.size w4 W4 := by rw [← hW4]; exact (Below.refl _ w4).alloc (Nat.le_refl _) _
      have hbr := hb4.trans (hb4a.mono hb4.size)
      have hb24 := HI.out.2.trans (hbr.mono HI.out.2.size)
      have hbw4 := hbw.trans (hbr.mono hbw.size)
      have hq4 : Blk (w4.alloc (.cells #[.int .i64 r0, .int .i64 r1, .string r2, .slice r3 r4 r5, .slice r6 r7 r8] 28)) P 28 [.int .i64 5, .int .i64 0, .string ⟨#[]⟩, .slice none 0 0, .slice p i cap] := by rw [hW4]; exact H2.out.2.2.2.1.below hb24
      have H4 := Lib.hid (And.intro hW4 (And.intro (hy.later hb4a) (And.intro (H2.out.2.2.1.later hb24) (And.intro hbw4 (And.intro (H2.out.2.2.2.1.below hb24) hb24)))))
      have p0 := hq4.cell 0
      have p1 := hq4.cell 1
      have p2 := hq4.cell 2
      have p3 := hq4.cell 3
      have p4 := hq4.cell 4
      clear hb4 hb4a hbr hb24 hbw4 hq4 hW4 hy hbw
      go_wp2_with fail
      (try rw [H4.out.1])
      clear p0 p1 p2 p3 p4
      refine (show Calls _ _ _ _ _ from vsame_any (.obj m) (.obj m) _ _ _ _ _ H4.out.2.1 H4.out.2.2.1).mono ?_
      rintro e w5 ⟨rfl, hb5⟩
      rw [same_refl]
      have H5 := Lib.hid (And.intro (H4.out.2.2.2.2.1.below hb5) (And.intro (H4.out.2.2.2.1.trans (hb5.mono H4.out.2.2.2.1.size)) (H4.out.2.2.2.2.2.trans (hb5.mono H4.out.2.2.2.2.2.size))))
      clear hb5
      have s4 := H5.out.1.cell 4
      by_cases hi0 : i = 0
      · have hz0 : (i : Int) = 0 := by omega
        go_wp2
        go_ret
        exact ⟨by first | rfl | simp, H5.out.2.1⟩
      · have hz0 : ¬ (i : Int) = 0 := by omega
        have hz1 : ((i : Int) == 0) = false := beq_eq_false_iff_ne.2 hz0
        have hz2 : (0 : Int) < (i : Int) := by omega
        obtain ⟨b, hpe, hrb⟩ := HV.out.2.1 (by rw [HV.out.2.2.1]; omega)
        subst hpe
        obtain ⟨f, fl, hm⟩ : ∃ f l, m = f :: l := by
          cases m with
          | nil => exact absurd HV.out.2.2.1.symm hi0
          | cons f l => exact ⟨f, l, rfl⟩
        have hg := HV.out.1.get 0 (by rw [hm]; exact Nat.zero_lt_succ _)
        obtain ⟨d0, d1, d2, d3, d4, hxx, e5, e0, e1, e2, e3, e4⟩ := hg
        have hf0 : ∀ h, (m[0]'h) = f := fun h => by simp [hm]
        rw [hf0] at e5
        have hfs := hdoc.size f (by rw [hm]; exact List.mem_cons_self ..)
        have hns : f.1.length ≤ 620 := by unfold nameT at hfs; simp only [List.length_cons, List.length_append] at hfs; omega
        obtain ⟨NM, hNM⟩ : ∃ N, BA f.1 = N := ⟨_, rfl⟩
        have hns2 : NM.size ≤ 620 := by rw [← hNM, ba_size]; exact hns
        rw [hNM] at e5
        have htw := names_twice false hdoc hm
        rw [H2.out.2.2.2.2.2.2.1] at htw
        have e5b : cs[0]? = some (.string NM) := by simpa using e5
        have c0 := bcell H5.out.2.2 (bcell HV.out.2.2.2 (hrb 0 _ e5b))
        have HT := Lib.hid (And.intro htw hNM)
        clear hxx e5 e0 e1 e2 e3 e4 hf0 hfs hns hNM htw hrb e5b hm hdoc
        go_wp2_with fail
        refine Calls.mono (parse_err (k := 5) HT.out.1 _ (by rw [HX.out.1, ← HT.out.2, show (⟨#[123]⟩ : ByteArray) = BA [123] from rfl, show (⟨#[44, 34]⟩ : ByteArray) = BA [44, 34] from rfl, show (⟨#[34, 58, 48, 125]⟩ : ByteArray) = BA [34, 58, 48, 125] from rfl]; simp only [ba_add, List.append_assoc, List.cons_append, List.nil_append]) w5 (H.out.2.2.1.below H5.out.2.1)) ?_
        rintro e v6 ⟨t6, u6, rfl, hc6, hb6⟩
        obtain ⟨W6, hW6⟩ : ∃ W, v6.alloc (.cells #[.int .i64 0, .int .i64 0, .string ⟨#[]⟩, .slice none 0 0, .slice none 0 0] 28) = W := ⟨_, rfl⟩
        have hb6a : Below v6.heap.size v6 W6 := by rw [← hW6]; exact (Below.refl _ v6).alloc (Nat.le_refl _) _
        have H6 := Lib.hid (And.intro hW6 (And.intro (H5.out.2.1.trans ((hb6.trans (hb6a.mono hb6.size)).mono H5.out.2.1.size)) (hc6.below hb6a)))
        clear hb6 hb6a hW6 hc6
        go_wp2_with fail
        rw [H6.out.1]
        refine (show Calls _ _ _ _ _ from code_chain 1 _ 5 W6 H6.out.2.2 (H.out.2.2.1.below H6.out.2.1).1.errt).mono ?_
        rintro e w7 ⟨rfl, hb7⟩
        have HF := Lib.hid (H6.out.2.1.trans (hb7.mono H6.out.2.1.size))
        clear hb7
        go_wp2
        go_ret
        exact ⟨by first | rfl | simp, HF.out⟩

set_option maxHeartbeats 8000000 in
set_option maxRecDepth 100000 in
theorem jnames_true (nb : Nat) (w : World) (sv : Value) (nm0 : ByteArray) (l : BL) (hnb : nb ≤ w.heap.size) (h : BRead nb w sv l) (hJ : JW w) :
    Calls Tryz.prog 8 #[sv, .string nm0, .bool true] w fun e w' => e = .returned (.bool true) ∧ Below w.heap.size w w' := by
  have H := Lib.hid (And.intro hnb (And.intro h hJ))
  clear hnb h hJ
  go_enter Tryz.func8, Tryz.ntmps8
  go_wp2_with fail
  refine (jawake_any _ H.out.2.2.1).mono ?_
  rintro e w1 ⟨rfl, hb1⟩
  have H1 := Lib.hid hb1
  clear hb1
  go_wp2_with fail
  refine (doc_any nb w1 sv l (Nat.le_trans H.out.1 H1.out.size) (H.out.2.1.later (H1.out.mono H.out.1)) (H.out.2.2.2.later H1.out)).mono ?_
  rintro e w2 ⟨x, rfl, hx, hb2⟩
  have hx0 : VAt (fun b => w1.heap.size ≤ b ∧ b < w2.heap.size) w2 (.obj (docM l)) x := by rw [← docL_eq]; exact hx
  have hok := hx0.ok
  rw [okV] at hok
  have hdoc : DocFJ (docM l) := doc_fJ _ _ (fun x hx => okFs_mem hok hx)
  obtain ⟨m, hm⟩ : ∃ m, docM l = m := ⟨_, rfl⟩
  rw [hm] at hx0 hdoc
  clear hx hok hm
  have hxk := Lib.hid hx0
  cases hx0 with
  | obj m cs sl hV hr =>
  obtain ⟨p, cap, rfl, hp⟩ := row_form hr
  clear hr
  obtain ⟨n, hn⟩ : ∃ n, m.length = n := ⟨_, rfl⟩
  rw [hn] at hxk ⊢
  have hn4 : n ≤ 4 := by rw [← hn]; exact hdoc.few
  obtain ⟨P, hP⟩ : ∃ P, w2.heap.size = P := ⟨_, rfl⟩
  obtain ⟨W2, hW2⟩ : ∃ W, w2.alloc (.cells #[.int .i64 5, .int .i64 0, .string ⟨#[]⟩, .slice none 0 0, .slice p n cap] 28) = W := ⟨_, rfl⟩
  have hk2 : Blk W2 P 28 [.int .i64 5, .int .i64 0, .string ⟨#[]⟩, .slice none 0 0, .slice p n cap] := by rw [← hW2, ← hP]; exact heap_alloc_new w2 _
  have hb2a : Below w2.heap.size w2 W2 := by rw [← hW2]; exact (Below.refl _ w2).alloc (Nat.le_refl _) _
  obtain ⟨M, hM⟩ : ∃ M, turned true m = M := ⟨_, rfl⟩
  have hMl : M.length = n := by rw [← hM, turned_len, hn]
  have hMs := names_long M (by omega) (fun x hx => hdoc.size x ((turned_mem true m x).1 (by rw [hM]; exact hx)))
  have H2 := Lib.hid (And.intro hW2 (And.intro hP (And.intro (hxk.out.later hb2a) (And.intro hk2 (And.intro ((H1.out.trans (hb2.mono H1.out.size)).trans (hb2a.mono (Nat.le_trans H1.out.size hb2.size))) (And.intro hdoc (And.intro hM (And.intro hMl hMs))))))))
  have HV := Lib.hid (And.intro hV (And.intro hp (And.intro hn hb2a)))
  clear hb2 hk2 hb2a hW2 hM hMl hMs hdoc hV hp hxk hn
  go_wp2_with fail
  rw [H2.out.1]
  (try rw [H2.out.2.1])
  clear hP
  go_loopg [8, 22] n (fun gk sv iv wr => ∃ (i : Nat) (X : ByteArray), gk + i = n ∧ sv = .string X ∧ iv = .int .i64 i ∧ X.size ≤ 2488 ∧ Hid (X = BA (namesT (M.take i)) ∧ Below W2.heap.size W2 wr))
  case atStart => exact ⟨0, _, by omega, rfl, rfl, by decide, Lib.hid ⟨by rw [List.take_zero]; rfl, Below.refl _ _⟩⟩
  case round =>
    obtain ⟨i, X, hg, rfl, rfl, hxs, HI⟩ := hrel
    have hpp := (H2.out.2.2.2.1.below HI.out.2).cell 4
    by_cases hi : i < n
    · have hiz : (i : Int) < (n : Int) := by omega
      have hwK : IntKind.i64.wrap ((i : Int) + 1) = ((i + 1 : Nat) : Int) := by rw [IntWalk.i64_in _ (by omega)]; omega
      have hil : i < m.length := by rw [HV.out.2.2.1]; exact hi
      obtain ⟨b, hpe, hrb⟩ := HV.out.2.1 (by omega)
      subst hpe
      have hrb2 : ∀ k u, cs[k]? = some u → wr.cell? ⟨b, k, none⟩ = some u := fun k u h => bcell HI.out.2 (bcell HV.out.2.2.2 (hrb k u h))
      obtain ⟨ad0, ad1, ad2, ad3, ad4, ax, a5, a0, a1, a2, a3, a4⟩ := HV.out.1.get i hil
      obtain ⟨z0, z1, z2, z3, z4, z5, z6, z7, z8, aq⟩ := ax.shape
      simp only [List.cons.injEq, and_true] at aq
      obtain ⟨rfl, rfl, rfl, rfl, rfl⟩ := aq
      have ak5 := hrb2 _ _ a5
      have ak0 := hrb2 _ _ a0
      have ak1 := hrb2 _ _ a1
      have ak2 := hrb2 _ _ a2
      have ak3 := hrb2 _ _ a3
      have ak4 := hrb2 _ _ a4
      obtain ⟨n1, hn1⟩ : ∃ k, n - 1 = k := ⟨_, rfl⟩
      obtain ⟨j, hj⟩ : ∃ k, n - 1 - i = k := ⟨_, rfl⟩
      have hw1 : IntKind.i64.wrap ((n : Int) - 1) = (n1 : Int) := by rw [IntWalk.i64_in _ (by omega)]; omega
      have hw2 : IntKind.i64.wrap ((n1 : Int) - (i : Int)) = (j : Int) := by rw [IntWalk.i64_in _ (by omega)]; omega
      have hjn : j < n := by omega
      have hjz : (j : Int) < (n : Int) := by omega
      have hjl : j < m.length := by rw [HV.out.2.2.1]; exact hjn
      obtain ⟨bd0, bd1, bd2, bd3, bd4, bx, b5, b0, b1, b2, b3, b4⟩ := HV.out.1.get j hjl
      obtain ⟨q0, q1, q2, q3, q4, q5, q6, q7, q8, bq⟩ := bx.shape
      simp only [List.cons.injEq, and_true] at bq
      obtain ⟨rfl, rfl, rfl, rfl, rfl⟩ := bq
      have bk5 := hrb2 _ _ b5
      have bk0 := hrb2 _ _ b0
      have bk1 := hrb2 _ _ b1
      have bk2 := hrb2 _ _ b2
      have bk3 := hrb2 _ _ b3
      have bk4 := hrb2 _ _ b4
      go_upto_region 10 with fail
      obtain ⟨N, hN⟩ : ∃ N, wr.heap.size = N := ⟨_, rfl⟩
      obtain ⟨W4, hW4⟩ : ∃ W, wr.alloc (.cells #[.string (BA m[i].1), .int .i64 z0, .int .i64 z1, .string z2, .slice z3 z4 z5, .slice z6 z7 z8] 51) = W := ⟨_, rfl⟩
      have hb4 : Below wr.heap.size wr W4 := by rw [← hW4]; exact (Below.refl _ wr).alloc (Nat.le_refl _) _
      have kF4 : Blk W4 N 51 [.string (BA m[i].1), .int .i64 z0, .int .i64 z1, .string z2, .slice z3 z4 z5, .slice z6 z7 z8] := by rw [← hW4, ← hN]; exact heap_alloc_new wr _
      rw [hW4]
      (try rw [hN])
      have hpp4 := bcell hb4 hpp
      have bl5 := bcell hb4 bk5
      have bl0 := bcell hb4 bk0
      have bl1 := bcell hb4 bk1
      have bl2 := bcell hb4 bk2
      have bl3 := bcell hb4 bk3
      have bl4 := bcell hb4 bk4
      have af0 := kF4.cell 0
      have af1 := kF4.cell 1
      have af2 := kF4.cell 2
      have af3 := kF4.cell 3
      have af4 := kF4.cell 4
      have af5 := kF4.cell 5
      have ag0 := kF4.frozen 0
      have ag1 := kF4.frozen 1
      have ag2 := kF4.frozen 2
      have ag3 := kF4.frozen 3
      have ag4 := kF4.frozen 4
      have ag5 := kF4.frozen 5
      go_upto_region 11 with fail
      clear ak0 ak1 ak2 ak3 ak4 ak5 bk0 bk1 bk2 bk3 bk4 bk5 bl0 bl1 bl2 bl3 bl4 bl5 af0 af1 af2 af3 af4 af5 ag0 ag1 ag2 ag3 ag4 ag5
      obtain ⟨W3, hW3⟩ : ∃ W, ((((((W4).setCell ⟨N, 0, none⟩ (.string (BA m[j].1))).setCell ⟨N, 1, none⟩ (.int .i64 q0)).setCell ⟨N, 2, none⟩ (.int .i64 q1)).setCell ⟨N, 3, none⟩ (.string q2)).setCell ⟨N, 4, none⟩ (.slice q3 q4 q5)).setCell ⟨N, 5, none⟩ (.slice q6 q7 q8) = W := ⟨_, rfl⟩
      rw [hW3]
      have kF : Blk W3 N 51 [.string (BA m[j].1), .int .i64 q0, .int .i64 q1, .string q2, .slice q3 q4 q5, .slice q6 q7 q8] := by rw [← hW3]; exact ((((((kF4).set 0 (.string (BA m[j].1))).set 1 (.int .i64 q0)).set 2 (.int .i64 q1)).set 3 (.string q2)).set 4 (.slice q3 q4 q5)).set 5 (.slice q6 q7 q8)
      have ho3 : Only (· = N) W4 W3 := by rw [← hW3]; exact ((((((Only.refl _ _).trans (Only.set1 _ N 0 (.string (BA m[j].1)))).trans (Only.set1 _ N 1 (.int .i64 q0))).trans (Only.set1 _ N 2 (.int .i64 q1))).trans (Only.set1 _ N 3 (.string q2))).trans (Only.set1 _ N 4 (.slice q3 q4 q5))).trans (Only.set1 _ N 5 (.slice q6 q7 q8))
      have hb3 : Below wr.heap.size wr W3 := hb4.trans (ho3.below hb4.size (fun k hk e => by rw [hN] at hk; omega))
      obtain ⟨f, hf⟩ : ∃ f, m[j] = f := ⟨_, rfl⟩
      have hMi : M[i]? = some f := by
        rw [← H2.out.2.2.2.2.2.2.1, ← hf]
        show m.reverse[i]? = some m[j]
        rw [List.getElem?_reverse hil, show m.length - 1 - i = j by rw [HV.out.2.2.1]; exact hj, List.getElem?_eq_getElem hjl]
      have HX := Lib.hid (And.intro True.intro (And.intro hN (And.intro (HI.out.2.trans (hb3.mono HI.out.2.size)) (And.intro kF (And.intro (bx.later ((HV.out.2.2.2.trans (HI.out.2.mono HV.out.2.2.2.size)).trans (hb3.mono (Nat.le_trans HV.out.2.2.2.size HI.out.2.size)))) hMi)))))
      have hfm : f ∈ m := by rw [← hf]; exact List.getElem_mem hjl
      have hfs := H2.out.2.2.2.2.2.1.size f hfm
      have hks : (printV f.2).length ≤ 620 := by unfold nameT at hfs; simp only [List.length_cons, List.length_append] at hfs; omega
      have hns : f.1.length ≤ 620 := by unfold nameT at hfs; simp only [List.length_cons, List.length_append] at hfs; omega
      rw [hf] at kF HX
      obtain ⟨NM, hNM⟩ : ∃ N, BA f.1 = N := ⟨_, rfl⟩
      have hns2 : NM.size ≤ 620 := by rw [← hNM, ba_size]; exact hns
      have hMf := HX.out.2.2.2.2.2
      have hiM : i < M.length := by rw [H2.out.2.2.2.2.2.2.2.1]; exact hi
      rw [List.getElem?_eq_getElem hiM] at hMf
      have hMf2 : M[i] = f := Option.some.inj hMf
      have hnt := names_take M i hiM
      rw [hMf2] at hnt
      have hbw3 := H2.out.2.2.2.2.1.trans (HX.out.2.2.1.mono H2.out.2.2.2.2.1.size)
      have hcall := print_any f.2 _ W3.drew _ (HX.out.2.2.2.2.1.later ((Below.refl _ W3).drew)) (H.out.2.2.1.below hbw3.drew) (by omega)
      unfold PrC at hcall
      rw [hNM] at kF
      have HY := Lib.hid (And.intro hcall (And.intro kF (And.intro hNM (And.intro hnt (And.intro (show Below W2.heap.size W2 W3.drew from HX.out.2.2.1.drew) True.intro)))))
      clear hfm hfs kF hNM hMf hiM hMf2 hnt hbw3 hcall hpp hns hrb hrb2
      by_cases hi0 : 0 < i
      · have hz0 : (0 : Int) < (i : Int) := by omega
        have hz1 : decide ((0 : Int) < (i : Int)) = true := by simpa using hz0
        go_wp2_with fail
        refine AnyP.begin (J := fun j => Nat.ble j 9) (S := fun W => Blk W N 51 [.string NM, .int .i64 q0, .int .i64 q1, .string q2, .slice q3 q4 q5, .slice q6 q7 q8]) (by kernel_rfl) rfl rfl ?_
        refine AnyP.takeP (i := 0) (v := .string (X ++ ⟨#[44, 32]⟩)) rfl rfl (by kernel_rfl) (by kernel_rfl) (by kernel_rfl) (fun _ _ _ h => h) (by rfl) ?_ ?_
        · intro W
          go_simp
          try (with_reducible rfl)
        simp only [Act.put, List.setIfInBounds_toArray, List.set_cons_zero, List.set_cons_succ]
        refine AnyP.takeP (i := 1) (v := .string ((X ++ ⟨#[44, 32]⟩) ++ ⟨#[34]⟩)) rfl rfl (by kernel_rfl) (by kernel_rfl) (by kernel_rfl) (fun _ _ _ h => h) (by rfl) ?_ ?_
        · intro W
          have g1 : X.size + 2 ≤ 9223372036854775807 := by omega
          have g2 : X.size + 2 ≤ 9223372036854775806 := by omega
          have g3 : X.size + 2 ≤ 9223372036854775805 := by omega
          have g4 : X.size + 2 ≤ 9223372036854775803 := by omega
          have g5 : X.size + 2 + 1 ≤ 9223372036854775807 := by omega
          have g6 : X.size + 2 + 1 ≤ 9223372036854775806 := by omega
          have g7 : X.size + 2 + 1 ≤ 9223372036854775805 := by omega
          have g8 : X.size + 2 + 1 ≤ 9223372036854775803 := by omega
          have g9 : X.size + 2 + 1 + NM.size ≤ 9223372036854775807 := by omega
          have g10 : X.size + 2 + 1 + NM.size ≤ 9223372036854775806 := by omega
          have g11 : X.size + 2 + 1 + NM.size ≤ 9223372036854775805 := by omega
          have g12 : X.size + 2 + 1 + NM.size ≤ 9223372036854775803 := by omega
          have g13 : X.size + 2 + 1 + NM.size + 4 ≤ 9223372036854775807 := by omega
          have g14 : X.size + 2 + 1 + NM.size + 4 ≤ 9223372036854775806 := by omega
          have g15 : X.size + 2 + 1 + NM.size + 4 ≤ 9223372036854775805 := by omega
          have g16 : X.size + 2 + 1 + NM.size + 4 ≤ 9223372036854775803 := by omega
          have g17 : X.size ≤ 9223372036854775807 := by omega
          have g18 : X.size ≤ 9223372036854775806 := by omega
          have g19 : X.size ≤ 9223372036854775805 := by omega
          have g20 : X.size ≤ 9223372036854775803 := by omega
          go_simp
          try (with_reducible rfl)
        simp only [Act.put, List.setIfInBounds_toArray, List.set_cons_zero, List.set_cons_succ]
        refine AnyP.takeP (i := 2) (v := .pointer (some ⟨N, 0, none⟩)) rfl rfl (by kernel_rfl) (by kernel_rfl) (by kernel_rfl) (fun _ _ _ h => h) (by rfl) ?_ ?_
        · intro W
          go_simp
          try (with_reducible rfl)
        simp only [Act.put, List.setIfInBounds_toArray, List.set_cons_zero, List.set_cons_succ]
        refine AnyP.takeT [6, 7, 8] (by rfl) (i := 3) (v := .string NM) rfl rfl (by kernel_rfl) (by kernel_rfl) (by kernel_rfl) (by kernel_rfl) (fun _ _ _ h => h) (by rfl) ?_ HY.out.2.1.drew ?_
        · intro W hW
          have n0 := hW.cell 0
          go_simp
          try (with_reducible rfl)
        simp only [Act.put, List.setIfInBounds_toArray, List.set_cons_zero, List.set_cons_succ]
        refine AnyP.takeP (i := 4) (v := .string ((X ++ ⟨#[44, 32]⟩) ++ ⟨#[34]⟩ ++ NM)) rfl rfl (by kernel_rfl) (by kernel_rfl) (by kernel_rfl) (fun _ _ _ h => h) (by rfl) ?_ ?_
        · intro W
          have g1 : X.size + 2 ≤ 9223372036854775807 := by omega
          have g2 : X.size + 2 ≤ 9223372036854775806 := by omega
          have g3 : X.size + 2 ≤ 9223372036854775805 := by omega
          have g4 : X.size + 2 ≤ 9223372036854775803 := by omega
          have g5 : X.size + 2 + 1 ≤ 9223372036854775807 := by omega
          have g6 : X.size + 2 + 1 ≤ 9223372036854775806 := by omega
          have g7 : X.size + 2 + 1 ≤ 9223372036854775805 := by omega
          have g8 : X.size + 2 + 1 ≤ 9223372036854775803 := by omega
          have g9 : X.size + 2 + 1 + NM.size ≤ 9223372036854775807 := by omega
          have g10 : X.size + 2 + 1 + NM.size ≤ 9223372036854775806 := by omega
          have g11 : X.size + 2 + 1 + NM.size ≤ 9223372036854775805 := by omega
          have g12 : X.size + 2 + 1 + NM.size ≤ 9223372036854775803 := by omega
          have g13 : X.size + 2 + 1 + NM.size + 4 ≤ 9223372036854775807 := by omega
          have g14 : X.size + 2 + 1 + NM.size + 4 ≤ 9223372036854775806 := by omega
          have g15 : X.size + 2 + 1 + NM.size + 4 ≤ 9223372036854775805 := by omega
          have g16 : X.size + 2 + 1 + NM.size + 4 ≤ 9223372036854775803 := by omega
          have g17 : X.size ≤ 9223372036854775807 := by omega
          have g18 : X.size ≤ 9223372036854775806 := by omega
          have g19 : X.size ≤ 9223372036854775805 := by omega
          have g20 : X.size ≤ 9223372036854775803 := by omega
          go_simp
          try (with_reducible rfl)
        simp only [Act.put, List.setIfInBounds_toArray, List.set_cons_zero, List.set_cons_succ]
        refine AnyP.takeP (i := 5) (v := .string ((X ++ ⟨#[44, 32]⟩) ++ ⟨#[34]⟩ ++ NM ++ ⟨#[34, 32, 58, 32]⟩)) rfl rfl (by kernel_rfl) (by kernel_rfl) (by kernel_rfl) (fun _ _ _ h => h) (by rfl) ?_ ?_
        · intro W
          have g1 : X.size + 2 ≤ 9223372036854775807 := by omega
          have g2 : X.size + 2 ≤ 9223372036854775806 := by omega
          have g3 : X.size + 2 ≤ 9223372036854775805 := by omega
          have g4 : X.size + 2 ≤ 9223372036854775803 := by omega
          have g5 : X.size + 2 + 1 ≤ 9223372036854775807 := by omega
          have g6 : X.size + 2 + 1 ≤ 9223372036854775806 := by omega
          have g7 : X.size + 2 + 1 ≤ 9223372036854775805 := by omega
          have g8 : X.size + 2 + 1 ≤ 9223372036854775803 := by omega
          have g9 : X.size + 2 + 1 + NM.size ≤ 9223372036854775807 := by omega
          have g10 : X.size + 2 + 1 + NM.size ≤ 9223372036854775806 := by omega
          have g11 : X.size + 2 + 1 + NM.size ≤ 9223372036854775805 := by omega
          have g12 : X.size + 2 + 1 + NM.size ≤ 9223372036854775803 := by omega
          have g13 : X.size + 2 + 1 + NM.size + 4 ≤ 9223372036854775807 := by omega
          have g14 : X.size + 2 + 1 + NM.size + 4 ≤ 9223372036854775806 := by omega
          have g15 : X.size + 2 + 1 + NM.size + 4 ≤ 9223372036854775805 := by omega
          have g16 : X.size + 2 + 1 + NM.size + 4 ≤ 9223372036854775803 := by omega
          have g17 : X.size ≤ 9223372036854775807 := by omega
          have g18 : X.size ≤ 9223372036854775806 := by omega
          have g19 : X.size ≤ 9223372036854775805 := by omega
          have g20 : X.size ≤ 9223372036854775803 := by omega
          go_simp
          try (with_reducible rfl)
        simp only [Act.put, List.setIfInBounds_toArray, List.set_cons_zero, List.set_cons_succ]
        refine AnyP.takeP (i := 6) (v := .pointer (some ⟨N, 1, none⟩)) rfl rfl (by kernel_rfl) (by kernel_rfl) (by kernel_rfl) (fun _ _ _ h => h) (by rfl) ?_ ?_
        · intro W
          go_simp
          try (with_reducible rfl)
        simp only [Act.put, List.setIfInBounds_toArray, List.set_cons_zero, List.set_cons_succ]
        refine AnyP.takeT [] (by rfl) (i := 7) (v := .agg #[.int .i64 q0, .int .i64 q1, .string q2, .slice q3 q4 q5, .slice q6 q7 q8]) rfl rfl (by kernel_rfl) (by kernel_rfl) (by kernel_rfl) (by kernel_rfl) (fun _ _ _ h => h) (by rfl) ?_ HY.out.2.1.drew ?_
        · intro W hW
          have n1 := hW.cell 1
          have n2 := hW.cell 2
          have n3 := hW.cell 3
          have n4 := hW.cell 4
          have n5 := hW.cell 5
          go_simp
          try (with_reducible rfl)
        simp only [Act.put, List.setIfInBounds_toArray, List.set_cons_zero, List.set_cons_succ]
        refine AnyP.oneL (i := 8) (by kernel_rfl) rfl (fun K hK => ?_)
        go_simp
        refine (show Calls _ _ _ _ _ from HY.out.1).mono ?_
        rintro e w5 ⟨rfl, hb5⟩
        refine hK.out _ _ (fun _ h => h.below hb5) ?_
        clear hK K
        (try simp only [Act.put, List.setIfInBounds_toArray, List.set_cons_zero, List.set_cons_succ])
        obtain ⟨K, hK⟩ : ∃ K, BA (printV f.2) = K := ⟨_, rfl⟩
        have hks2 : K.size ≤ 620 := by rw [← hK, ba_size]; exact hks
        rw [hK]
        have g6 : ¬ 9223372036854775807 < X.size + 2 + 1 + NM.size + 4 + K.size := by omega
        have HF := Lib.hid (And.intro hK (HY.out.2.2.2.2.1.trans (hb5.mono HY.out.2.2.2.2.1.size)))
        clear hK hb5 hks
        refine AnyP.oneL (i := 9) (by kernel_rfl) rfl (fun K hK => ?_)
        go_simp
        refine hK.out _ _ (fun _ h => h) ?_
        clear hK K
        (try simp only [Act.put, List.setIfInBounds_toArray, List.set_cons_zero, List.set_cons_succ])
        refine AnyP.oneL (i := 10) (by kernel_rfl) rfl (fun K hK => ?_)
        go_simp
        refine hK.out _ _ (fun h => by cases h) ?_
        clear hK K
        (try simp only [Act.put, List.setIfInBounds_toArray, List.set_cons_zero, List.set_cons_succ])
        refine AnyP.done (by kernel_rfl) ?_
        go_wp2
        go_roundg (gk - 1)
        case rel =>
          have heq : (X ++ ⟨#[44, 32]⟩) ++ ⟨#[34]⟩ ++ NM ++ ⟨#[34, 32, 58, 32]⟩ ++ K = BA (namesT (M.take (i + 1))) := by
            rw [HY.out.2.2.2.1, if_pos hi0, HI.out.1, ← HY.out.2.2.1, ← HF.out.1, show (⟨#[44, 32]⟩ : ByteArray) = BA [44, 32] from rfl, show (⟨#[34]⟩ : ByteArray) = BA [34] from rfl, show (⟨#[34, 32, 58, 32]⟩ : ByteArray) = BA [34, 32, 58, 32] from rfl]
            unfold nameT
            simp only [ba_add, List.append_assoc, List.cons_append, List.nil_append]
          exact ⟨i + 1, _, by omega, rfl, rfl, by rw [heq, ba_size]; exact H2.out.2.2.2.2.2.2.2.2 (i + 1), Lib.hid ⟨heq, HF.out.2⟩⟩
        case measure => omega
      · have hz0 : ¬ (0 : Int) < (i : Int) := by omega
        have hz1 : decide ((0 : Int) < (i : Int)) = false := by simpa using hz0
        go_wp2_with fail
        refine AnyP.begin (J := fun j => Nat.ble j 9) (S := fun W => Blk W N 51 [.string NM, .int .i64 q0, .int .i64 q1, .string q2, .slice q3 q4 q5, .slice q6 q7 q8]) (by kernel_rfl) rfl rfl ?_
        refine AnyP.takeP (i := 0) (v := .string X) rfl rfl (by kernel_rfl) (by kernel_rfl) (by kernel_rfl) (fun _ _ _ h => h) (by rfl) ?_ ?_
        · intro W
          go_simp
          try (with_reducible rfl)
        simp only [Act.put, List.setIfInBounds_toArray, List.set_cons_zero, List.set_cons_succ]
        refine AnyP.takeP (i := 1) (v := .string (X ++ ⟨#[34]⟩)) rfl rfl (by kernel_rfl) (by kernel_rfl) (by kernel_rfl) (fun _ _ _ h => h) (by rfl) ?_ ?_
        · intro W
          have g1 : X.size ≤ 9223372036854775807 := by omega
          have g2 : X.size ≤ 9223372036854775806 := by omega
          have g3 : X.size ≤ 9223372036854775805 := by omega
          have g4 : X.size ≤ 9223372036854775803 := by omega
          have g5 : X.size + 1 ≤ 9223372036854775807 := by omega
          have g6 : X.size + 1 ≤ 9223372036854775806 := by omega
          have g7 : X.size + 1 ≤ 9223372036854775805 := by omega
          have g8 : X.size + 1 ≤ 9223372036854775803 := by omega
          have g9 : X.size + 1 + NM.size ≤ 9223372036854775807 := by omega
          have g10 : X.size + 1 + NM.size ≤ 9223372036854775806 := by omega
          have g11 : X.size + 1 + NM.size ≤ 9223372036854775805 := by omega
          have g12 : X.size + 1 + NM.size ≤ 9223372036854775803 := by omega
          have g13 : X.size + 1 + NM.size + 4 ≤ 9223372036854775807 := by omega
          have g14 : X.size + 1 + NM.size + 4 ≤ 9223372036854775806 := by omega
          have g15 : X.size + 1 + NM.size + 4 ≤ 9223372036854775805 := by omega
          have g16 : X.size + 1 + NM.size + 4 ≤ 9223372036854775803 := by omega
          go_simp
          try (with_reducible rfl)
        simp only [Act.put, List.setIfInBounds_toArray, List.set_cons_zero, List.set_cons_succ]
        refine AnyP.takeP (i := 2) (v := .pointer (some ⟨N, 0, none⟩)) rfl rfl (by kernel_rfl) (by kernel_rfl) (by kernel_rfl) (fun _ _ _ h => h) (by rfl) ?_ ?_
        · intro W
          go_simp
          try (with_reducible rfl)
        simp only [Act.put, List.setIfInBounds_toArray, List.set_cons_zero, List.set_cons_succ]
        refine AnyP.takeT [6, 7, 8] (by rfl) (i := 3) (v := .string NM) rfl rfl (by kernel_rfl) (by kernel_rfl) (by kernel_rfl) (by kernel_rfl) (fun _ _ _ h => h) (by rfl) ?_ HY.out.2.1.drew ?_
        · intro W hW
          have n0 := hW.cell 0
          go_simp
          try (with_reducible rfl)
        simp only [Act.put, List.setIfInBounds_toArray, List.set_cons_zero, List.set_cons_succ]
        refine AnyP.takeP (i := 4) (v := .string (X ++ ⟨#[34]⟩ ++ NM)) rfl rfl (by kernel_rfl) (by kernel_rfl) (by kernel_rfl) (fun _ _ _ h => h) (by rfl) ?_ ?_
        · intro W
          have g1 : X.size ≤ 9223372036854775807 := by omega
          have g2 : X.size ≤ 9223372036854775806 := by omega
          have g3 : X.size ≤ 9223372036854775805 := by omega
          have g4 : X.size ≤ 9223372036854775803 := by omega
          have g5 : X.size + 1 ≤ 9223372036854775807 := by omega
          have g6 : X.size + 1 ≤ 9223372036854775806 := by omega
          have g7 : X.size + 1 ≤ 9223372036854775805 := by omega
          have g8 : X.size + 1 ≤ 9223372036854775803 := by omega
          have g9 : X.size + 1 + NM.size ≤ 9223372036854775807 := by omega
          have g10 : X.size + 1 + NM.size ≤ 9223372036854775806 := by omega
          have g11 : X.size + 1 + NM.size ≤ 9223372036854775805 := by omega
          have g12 : X.size + 1 + NM.size ≤ 9223372036854775803 := by omega
          have g13 : X.size + 1 + NM.size + 4 ≤ 9223372036854775807 := by omega
          have g14 : X.size + 1 + NM.size + 4 ≤ 9223372036854775806 := by omega
          have g15 : X.size + 1 + NM.size + 4 ≤ 9223372036854775805 := by omega
          have g16 : X.size + 1 + NM.size + 4 ≤ 9223372036854775803 := by omega
          go_simp
          try (with_reducible rfl)
        simp only [Act.put, List.setIfInBounds_toArray, List.set_cons_zero, List.set_cons_succ]
        refine AnyP.takeP (i := 5) (v := .string (X ++ ⟨#[34]⟩ ++ NM ++ ⟨#[34, 32, 58, 32]⟩)) rfl rfl (by kernel_rfl) (by kernel_rfl) (by kernel_rfl) (fun _ _ _ h => h) (by rfl) ?_ ?_
        · intro W
          have g1 : X.size ≤ 9223372036854775807 := by omega
          have g2 : X.size ≤ 9223372036854775806 := by omega
          have g3 : X.size ≤ 9223372036854775805 := by omega
          have g4 : X.size ≤ 9223372036854775803 := by omega
          have g5 : X.size + 1 ≤ 9223372036854775807 := by omega
          have g6 : X.size + 1 ≤ 9223372036854775806 := by omega
          have g7 : X.size + 1 ≤ 9223372036854775805 := by omega
          have g8 : X.size + 1 ≤ 9223372036854775803 := by omega
          have g9 : X.size + 1 + NM.size ≤ 9223372036854775807 := by omega
          have g10 : X.size + 1 + NM.size ≤ 9223372036854775806 := by omega
          have g11 : X.size + 1 + NM.size ≤ 9223372036854775805 := by omega
          have g12 : X.size + 1 + NM.size ≤ 9223372036854775803 := by omega
          have g13 : X.size + 1 + NM.size + 4 ≤ 9223372036854775807 := by omega
          have g14 : X.size + 1 + NM.size + 4 ≤ 9223372036854775806 := by omega
          have g15 : X.size + 1 + NM.size + 4 ≤ 9223372036854775805 := by omega
          have g16 : X.size + 1 + NM.size + 4 ≤ 9223372036854775803 := by omega
          go_simp
          try (with_reducible rfl)
        simp only [Act.put, List.setIfInBounds_toArray, List.set_cons_zero, List.set_cons_succ]
        refine AnyP.takeP (i := 6) (v := .pointer (some ⟨N, 1, none⟩)) rfl rfl (by kernel_rfl) (by kernel_rfl) (by kernel_rfl) (fun _ _ _ h => h) (by rfl) ?_ ?_
        · intro W
          go_simp
          try (with_reducible rfl)
        simp only [Act.put, List.setIfInBounds_toArray, List.set_cons_zero, List.set_cons_succ]
        refine AnyP.takeT [] (by rfl) (i := 7) (v := .agg #[.int .i64 q0, .int .i64 q1, .string q2, .slice q3 q4 q5, .slice q6 q7 q8]) rfl rfl (by kernel_rfl) (by kernel_rfl) (by kernel_rfl) (by kernel_rfl) (fun _ _ _ h => h) (by rfl) ?_ HY.out.2.1.drew ?_
        · intro W hW
          have n1 := hW.cell 1
          have n2 := hW.cell 2
          have n3 := hW.cell 3
          have n4 := hW.cell 4
          have n5 := hW.cell 5
          go_simp
          try (with_reducible rfl)
        simp only [Act.put, List.setIfInBounds_toArray, List.set_cons_zero, List.set_cons_succ]
        refine AnyP.oneL (i := 8) (by kernel_rfl) rfl (fun K hK => ?_)
        go_simp
        refine (show Calls _ _ _ _ _ from HY.out.1).mono ?_
        rintro e w5 ⟨rfl, hb5⟩
        refine hK.out _ _ (fun _ h => h.below hb5) ?_
        clear hK K
        (try simp only [Act.put, List.setIfInBounds_toArray, List.set_cons_zero, List.set_cons_succ])
        obtain ⟨K, hK⟩ : ∃ K, BA (printV f.2) = K := ⟨_, rfl⟩
        have hks2 : K.size ≤ 620 := by rw [← hK, ba_size]; exact hks
        rw [hK]
        have g6 : ¬ 9223372036854775807 < X.size + 1 + NM.size + 4 + K.size := by omega
        have HF := Lib.hid (And.intro hK (HY.out.2.2.2.2.1.trans (hb5.mono HY.out.2.2.2.2.1.size)))
        clear hK hb5 hks
        refine AnyP.oneL (i := 9) (by kernel_rfl) rfl (fun K hK => ?_)
        go_simp
        refine hK.out _ _ (fun _ h => h) ?_
        clear hK K
        (try simp only [Act.put, List.setIfInBounds_toArray, List.set_cons_zero, List.set_cons_succ])
        refine AnyP.oneL (i := 10) (by kernel_rfl) rfl (fun K hK => ?_)
        go_simp
        refine hK.out _ _ (fun h => by cases h) ?_
        clear hK K
        (try simp only [Act.put, List.setIfInBounds_toArray, List.set_cons_zero, List.set_cons_succ])
        refine AnyP.done (by kernel_rfl) ?_
        go_wp2
        go_roundg (gk - 1)
        case rel =>
          have heq : X ++ ⟨#[34]⟩ ++ NM ++ ⟨#[34, 32, 58, 32]⟩ ++ K = BA (namesT (M.take (i + 1))) := by
            rw [HY.out.2.2.2.1, if_neg hi0, HI.out.1, ← HY.out.2.2.1, ← HF.out.1, show (⟨#[34]⟩ : ByteArray) = BA [34] from rfl, show (⟨#[34, 32, 58, 32]⟩ : ByteArray) = BA [34, 32, 58, 32] from rfl]
            unfold nameT
            rw [show i = 0 by omega, List.take_zero, namesT]; simp only [ba_add, List.append_assoc, List.cons_append, List.nil_append]
          exact ⟨i + 1, _, by omega, rfl, rfl, by rw [heq, ba_size]; exact H2.out.2.2.2.2.2.2.2.2 (i + 1), Lib.hid ⟨heq, HF.out.2⟩⟩
        case measure => omega
    · have hiz : ¬ (i : Int) < (n : Int) := by omega
      have hie : i = n := by omega
      subst hie
      have hX := HI.out.1
      rw [List.take_of_length_le (by rw [H2.out.2.2.2.2.2.2.2.1]; exact Nat.le_refl _)] at hX
      have hdoc := H2.out.2.2.2.2.2.1
      have hpar := names_parse true hdoc
      rw [H2.out.2.2.2.2.2.2.1] at hpar
      have HX := Lib.hid (And.intro hX hpar)
      have hbw := H2.out.2.2.2.2.1.trans (HI.out.2.mono H2.out.2.2.2.2.1.size)
      clear hX hpar hpp
      go_wp2_with fail
      refine Calls.mono (parse_ok HX.out.2 _ (by rw [HX.out.1, show (⟨#[123]⟩ : ByteArray) = BA [123] from rfl, show (⟨#[125]⟩ : ByteArray) = BA [125] from rfl, ba_add, ba_add]; rfl) wr (H.out.2.2.1.below hbw)) ?_
      rintro e w4 ⟨r0, r1, r2, r3, r4, r5, r6, r7, r8, rfl, hy, hb4⟩
      obtain ⟨W4, hW4⟩ : ∃ W, w4.alloc (.cells #[.int .i64 r0, .int .i64 r1, .string r2, .slice r3 r4 r5, .slice r6 r7 r8] 28) = W := ⟨_, rfl⟩
      have hb4a : Below w4.heap.size w4 W4 := by rw [← hW4]; exact (Below.refl _ w4).alloc (Nat.le_refl _) _
      have hbr := hb4.trans (hb4a.mono hb4.size)
      have hb24 := HI.out.2.trans (hbr.mono HI.out.2.size)
      have hbw4 := hbw.trans (hbr.mono hbw.size)
      have hq4 : Blk (w4.alloc (.cells #[.int .i64 r0, .int .i64 r1, .string r2, .slice r3 r4 r5, .slice r6 r7 r8] 28)) P 28 [.int .i64 5, .int .i64 0, .string ⟨#[]⟩, .slice none 0 0, .slice p i cap] := by rw [hW4]; exact H2.out.2.2.2.1.below hb24
      have H4 := Lib.hid (And.intro hW4 (And.intro (hy.later hb4a) (And.intro (H2.out.2.2.1.later hb24) (And.intro hbw4 (And.intro (H2.out.2.2.2.1.below hb24) hb24)))))
      have p0 := hq4.cell 0
      have p1 := hq4.cell 1
      have p2 := hq4.cell 2
      have p3 := hq4.cell 3
      have p4 := hq4.cell 4
      clear hb4 hb4a hbr hb24 hbw4 hq4 hW4 hy hbw
      go_wp2_with fail
      (try rw [H4.out.1])
      clear p0 p1 p2 p3 p4
      refine (show Calls _ _ _ _ _ from vsame_any (.obj m) (.obj m) _ _ _ _ _ H4.out.2.1 H4.out.2.2.1).mono ?_
      rintro e w5 ⟨rfl, hb5⟩
      rw [same_refl]
      have H5 := Lib.hid (And.intro (H4.out.2.2.2.2.1.below hb5) (And.intro (H4.out.2.2.2.1.trans (hb5.mono H4.out.2.2.2.1.size)) (H4.out.2.2.2.2.2.trans (hb5.mono H4.out.2.2.2.2.2.size))))
      clear hb5
      have s4 := H5.out.1.cell 4
      by_cases hi0 : i = 0
      · have hz0 : (i : Int) = 0 := by omega
        go_wp2
        go_ret
        exact ⟨by first | rfl | simp, H5.out.2.1⟩
      · have hz0 : ¬ (i : Int) = 0 := by omega
        have hz1 : ((i : Int) == 0) = false := beq_eq_false_iff_ne.2 hz0
        have hz2 : (0 : Int) < (i : Int) := by omega
        obtain ⟨b, hpe, hrb⟩ := HV.out.2.1 (by rw [HV.out.2.2.1]; omega)
        subst hpe
        obtain ⟨f, fl, hm⟩ : ∃ f l, m = f :: l := by
          cases m with
          | nil => exact absurd HV.out.2.2.1.symm hi0
          | cons f l => exact ⟨f, l, rfl⟩
        have hg := HV.out.1.get 0 (by rw [hm]; exact Nat.zero_lt_succ _)
        obtain ⟨d0, d1, d2, d3, d4, hxx, e5, e0, e1, e2, e3, e4⟩ := hg
        have hf0 : ∀ h, (m[0]'h) = f := fun h => by simp [hm]
        rw [hf0] at e5
        have hfs := hdoc.size f (by rw [hm]; exact List.mem_cons_self ..)
        have hns : f.1.length ≤ 620 := by unfold nameT at hfs; simp only [List.length_cons, List.length_append] at hfs; omega
        obtain ⟨NM, hNM⟩ : ∃ N, BA f.1 = N := ⟨_, rfl⟩
        have hns2 : NM.size ≤ 620 := by rw [← hNM, ba_size]; exact hns
        rw [hNM] at e5
        have htw := names_twice true hdoc hm
        rw [H2.out.2.2.2.2.2.2.1] at htw
        have e5b : cs[0]? = some (.string NM) := by simpa using e5
        have c0 := bcell H5.out.2.2 (bcell HV.out.2.2.2 (hrb 0 _ e5b))
        have HT := Lib.hid (And.intro htw hNM)
        clear hxx e5 e0 e1 e2 e3 e4 hf0 hfs hns hNM htw hrb e5b hm hdoc
        go_wp2_with fail
        refine Calls.mono (parse_err (k := 5) HT.out.1 _ (by rw [HX.out.1, ← HT.out.2, show (⟨#[123]⟩ : ByteArray) = BA [123] from rfl, show (⟨#[44, 34]⟩ : ByteArray) = BA [44, 34] from rfl, show (⟨#[34, 58, 48, 125]⟩ : ByteArray) = BA [34, 58, 48, 125] from rfl]; simp only [ba_add, List.append_assoc, List.cons_append, List.nil_append]) w5 (H.out.2.2.1.below H5.out.2.1)) ?_
        rintro e v6 ⟨t6, u6, rfl, hc6, hb6⟩
        obtain ⟨W6, hW6⟩ : ∃ W, v6.alloc (.cells #[.int .i64 0, .int .i64 0, .string ⟨#[]⟩, .slice none 0 0, .slice none 0 0] 28) = W := ⟨_, rfl⟩
        have hb6a : Below v6.heap.size v6 W6 := by rw [← hW6]; exact (Below.refl _ v6).alloc (Nat.le_refl _) _
        have H6 := Lib.hid (And.intro hW6 (And.intro (H5.out.2.1.trans ((hb6.trans (hb6a.mono hb6.size)).mono H5.out.2.1.size)) (hc6.below hb6a)))
        clear hb6 hb6a hW6 hc6
        go_wp2_with fail
        rw [H6.out.1]
        refine (show Calls _ _ _ _ _ from code_chain 1 _ 5 W6 H6.out.2.2 (H.out.2.2.1.below H6.out.2.1).1.errt).mono ?_
        rintro e w7 ⟨rfl, hb7⟩
        have HF := Lib.hid (H6.out.2.1.trans (hb7.mono H6.out.2.1.size))
        clear hb7
        go_wp2
        go_ret
        exact ⟨by first | rfl | simp, HF.out⟩

theorem jnames_law (nb : Nat) (w : World) (sv : Value) (nm0 : ByteArray) (t : Bool) (l : BL) (hnb : nb ≤ w.heap.size) (h : BRead nb w sv l) (hJ : JW w) :
    Calls Tryz.prog 8 #[sv, .string nm0, .bool t] w fun e w' => e = .returned (.bool true) ∧ Below w.heap.size w w' := by
  cases t with
  | false => exact jnames_false nb w sv nm0 l hnb h hJ
  | true => exact jnames_true nb w sv nm0 l hnb h hJ
end Go.Proofs.YtccnfnoonpfdfaaGreatDoor
