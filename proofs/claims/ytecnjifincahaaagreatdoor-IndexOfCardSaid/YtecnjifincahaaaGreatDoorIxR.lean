/- IndexKeys. -/
import Derived.Test.YtecnjifincahaaaGreatDoorIxQ
namespace Go.Proofs.YtecnjifincahaaaGreatDoor
open Go.Shelf Go.RowKit Go.Lib

def optB : Option V → ByteArray
  | some x => BA (keyL x)
  | none => ⟨#[]⟩
theorem optK_eq (r : Option V) : OptK r = .tuple #[.string (optB r), .bool r.isSome] := by cases r <;> rfl

set_option maxHeartbeats 8000000 in
set_option maxRecDepth 100000 in
theorem indexKeys_law (n : Nat) (hn : n < 256) (u : Bool) (nb : Nat) (w : World) (sv : Value) (l : BL) (hnb : nb ≤ w.heap.size) (h : BRead nb w sv l) (hI : IxW w) :
    Calls Tryz.prog 4 #[.int .u8 n, .bool u, sv] w fun e w' => e = .returned (.bool true) ∧ Below w.heap.size w w' := by
  have hspec := fun W => spec_any n hn u W
  obtain ⟨m, hm⟩ : ∃ m, n % 5 = m := ⟨_, rfl⟩
  obtain ⟨k, hk⟩ : ∃ m, n % 10 = m := ⟨_, rfl⟩
  have hm5 : m < 5 := by omega
  have hk10 : k < 10 := by omega
  rw [hm, hk] at hspec
  have hgood := good_spec k hk10
  have hlen : (105 :: dig k).length ≤ 1000000 := by simp [dig]
  obtain ⟨L, hL⟩ : ∃ L, 105 :: dig k = L := ⟨_, rfl⟩
  rw [hL] at hspec hgood hlen
  obtain ⟨sa, sc, c2, c3⟩ : ∃ a b, sv = .slice a l.length b ∧ True := by
    obtain ⟨_, a, cap, rfl, _⟩ := h
    exact ⟨a, cap, rfl, trivial⟩
  have H0 := Lib.hid (And.intro hspec (And.intro hgood (And.intro hlen (And.intro hm5 (And.intro hnb (And.intro h hI))))))
  subst c2
  obtain ⟨NM, hNM⟩ : ∃ N, BA L = N := ⟨_, rfl⟩
  have HN := Lib.hid hNM
  clear hspec hgood hlen hnb h hI hm hk hL hk10 hm5 hn c3
  go_enter Tryz.func4, Tryz.ntmps4
  go_wp2_with fail
  refine (ixawake_any w H0.out.2.2.2.2.2.2).mono ?_
  rintro e w1 ⟨rfl, hb1⟩
  have H1 := Lib.hid hb1
  clear hb1
  go_wp2_with fail
  refine (H0.out.1 w1).mono ?_
  rintro e w2 ⟨rfl, hb2⟩
  rw [hNM]
  obtain ⟨PT, hPT⟩ : ∃ P, BA (pathS m) = P := ⟨_, rfl⟩
  rw [hPT]
  have HPT := Lib.hid hPT
  have H2 := Lib.hid (H1.out.trans (hb2.mono H1.out.size))
  clear hb2 hPT
  go_wp2_with fail
  obtain ⟨P0, hP0⟩ : ∃ P, w2.heap.size = P := ⟨_, rfl⟩
  obtain ⟨W3, hW3⟩ : ∃ W, w2.alloc (.cells #[.string NM, .string PT, .bool u] 23) = W := ⟨_, rfl⟩
  have hb3 : Below w2.heap.size w2 W3 := by rw [← hW3]; exact (Below.refl _ w2).alloc (Nat.le_refl _) _
  have hk0 : Blk W3 P0 23 [.string NM, .string PT, .bool u] := by rw [← hW3, ← hP0]; exact heap_alloc_new w2 _
  have hbw := H2.out.trans (hb3.mono H2.out.size)
  have H3 := Lib.hid (And.intro hbw hk0)
  rw [hW3, hP0]
  clear hb3 hk0 hbw hW3 hP0
  refine (show Calls _ _ _ _ _ from of_any nb W3 _ l (Nat.le_trans H0.out.2.2.2.2.1 H3.out.1.size) (H0.out.2.2.2.2.2.1.later (H3.out.1.mono H0.out.2.2.2.2.1)) (H0.out.2.2.2.2.2.2.words.later H3.out.1)).mono ?_
  rintro e w4 ⟨c, rfl, hv, hb4⟩
  have hv0 : VAt (fun b => b < w4.heap.size) w4 (ofL l) c := VAt.keep (fun b hb => hb.2) (fun _ _ _ _ h => h) hv
  obtain ⟨q0, q1, q2, q3, q4, q5, q6, q7, q8, rfl⟩ := hv0.shape
  have H4 := Lib.hid (And.intro (H3.out.1.trans (hb4.mono H3.out.1.size)) (And.intro (H3.out.2.below hb4) hv0))
  clear hb4 hv hv0
  have c0 := (H4.out.2.1.alloc (.cells #[.int .i64 q0, .int .i64 q1, .string q2, .slice q3 q4 q5, .slice q6 q7 q8] 40)).cell 0
  have c1 := (H4.out.2.1.alloc (.cells #[.int .i64 q0, .int .i64 q1, .string q2, .slice q3 q4 q5, .slice q6 q7 q8] 40)).cell 1
  have c2 := (H4.out.2.1.alloc (.cells #[.int .i64 q0, .int .i64 q1, .string q2, .slice q3 q4 q5, .slice q6 q7 q8] 40)).cell 2
  go_wp2_with fail
  obtain ⟨P1, hP1⟩ : ∃ P, w4.heap.size = P := ⟨_, rfl⟩
  obtain ⟨W5, hW5⟩ : ∃ W, w4.alloc (.cells #[.int .i64 q0, .int .i64 q1, .string q2, .slice q3 q4 q5, .slice q6 q7 q8] 40) = W := ⟨_, rfl⟩
  have hb5 : Below w4.heap.size w4 W5 := by rw [← hW5]; exact (Below.refl _ w4).alloc (Nat.le_refl _) _
  have hk1 : Blk W5 P1 40 [.int .i64 q0, .int .i64 q1, .string q2, .slice q3 q4 q5, .slice q6 q7 q8] := by rw [← hW5, ← hP1]; exact heap_alloc_new w4 _
  have hbw := H4.out.1.trans (hb5.mono H4.out.1.size)
  have hvv : VAt (fun b => b < P1) W5 (ofL l) [.int .i64 q0, .int .i64 q1, .string q2, .slice q3 q4 q5, .slice q6 q7 q8] := by rw [← hP1]; exact H4.out.2.2.later hb5
  have H5 := Lib.hid (And.intro hbw (And.intro (H4.out.2.1.below hb5) (And.intro hk1 hvv)))
  have HIw := Lib.hid (H0.out.2.2.2.2.2.2.below hbw)
  have hcall := ikey_any NM u (pathS m) (partS m) (path_five m H0.out.2.2.2.1) (ofL l) (small_of l) (fun b => b < P1) W5 _ hvv (fun b hb => Nat.lt_trans hb hk1.lt) HIw.out.errv HIw.out.tabs HIw.out.ml (fun x hx => Nat.le_trans (find_key hx) (Nat.le_trans (keyL_of l) (by omega)))
  rw [optK_eq, HPT.out] at hcall
  obtain ⟨R, hR⟩ : ∃ R, optB (findP placeK (ofL l) (partS m)) = R := ⟨_, rfl⟩
  obtain ⟨ok, hok⟩ : ∃ R, (findP placeK (ofL l) (partS m)).isSome = R := ⟨_, rfl⟩
  rw [hR, hok] at hcall
  have HR := Lib.hid (And.intro hR hok)
  have HC := Lib.hid hcall
  rw [hW5, hP1]
  clear hb5 hk1 hbw hW5 hP1 hvv hcall hR hok c0 c1 c2
  refine (show Calls _ _ _ _ _ from HC.out).mono ?_
  rintro e w6 ⟨rfl, hb6⟩
  have H6 := Lib.hid (And.intro (H5.out.1.trans (hb6.mono H5.out.1.size)) (And.intro (H5.out.2.1.below hb6) (And.intro (H5.out.2.2.1.below hb6) (H5.out.2.2.2.later hb6))))
  clear hb6
  have c0 := H6.out.2.1.cell 0
  have c1 := H6.out.2.1.cell 1
  have c2 := H6.out.2.1.cell 2
  have d0 := H6.out.2.2.1.cell 0
  have d1 := H6.out.2.2.1.cell 1
  have d2 := H6.out.2.2.1.cell 2
  have d3 := H6.out.2.2.1.cell 3
  have d4 := H6.out.2.2.1.cell 4
  go_wp2_with fail
  have hcall := lkey_any NM u m H0.out.2.2.2.1 (ofL l) (small_of l) (fun b => b < P1) w6 _ H6.out.2.2.2 (fun b hb => Nat.lt_trans hb H6.out.2.2.1.lt) (H0.out.2.2.2.2.2.2.ml.later H6.out.1) (Nat.le_trans (keyL_of l) (by omega))
  rw [optK_eq, HR.out.1, HR.out.2, HPT.out] at hcall
  have HC6 := Lib.hid hcall
  clear hcall
  refine (show Calls _ _ _ _ _ from HC6.out).mono ?_
  rintro e w7 ⟨rfl, hb7⟩
  have H7 := Lib.hid (And.intro (H6.out.1.trans (hb7.mono H6.out.1.size)) (H6.out.2.1.below hb7))
  clear hb7 c0 c1 c2 d0 d1 d2 d3 d4
  have c0 := H7.out.2.cell 0
  have c1 := H7.out.2.cell 1
  have c2 := H7.out.2.cell 2
  go_wp2_with fail
  rw [← hNM]
  refine (check_nil L PT u w7 H0.out.2.2.1 H0.out.2.1 (fun W hb => by
    have hbW := H7.out.1.trans (hb.mono H7.out.1.size)
    rw [← HPT.out]
    exact (parse_any (pathS m) (partS m) (path_five m H0.out.2.2.2.1) W (H0.out.2.2.2.2.2.2.tabs.below hbW) (H0.out.2.2.2.2.2.2.ml.later hbW)).mono fun e w' h => by
      obtain ⟨sl, h1, _, h2⟩ := h
      exact ⟨sl, h1, h2⟩)).mono ?_
  rintro e w8 ⟨rfl, hb8⟩
  have H8 := Lib.hid (H7.out.1.trans (hb8.mono H7.out.1.size))
  clear hb8 c0 c1 c2
  go_wp2
  go_ret
  exact ⟨rfl, H8.out⟩
theorem u8_nat {n : Int} (h : (Lit.int .u8 n).wf = true) : ∃ k : Nat, k < 256 ∧ n = (k : Int) := by
  have hr : 0 ≤ n ∧ n ≤ 255 := by simpa [Lit.wf, IntKind.min, IntKind.max, IntKind.signed, IntKind.bits] using h
  exact ⟨n.toNat, by omega, by omega⟩
theorem indexKeys_int (n : Int) (hn : (Lit.int .u8 n).wf = true) (u : Bool) (w : World) (sv : Value) (l : BL) (h : BRead w.heap.size w sv l) (hI : IxW w) :
    Calls Tryz.prog 4 #[.int .u8 n, .bool u, sv] w fun e w' => e = .returned (.bool true) ∧ Below w.heap.size w w' := by
  obtain ⟨k, hk, rfl⟩ := u8_nat hn
  exact indexKeys_law k hk u w.heap.size w sv l (Nat.le_refl _) h hI
end Go.Proofs.YtecnjifincahaaaGreatDoor
