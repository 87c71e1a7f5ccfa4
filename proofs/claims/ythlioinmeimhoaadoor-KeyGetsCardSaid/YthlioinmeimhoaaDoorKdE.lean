/- The program's own comparing of values: any two. -/
import Derived.Test.YthlioinmeimhoaaDoorKdB
import Derived.Test.YthlioinmeimhoaaDoorKdD
import Derived.Test.YthlioinmeimhoaaDoorKdP
namespace Go.Proofs.YthlioinmeimhoaaDoor
open Go.Shelf Go.RowKit Go.Lib

set_option maxHeartbeats 4000000 in
set_option maxRecDepth 100000 in
theorem vc_diff (k1 k2 n1 n2 : Int) (s1 s2 : ByteArray) (p1 q1 p2 q2 : Option Addr) (l1 l2 m1 m2 c1 c2 d1 d2 : Nat) (hk : k1 < k2 ∨ k2 < k1) (w : World) :
    CmpC 45 w (icmp k1 k2) [.int .i64 k1, .int .i64 n1, .string s1, .slice p1 l1 c1, .slice q1 m1 d1] [.int .i64 k2, .int .i64 n2, .string s2, .slice p2 l2 c2, .slice q2 m2 d2] := by
  unfold CmpC
  have hne1 : (k1 == k2) = false := by simp; omega
  have hne2 : (k1 != k2) = true := by simp; omega
  have hne3 : ¬ k1 = k2 := by omega
  clear hk
  go_enter Tryd.func45, Tryd.ntmps45
  go_wp2_with fail
  refine (ccmp_kind _ _ _).mono ?_
  rintro e w2 ⟨rfl, rfl⟩
  go_wp2
  go_ret
  exact ⟨rfl, ((Below.refl _ w).alloc (Nat.le_refl _) _).alloc (by simp; try omega) _⟩

set_option maxHeartbeats 4000000 in
set_option maxRecDepth 100000 in
theorem vc_null (w : World) : CmpC 45 w .eq [.int .i64 0, .int .i64 0, .string ⟨#[]⟩, .slice none 0 0, .slice none 0 0] [.int .i64 0, .int .i64 0, .string ⟨#[]⟩, .slice none 0 0, .slice none 0 0] := by
  unfold CmpC
  go_enter Tryd.func45, Tryd.ntmps45
  go_wp2_with fail
  go_ret
  exact ⟨rfl, ((Below.refl _ w).alloc (Nat.le_refl _) _).alloc (by simp; try omega) _⟩

set_option maxHeartbeats 4000000 in
set_option maxRecDepth 100000 in
theorem vc_num (k n m : Int) (hk : k = 1 ∨ k = 2) (w : World) : CmpC 45 w (icmp n m) [.int .i64 k, .int .i64 n, .string ⟨#[]⟩, .slice none 0 0, .slice none 0 0] [.int .i64 k, .int .i64 m, .string ⟨#[]⟩, .slice none 0 0, .slice none 0 0] := by
  unfold CmpC
  rcases hk with rfl | rfl <;> (
    go_enter Tryd.func45, Tryd.ntmps45
    go_wp2_with fail
    refine (ccmp_num _ _ _).mono ?_
    rintro e w2 ⟨rfl, rfl⟩
    go_wp2
    go_ret
    exact ⟨rfl, ((Below.refl _ w).alloc (Nat.le_refl _) _).alloc (by simp; try omega) _⟩)

set_option maxHeartbeats 4000000 in
set_option maxRecDepth 100000 in
theorem vc_text (a b : BL) (w : World) : CmpC 45 w (lcmp a b) [.int .i64 3, .int .i64 0, .string (BA a), .slice none 0 0, .slice none 0 0] [.int .i64 3, .int .i64 0, .string (BA b), .slice none 0 0, .slice none 0 0] := by
  unfold CmpC
  have HC := Lib.hid (scmp_any a b)
  obtain ⟨A, hA⟩ : ∃ A, BA a = A := ⟨_, rfl⟩
  obtain ⟨B, hB⟩ : ∃ B, BA b = B := ⟨_, rfl⟩
  rw [hA, hB] at HC ⊢
  clear hA hB
  go_enter Tryd.func45, Tryd.ntmps45
  go_wp2_with fail
  refine (HC.out _).mono ?_
  rintro e w2 ⟨rfl, rfl⟩
  go_wp2
  go_ret
  exact ⟨rfl, ((Below.refl _ w).alloc (Nat.le_refl _) _).alloc (by simp; try omega) _⟩

set_option maxHeartbeats 4000000 in
set_option maxRecDepth 100000 in
theorem vc_list (r : Ordering) (p q : Option Addr) (l m c d : Nat) (w : World)
    (hc : ∀ W, Below w.heap.size w W → Calls Tryd.prog 70 #[.slice p l c, .slice q m d, .func (.func 45) #[] #[]] W fun e w' => e = .returned (.int .i64 (sgnO r)) ∧ Below W.heap.size W w') :
    CmpC 45 w r [.int .i64 4, .int .i64 0, .string ⟨#[]⟩, .slice p l c, .slice none 0 0] [.int .i64 4, .int .i64 0, .string ⟨#[]⟩, .slice q m d, .slice none 0 0] := by
  unfold CmpC
  have HC := Lib.hid hc
  clear hc
  obtain ⟨W0, hW0⟩ : ∃ W0, (w.alloc (.cells #[.int .i64 4, .int .i64 0, .string ⟨#[]⟩, .slice p l c, .slice none 0 0] 28)).alloc (.cells #[.int .i64 4, .int .i64 0, .string ⟨#[]⟩, .slice q m d, .slice none 0 0] 28) = W0 := ⟨_, rfl⟩
  have H0 := Lib.hid (And.intro hW0 (show Below w.heap.size w W0 by rw [← hW0]; exact ((Below.refl _ w).alloc (Nat.le_refl _) _).alloc (by simp; try omega) _))
  clear hW0
  go_enter Tryd.func45, Tryd.ntmps45
  go_wp2_with fail
  rw [H0.out.1]
  refine (HC.out _ H0.out.2).mono ?_
  rintro e w2 ⟨rfl, hb2⟩
  have H2 := Lib.hid (H0.out.2.trans (hb2.mono H0.out.2.size))
  clear hb2
  go_wp2
  go_ret
  exact ⟨rfl, H2.out⟩
set_option maxHeartbeats 4000000 in
set_option maxRecDepth 100000 in
theorem vc_obj (r : Ordering) (p q : Option Addr) (l m c d : Nat) (w : World)
    (hc : ∀ W, Below w.heap.size w W → Calls Tryd.prog 71 #[.slice p l c, .slice q m d, .func (.func 72) #[] #[]] W fun e w' => e = .returned (.int .i64 (sgnO r)) ∧ Below W.heap.size W w') :
    CmpC 45 w r [.int .i64 5, .int .i64 0, .string ⟨#[]⟩, .slice none 0 0, .slice p l c] [.int .i64 5, .int .i64 0, .string ⟨#[]⟩, .slice none 0 0, .slice q m d] := by
  unfold CmpC
  have HC := Lib.hid hc
  clear hc
  obtain ⟨W0, hW0⟩ : ∃ W0, (w.alloc (.cells #[.int .i64 5, .int .i64 0, .string ⟨#[]⟩, .slice none 0 0, .slice p l c] 28)).alloc (.cells #[.int .i64 5, .int .i64 0, .string ⟨#[]⟩, .slice none 0 0, .slice q m d] 28) = W0 := ⟨_, rfl⟩
  have H0 := Lib.hid (And.intro hW0 (show Below w.heap.size w W0 by rw [← hW0]; exact ((Below.refl _ w).alloc (Nat.le_refl _) _).alloc (by simp; try omega) _))
  clear hW0
  go_enter Tryd.func45, Tryd.ntmps45
  go_wp2_with fail
  rw [H0.out.1]
  refine (HC.out _ H0.out.2).mono ?_
  rintro e w2 ⟨rfl, hb2⟩
  have H2 := Lib.hid (H0.out.2.trans (hb2.mono H0.out.2.size))
  clear hb2
  go_wp2
  go_ret
  exact ⟨rfl, H2.out⟩
theorem vc_kinds (x y : V) (S T : Nat → Prop) (w : World) (c d : List Value) (hx : VAt S w x c) (hy : VAt T w y d) (h : kindV x ≠ kindV y) : CmpC 45 w (cmpO x y) c d := by
  obtain ⟨n, s, p1, l1, c1, p2, l2, c2, rfl⟩ := hx.kind
  obtain ⟨n', s', p1', l1', c1', p2', l2', c2', rfl⟩ := hy.kind
  rw [cmpO_kind x y h]
  exact vc_diff _ _ _ _ _ _ _ _ _ _ _ _ _ _ _ _ _ _ (by omega) w
theorem row_form {S : Nat → Prop} {w : World} {sl : Value} {n : Nat} {cs : List Value} (h : RowAt S w sl n cs) : ∃ p cap, sl = .slice p n cap ∧ (0 < n → ∃ b, p = some ⟨b, 0, none⟩ ∧ ∀ k u, cs[k]? = some u → w.cell? ⟨b, k, none⟩ = some u) := by
  rcases h.2 with ⟨h0, rfl⟩ | ⟨b, cap, rfl, _, hc⟩
  · exact ⟨none, 0, by rw [h0], fun h => by omega⟩
  · exact ⟨_, _, rfl, fun _ => ⟨b, rfl, hc⟩⟩
/-- value.Cmp tells how any two values stand. -/
theorem vcmp_any (x : V) : CmpH 45 x := by
  refine V_kids ?_ ?_ ?_ ?_ ?_ ?_ x
  · intro l ih y S T w c d hx hy
    by_cases hk : kindV (V.list l) = kindV y
    · cases y with
      | list m =>
        cases hx with
        | list l cs sl hV hr => cases hy with
          | list m ds sm hU hs =>
            rw [show cmpO (V.list l) (V.list m) = cmpsO l m by rw [cmpO]]
            obtain ⟨p, cap, rfl, hp⟩ := row_form hr
            obtain ⟨q, cad, rfl, hq⟩ := row_form hs
            refine vc_list _ _ _ _ _ _ _ w fun W hb => ?_
            exact cf_list l m cs ds p q cap cad S T W (hV.later hb) (fun h => by obtain ⟨b, e, h2⟩ := hp h; exact ⟨b, e, fun k u hu => bcell hb (h2 k u hu)⟩) (hU.later hb) (fun h => by obtain ⟨b, e, h2⟩ := hq h; exact ⟨b, e, fun k u hu => bcell hb (h2 k u hu)⟩) hr.1 hs.1 ih
      | _ => simp [kindV] at hk
    · exact vc_kinds _ _ S T w c d hx hy hk
  · intro l ih y S T w c d hx hy
    by_cases hk : kindV (V.obj l) = kindV y
    · cases y with
      | obj m =>
        cases hx with
        | obj l cs sl hV hr => cases hy with
          | obj m ds sm hU hs =>
            rw [show cmpO (V.obj l) (V.obj m) = cmpfsO l m by rw [cmpO]]
            obtain ⟨p, cap, rfl, hp⟩ := row_form hr
            obtain ⟨q, cad, rfl, hq⟩ := row_form hs
            refine vc_obj _ _ _ _ _ _ _ w fun W hb => ?_
            exact cf_obj l m cs ds p q cap cad S T W (hV.later hb) (fun h => by obtain ⟨b, e, h2⟩ := hp h; exact ⟨b, e, fun k u hu => bcell hb (h2 k u hu)⟩) (hU.later hb) (fun h => by obtain ⟨b, e, h2⟩ := hq h; exact ⟨b, e, fun k u hu => bcell hb (h2 k u hu)⟩) hr.1 hs.1 ih
      | _ => simp [kindV] at hk
    · exact vc_kinds _ _ S T w c d hx hy hk
  · intro y S T w c d hx hy
    by_cases hk : kindV V.null = kindV y
    · cases y with
      | null => cases hx; cases hy; rw [show cmpO V.null V.null = .eq by rw [cmpO]]; exact vc_null w
      | _ => simp [kindV] at hk
    · exact vc_kinds _ _ S T w c d hx hy hk
  · intro n y S T w c d hx hy
    by_cases hk : kindV (V.bool n) = kindV y
    · cases y with
      | bool m => cases hx; cases hy; rw [show cmpO (V.bool n) (V.bool m) = icmp n m by rw [cmpO]]; exact vc_num 1 n m (.inl rfl) w
      | _ => simp [kindV] at hk
    · exact vc_kinds _ _ S T w c d hx hy hk
  · intro n y S T w c d hx hy
    by_cases hk : kindV (V.int n) = kindV y
    · cases y with
      | int m => cases hx; cases hy; rw [show cmpO (V.int n) (V.int m) = icmp n m by rw [cmpO]]; exact vc_num 2 n m (.inr rfl) w
      | _ => simp [kindV] at hk
    · exact vc_kinds _ _ S T w c d hx hy hk
  · intro s y S T w c d hx hy
    by_cases hk : kindV (V.text s) = kindV y
    · cases y with
      | text t => cases hx; cases hy; rw [show cmpO (V.text s) (V.text t) = lcmp s t by rw [cmpO]]; exact vc_text s t w
      | _ => simp [kindV] at hk
    · exact vc_kinds _ _ S T w c d hx hy hk

set_option maxHeartbeats 4000000 in
set_option maxRecDepth 100000 in
/-- value.Same tells whether two values do not differ. -/
theorem vsame_any (x y : V) (S T : Nat → Prop) (w : World) (c d : List Value) (hx : VAt S w x c) (hy : VAt T w y d) :
    Calls Tryd.prog 22 #[.agg c.toArray, .agg d.toArray] w fun e w' => e = .returned (.bool (cmpO x y == .eq)) ∧ Below w.heap.size w w' := by
  rw [← sgn_eq0]
  obtain ⟨q0, q1, q2, q3, q4, q5, q6, q7, q8, rfl⟩ := hx.shape
  obtain ⟨r0, r1, r2, r3, r4, r5, r6, r7, r8, rfl⟩ := hy.shape
  obtain ⟨W0, hW0⟩ : ∃ W0, (w.alloc (.cells #[.int .i64 q0, .int .i64 q1, .string q2, .slice q3 q4 q5, .slice q6 q7 q8] 28)).alloc (.cells #[.int .i64 r0, .int .i64 r1, .string r2, .slice r3 r4 r5, .slice r6 r7 r8] 28) = W0 := ⟨_, rfl⟩
  have hb0 : Below w.heap.size w W0 := by rw [← hW0]; exact ((Below.refl _ w).alloc (Nat.le_refl _) _).alloc (by simp; try omega) _
  have hC := vcmp_any x y S T W0 _ _ (hx.later hb0) (hy.later hb0)
  unfold CmpC at hC
  obtain ⟨z, hz⟩ : ∃ z, sgnO (cmpO x y) = z := ⟨_, rfl⟩
  rw [hz] at hC ⊢
  have H0 := Lib.hid (And.intro hW0 (And.intro hb0 hC))
  clear hW0 hb0 hC hx hy hz
  go_enter Tryd.func22, Tryd.ntmps22
  go_wp2_with fail
  rw [H0.out.1]
  refine (show Calls _ _ _ _ _ from H0.out.2.2).mono ?_
  rintro e w2 ⟨rfl, hb2⟩
  have H2 := Lib.hid (H0.out.2.1.trans (hb2.mono H0.out.2.1.size))
  clear hb2
  go_wp2
  go_ret
  exact ⟨rfl, H2.out⟩
end Go.Proofs.YthlioinmeimhoaaDoor
