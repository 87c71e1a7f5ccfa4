/- The law's Cmp: two values of one kind, or of two, that have none in them. -/
import Derived.Test.YthlioinmeimhoaaDoorKpA
namespace Go.Proofs.YthlioinmeimhoaaDoor
open Go.Shelf Go.RowKit Go.Lib

theorem blk_new2 (w : World) (o : Obj) (cs : List Value) (e : TypeId) : Blk ((w.alloc o).alloc (.cells cs.toArray e)) (w.heap.size + 1) e cs := by
  have h := heap_alloc_new (w.alloc o) (.cells cs.toArray e)
  rw [show (w.alloc o).heap.size = w.heap.size + 1 by simp] at h
  exact h
theorem ba_tl (l : BL) : (BA l).toList = l := by rw [Lib.toList_data]

set_option maxRecDepth 100000 in
theorem sign_any (a b : Int) (w : World) : Calls Tryd.prog 43 #[.int .i64 a, .int .i64 b] w fun e w' => e = .returned (.int .i64 (sgnO (icmp a b))) ∧ w = w' := by
  unfold icmp
  by_cases h1 : a < b
  · rw [if_pos h1]
    go_enter Tryd.func43, Tryd.ntmps43
    go_wp2
    go_ret
    exact ⟨rfl, rfl⟩
  · rw [if_neg h1]
    by_cases h2 : b < a
    · rw [if_pos h2]
      go_enter Tryd.func43, Tryd.ntmps43
      go_wp2
      go_ret
      exact ⟨rfl, rfl⟩
    · rw [if_neg h2]
      go_enter Tryd.func43, Tryd.ntmps43
      go_wp2
      go_ret
      exact ⟨rfl, rfl⟩

set_option maxRecDepth 100000 in
theorem texts_any (X Y : ByteArray) (w : World) : Calls Tryd.prog 19 #[.string X, .string Y] w fun e w' => e = .returned (.int .i64 (sgnO (lcmp X.toList Y.toList))) ∧ w = w' := by
  have h1 := lcmp_less X.toList Y.toList
  cases hc : lcmp X.toList Y.toList
  · have h2 : Op.bytesLess X.toList Y.toList = true := by rw [h1, hc]; rfl
    clear hc h1
    go_enter Tryd.func19, Tryd.ntmps19
    go_wp2
    go_ret
    exact ⟨rfl, rfl⟩
  · have h2 : Op.bytesLess X.toList Y.toList = false := by rw [h1, hc]; rfl
    have h3 : (X.toList == Y.toList) = true := by rw [lcmp_eq hc]; simp
    have h4 : X.toList = Y.toList := lcmp_eq hc
    clear hc h1
    go_enter Tryd.func19, Tryd.ntmps19
    rw [h4] at h2 h3
    go_wp2
    go_ret
    exact ⟨rfl, rfl⟩
  · have h2 : Op.bytesLess X.toList Y.toList = false := by rw [h1, hc]; rfl
    have h4 : ¬ X.toList = Y.toList := fun e => by rw [e, lcmp_refl] at hc; cases hc
    have h3 : (X.toList == Y.toList) = false := by simpa using h4
    clear hc h1
    go_enter Tryd.func19, Tryd.ntmps19
    go_wp2
    go_ret
    exact ⟨rfl, rfl⟩

def CmpC (f : FuncId) (w : World) (r : Ordering) (c d : List Value) : Prop := Calls Tryd.prog f #[.agg c.toArray, .agg d.toArray] w fun e w' => e = .returned (.int .i64 (sgnO r)) ∧ Below w.heap.size w w'

set_option maxHeartbeats 4000000 in
set_option maxRecDepth 100000 in
theorem lc_diff (k1 k2 n1 n2 : Int) (s1 s2 : ByteArray) (p1 q1 p2 q2 : Option Addr) (l1 l2 m1 m2 c1 c2 d1 d2 : Nat) (hk : k1 < k2 ∨ k2 < k1) (w : World) :
    CmpC 20 w (icmp k1 k2) [.int .i64 k1, .int .i64 n1, .string s1, .slice p1 l1 c1, .slice q1 m1 d1] [.int .i64 k2, .int .i64 n2, .string s2, .slice p2 l2 c2, .slice q2 m2 d2] := by
  unfold CmpC
  have hne1 : (k1 == k2) = false := by simp; omega
  have hne2 : (k1 != k2) = true := by simp; omega
  have hne3 : ¬ k1 = k2 := by omega
  clear hk
  go_enter Tryd.func20, Tryd.ntmps20
  go_wp2_with fail
  refine (sign_any _ _ _).mono ?_
  rintro e w2 ⟨rfl, rfl⟩
  go_wp2
  go_ret
  exact ⟨rfl, ((Below.refl _ w).alloc (Nat.le_refl _) _).alloc (by simp; try omega) _⟩

set_option maxHeartbeats 4000000 in
set_option maxRecDepth 100000 in
theorem lc_null (w : World) : CmpC 20 w .eq [.int .i64 0, .int .i64 0, .string ⟨#[]⟩, .slice none 0 0, .slice none 0 0] [.int .i64 0, .int .i64 0, .string ⟨#[]⟩, .slice none 0 0, .slice none 0 0] := by
  unfold CmpC
  go_enter Tryd.func20, Tryd.ntmps20
  go_wp2_with fail
  go_ret
  exact ⟨rfl, ((Below.refl _ w).alloc (Nat.le_refl _) _).alloc (by simp; try omega) _⟩

set_option maxHeartbeats 4000000 in
set_option maxRecDepth 100000 in
theorem lc_num (k n m : Int) (hk : k = 1 ∨ k = 2) (w : World) : CmpC 20 w (icmp n m) [.int .i64 k, .int .i64 n, .string ⟨#[]⟩, .slice none 0 0, .slice none 0 0] [.int .i64 k, .int .i64 m, .string ⟨#[]⟩, .slice none 0 0, .slice none 0 0] := by
  unfold CmpC
  rcases hk with rfl | rfl <;> (
    go_enter Tryd.func20, Tryd.ntmps20
    go_wp2_with fail
    refine (sign_any _ _ _).mono ?_
    rintro e w2 ⟨rfl, rfl⟩
    go_wp2
    go_ret
    exact ⟨rfl, ((Below.refl _ w).alloc (Nat.le_refl _) _).alloc (by simp; try omega) _⟩)

set_option maxHeartbeats 4000000 in
set_option maxRecDepth 100000 in
theorem lc_text (a b : BL) (w : World) : CmpC 20 w (lcmp a b) [.int .i64 3, .int .i64 0, .string (BA a), .slice none 0 0, .slice none 0 0] [.int .i64 3, .int .i64 0, .string (BA b), .slice none 0 0, .slice none 0 0] := by
  unfold CmpC
  obtain ⟨A, hA⟩ : ∃ A, BA a = A := ⟨_, rfl⟩
  obtain ⟨B, hB⟩ : ∃ B, BA b = B := ⟨_, rfl⟩
  have e : lcmp a b = lcmp A.toList B.toList := by rw [← hA, ← hB, ba_tl, ba_tl]
  rw [e, hA, hB]
  clear e hA hB
  go_enter Tryd.func20, Tryd.ntmps20
  go_wp2_with fail
  refine (texts_any _ _ _).mono ?_
  rintro e w2 ⟨rfl, rfl⟩
  go_wp2
  go_ret
  exact ⟨rfl, ((Below.refl _ w).alloc (Nat.le_refl _) _).alloc (by simp; try omega) _⟩

theorem cmps_nil (l m : List V) (h : l.length = 0 ∨ m.length = 0) : cmpsO l m = icmp l.length m.length := by
  cases l with
  | nil => cases m <;> simp [cmpsO, icmp] <;> omega
  | cons x l => cases m with
    | nil => simp [cmpsO, icmp]; omega
    | cons y m => simp at h
theorem cmpfs_nil (l m : List (BL × V)) (h : l.length = 0 ∨ m.length = 0) : cmpfsO l m = icmp l.length m.length := by
  cases l with
  | nil => cases m <;> simp [cmpfsO, icmp] <;> omega
  | cons x l => cases m with
    | nil => simp [cmpfsO, icmp]; omega
    | cons y m => simp at h

set_option maxHeartbeats 4000000 in
set_option maxRecDepth 100000 in
theorem lc_list0 (p q : Option Addr) (l m c d : Nat) (h : l = 0 ∨ m = 0) (w : World) : CmpC 20 w (icmp l m) [.int .i64 4, .int .i64 0, .string ⟨#[]⟩, .slice p l c, .slice none 0 0] [.int .i64 4, .int .i64 0, .string ⟨#[]⟩, .slice q m d, .slice none 0 0] := by
  unfold CmpC
  rcases h with rfl | rfl
  all_goals (
    go_enter Tryd.func20, Tryd.ntmps20
    go_wp2_with fail
    refine wp_loop_rounds 1 ?_
    rw [rounds_succ])
  · go_wp2_with fail
    refine (sign_any _ _ _).mono ?_
    rintro e w2 ⟨rfl, rfl⟩
    go_wp2
    go_ret
    exact ⟨rfl, ((Below.refl _ w).alloc (Nat.le_refl _) _).alloc (by simp; try omega) _⟩
  · by_cases hl : 0 < l
    all_goals (
      go_wp2_with fail
      refine (sign_any _ _ _).mono ?_
      rintro e w2 ⟨rfl, rfl⟩
      go_wp2
      go_ret
      exact ⟨rfl, ((Below.refl _ w).alloc (Nat.le_refl _) _).alloc (by simp; try omega) _⟩)
set_option maxHeartbeats 4000000 in
set_option maxRecDepth 100000 in
theorem lc_obj0 (p q : Option Addr) (l m c d : Nat) (h : l = 0 ∨ m = 0) (w : World) : CmpC 20 w (icmp l m) [.int .i64 5, .int .i64 0, .string ⟨#[]⟩, .slice none 0 0, .slice p l c] [.int .i64 5, .int .i64 0, .string ⟨#[]⟩, .slice none 0 0, .slice q m d] := by
  unfold CmpC
  rcases h with rfl | rfl
  all_goals (
    go_enter Tryd.func20, Tryd.ntmps20
    go_wp2_with fail
    refine wp_loop_rounds 1 ?_
    rw [rounds_succ])
  · go_wp2_with fail
    refine (sign_any _ _ _).mono ?_
    rintro e w2 ⟨rfl, rfl⟩
    go_wp2
    go_ret
    exact ⟨rfl, ((Below.refl _ w).alloc (Nat.le_refl _) _).alloc (by simp; try omega) _⟩
  · by_cases hl : 0 < l
    all_goals (
      go_wp2_with fail
      refine (sign_any _ _ _).mono ?_
      rintro e w2 ⟨rfl, rfl⟩
      go_wp2
      go_ret
      exact ⟨rfl, ((Below.refl _ w).alloc (Nat.le_refl _) _).alloc (by simp; try omega) _⟩)
end Go.Proofs.YthlioinmeimhoaaDoor
