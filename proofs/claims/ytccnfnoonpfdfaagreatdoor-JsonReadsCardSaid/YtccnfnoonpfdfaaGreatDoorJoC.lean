/- The law's Put (printed by wip/gen_joc.py). -/
import Derived.Test.YtccnfnoonpfdfaaGreatDoorJoB
namespace Go.Proofs.YtccnfnoonpfdfaaGreatDoor
open Go.Shelf Go.RowKit Go.Lib

theorem joinV_take : ∀ (l : List V) (i : Nat) (hi : i < l.length), joinV (l.take (i + 1)) = joinV (l.take i) ++ ((if 0 < i then [44] else []) ++ printV l[i])
  | v :: l, 0, hi => by simp [joinV, tailV]
  | v :: l, i + 1, hi => by
    have h : i < l.length := by simpa using hi
    have e : l.take (i + 1) = l.take i ++ [l[i]] := List.take_succ_eq_append_getElem h
    rw [List.take_succ_cons, List.take_succ_cons, joinV, joinV, e, tailV_append, if_pos (by omega)]
    simp [tailV]
theorem joinF_take : ∀ (l : List (BL × V)) (i : Nat) (hi : i < l.length), joinF (l.take (i + 1)) = joinF (l.take i) ++ ((if 0 < i then [44] else []) ++ printF l[i])
  | v :: l, 0, hi => by simp [joinF, tailF]
  | v :: l, i + 1, hi => by
    have h : i < l.length := by simpa using hi
    have e : l.take (i + 1) = l.take i ++ [l[i]] := List.take_succ_eq_append_getElem h
    rw [List.take_succ_cons, List.take_succ_cons, joinF, joinF, e, tailF_append, if_pos (by omega)]
    simp [tailF]
theorem joinV_take_le (l : List V) (i : Nat) : (joinV (l.take i)).length ≤ (joinV l).length := by
  cases l with
  | nil => simp
  | cons v l =>
    cases i with
    | zero => simp [joinV]
    | succ i =>
      have h : tailV l = tailV (l.take i) ++ tailV (l.drop i) := by rw [← tailV_append, List.take_append_drop]
      rw [List.take_succ_cons, joinV, joinV, h]
      simp
theorem joinF_take_le (l : List (BL × V)) (i : Nat) : (joinF (l.take i)).length ≤ (joinF l).length := by
  cases l with
  | nil => simp
  | cons v l =>
    cases i with
    | zero => simp [joinF]
    | succ i =>
      have h : tailF l = tailF (l.take i) ++ tailF (l.drop i) := by rw [← tailF_append, List.take_append_drop]
      rw [List.take_succ_cons, joinF, joinF, h]
      simp

set_option maxHeartbeats 4000000 in
set_option maxRecDepth 100000 in
theorem lput_null (w : World) : PrC 13 w .null [.int .i64 0, .int .i64 0, .string ⟨#[]⟩, .slice none 0 0, .slice none 0 0] := by
  unfold PrC
  rw [printV]
  go_enter Tryz.func13, Tryz.ntmps13
  go_wp2
  go_ret
  exact ⟨rfl, (Below.refl _ w).alloc (Nat.le_refl _) _⟩

set_option maxHeartbeats 4000000 in
set_option maxRecDepth 100000 in
theorem lput_bool1 (n : Int) (hn : n = 1) (w : World) : PrC 13 w (.bool n) [.int .i64 1, .int .i64 n, .string ⟨#[]⟩, .slice none 0 0, .slice none 0 0] := by
  unfold PrC
  rw [printV, if_pos hn]
  have hq : (n == 1) = true := by rw [hn]; rfl
  subst hn
  go_enter Tryz.func13, Tryz.ntmps13
  go_wp2
  go_ret
  exact ⟨rfl, (Below.refl _ w).alloc (Nat.le_refl _) _⟩

set_option maxHeartbeats 4000000 in
set_option maxRecDepth 100000 in
theorem lput_bool0 (n : Int) (hn : ¬ n = 1) (w : World) : PrC 13 w (.bool n) [.int .i64 1, .int .i64 n, .string ⟨#[]⟩, .slice none 0 0, .slice none 0 0] := by
  unfold PrC
  rw [printV, if_neg hn]
  have hq : (n == 1) = false := by exact beq_eq_false_iff_ne.2 hn
  go_enter Tryz.func13, Tryz.ntmps13
  go_wp2
  go_ret
  exact ⟨rfl, (Below.refl _ w).alloc (Nat.le_refl _) _⟩

set_option maxHeartbeats 4000000 in
set_option maxRecDepth 100000 in
theorem lput_int (n : Int) (hn : -9223372036854775808 ≤ n ∧ n ≤ 9223372036854775807) (w : World) : PrC 13 w (.int n) [.int .i64 2, .int .i64 n, .string ⟨#[]⟩, .slice none 0 0, .slice none 0 0] := by
  unfold PrC
  rw [printV]
  have H := Lib.hid (digits_any n hn)
  clear hn
  go_enter Tryz.func13, Tryz.ntmps13
  go_wp2_with fail
  refine (H.out _).mono ?_
  rintro e w2 ⟨rfl, rfl⟩
  go_wp2
  go_ret
  exact ⟨rfl, (Below.refl _ w).alloc (Nat.le_refl _) _⟩

set_option maxHeartbeats 4000000 in
set_option maxRecDepth 100000 in
theorem lput_text (s : BL) (hs : s.length ≤ 1099511627776) (w : World) : PrC 13 w (.text s) [.int .i64 3, .int .i64 0, .string (BA s), .slice none 0 0, .slice none 0 0] := by
  unfold PrC
  rw [printV]
  obtain ⟨W1, hW1⟩ : ∃ W, w.alloc (.cells #[.int .i64 3, .int .i64 0, .string (BA s), .slice none 0 0, .slice none 0 0] 28) = W := ⟨_, rfl⟩
  have hb1 : Below w.heap.size w W1 := by rw [← hW1]; exact (Below.refl _ w).alloc (Nat.le_refl _) _
  have hcall := put_any (BA s) W1 (by rw [ba_size]; exact hs)
  have H := Lib.hid (And.intro hW1 (And.intro hcall hb1))
  clear hW1 hcall hb1
  go_enter Tryz.func13, Tryz.ntmps13
  go_wp2_with fail
  rw [H.out.1]
  refine (show Calls _ _ _ _ _ from H.out.2.1).mono ?_
  rintro e w2 ⟨rfl, hb2⟩
  have HF := Lib.hid (H.out.2.2.trans (hb2.mono H.out.2.2.size))
  clear hb2
  go_wp2
  go_ret
  exact ⟨rfl, HF.out⟩

set_option maxHeartbeats 8000000 in
set_option maxRecDepth 100000 in
theorem lput_list (l : List V) (cs : List Value) (p : Option Addr) (cap : Nat) (S : Nat → Prop) (w : World) (hV : VsAt S w l cs) (hr : 0 < l.length → ∃ b, p = some ⟨b, 0, none⟩ ∧ ∀ k u, cs[k]? = some u → w.cell? ⟨b, k, none⟩ = some u) (hE : EG w)
    (hlen : (joinV l).length + 2 ≤ 1000000) (ih : ∀ x ∈ l, PrH 13 x) : PrC 13 w (.list l) [.int .i64 4, .int .i64 0, .string ⟨#[]⟩, .slice p l.length cap, .slice none 0 0] := by
  have hln := joinV_long l
  obtain ⟨n, hn⟩ : ∃ n, l.length = n := ⟨_, rfl⟩
  have HV := Lib.hid (And.intro hV (And.intro hr (And.intro hE (And.intro hlen (And.intro ih hn)))))
  rw [hn] at hln ⊢
  have hnn : n ≤ 1000000 := by omega
  clear hV hr hE hlen ih hln hn
  unfold PrC
  rw [printV]
  obtain ⟨W0, hW0⟩ : ∃ W, w.alloc (.cells #[.int .i64 4, .int .i64 0, .string ⟨#[]⟩, .slice p n cap, .slice none 0 0] 28) = W := ⟨_, rfl⟩
  have hb0 : Below w.heap.size w W0 := by rw [← hW0]; exact (Below.refl _ w).alloc (Nat.le_refl _) _
  have H0 := Lib.hid (And.intro hW0 hb0)
  clear hb0 hW0
  go_enter Tryz.func13, Tryz.ntmps13
  go_wp2_with fail
  rw [H0.out.1]
  go_loopg [3, 30] n (fun gk xv sv wr => ∃ (i : Nat) (X : ByteArray), gk + i = n ∧ xv = .string X ∧ sv = .int .i64 i ∧ X.size ≤ 1000000 ∧ Hid (X = BA (joinV (l.take i)) ∧ Below w.heap.size w wr))
  case atStart => exact ⟨0, _, by omega, rfl, rfl, by decide, Lib.hid ⟨by rw [List.take_zero]; rfl, H0.out.2⟩⟩
  case round =>
    obtain ⟨i, X, hg, rfl, rfl, hxs, HI⟩ := hrel
    by_cases hi : i < n
    · have hiz : (i : Int) < (n : Int) := by omega
      have hwK : IntKind.i64.wrap ((i : Int) + 1) = ((i + 1 : Nat) : Int) := by rw [IntWalk.i64_in _ (by omega)]; omega
      have hil : i < l.length := by have := HV.out.2.2.2.2.2; omega
      obtain ⟨b, hpe, hrb⟩ := HV.out.2.1 (by omega)
      subst hpe
      obtain ⟨d0, d1, d2, d3, d4, hx, e0, e1, e2, e3, e4⟩ := HV.out.1.get i hil
      obtain ⟨q0, q1, q2, q3, q4, q5, q6, q7, q8, hq⟩ := hx.shape
      simp only [List.cons.injEq, and_true] at hq
      obtain ⟨rfl, rfl, rfl, rfl, rfl⟩ := hq
      have k0 := bcell HI.out.2 (hrb _ _ e0)
      have k1 := bcell HI.out.2 (hrb _ _ e1)
      have k2 := bcell HI.out.2 (hrb _ _ e2)
      have k3 := bcell HI.out.2 (hrb _ _ e3)
      have k4 := bcell HI.out.2 (hrb _ _ e4)
      have hj := joinV_take l i hil
      have hjl := joinV_take_le l (i + 1)
      obtain ⟨x, hxe⟩ : ∃ x, l[i] = x := ⟨_, rfl⟩
      rw [hxe] at hx hj
      have hmem : x ∈ l := by rw [← hxe]; exact List.getElem_mem hil
      have hxl := joinV_mem hmem
      have hih := HV.out.2.2.2.2.1 x hmem
      obtain ⟨W3, hW3⟩ : ∃ W3, wr.alloc (.cells #[.int .i64 q0, .int .i64 q1, .string q2, .slice q3 q4 q5, .slice q6 q7 q8] 28) = W3 := ⟨_, rfl⟩
      have hb3 : Below wr.heap.size wr W3 := by rw [← hW3]; exact (Below.refl _ wr).alloc (Nat.le_refl _) _
      have hbw3 := HI.out.2.trans (hb3.mono HI.out.2.size)
      have hcall := hih S W3 [.int .i64 q0, .int .i64 q1, .string q2, .slice q3 q4 q5, .slice q6 q7 q8] (hx.later hbw3) (HV.out.2.2.1.below hbw3) (by have := HV.out.2.2.2.1; omega)
      unfold PrC at hcall
      have hks : (printV x).length ≤ 1000000 := by have := HV.out.2.2.2.1; omega
      have HX := Lib.hid (And.intro hW3 (And.intro hcall (And.intro hbw3 (And.intro hj (show (joinV (l.take (i + 1))).length ≤ 1000000 by have := HV.out.2.2.2.1; omega)))))
      clear hx e0 e1 e2 e3 e4 hxe hmem hxl hih hW3 hb3 hbw3 hcall hrb hj hjl
      by_cases hi0 : 0 < i
      · have hz0 : (0 : Int) < (i : Int) := by omega
        have hz1 : decide ((0 : Int) < (i : Int)) = true := by simpa using hz0
        go_wp2_with fail
        rw [HX.out.1]
        refine (show Calls _ _ _ _ _ from HX.out.2.1).mono ?_
        rintro e w4 ⟨rfl, hb4⟩
        obtain ⟨K, hK⟩ : ∃ K, BA (printV x) = K := ⟨_, rfl⟩
        have hks2 : K.size ≤ 1000000 := by rw [← hK, ba_size]; exact hks
        rw [hK]
        have HF := Lib.hid (And.intro hK (HX.out.2.2.1.trans (hb4.mono HX.out.2.2.1.size)))
        clear hK hb4 k0 k1 k2 k3 k4 hks
        go_wp2
        go_roundg (gk - 1)
        case rel =>
          have heq : X ++ ⟨#[44]⟩ ++ K = BA (joinV (l.take (i + 1))) := by
            rw [HX.out.2.2.2.1, if_pos hi0, ← ba_add, ← ba_add, HF.out.1, ← HI.out.1, ByteArray.append_assoc]
          exact ⟨i + 1, _, by omega, rfl, rfl, by rw [heq, ba_size]; exact HX.out.2.2.2.2, Lib.hid ⟨heq, HF.out.2⟩⟩
        case measure => omega
      · have hz0 : ¬ (0 : Int) < (i : Int) := by omega
        have hz1 : decide ((0 : Int) < (i : Int)) = false := by simpa using hz0
        go_wp2_with fail
        rw [HX.out.1]
        refine (show Calls _ _ _ _ _ from HX.out.2.1).mono ?_
        rintro e w4 ⟨rfl, hb4⟩
        obtain ⟨K, hK⟩ : ∃ K, BA (printV x) = K := ⟨_, rfl⟩
        have hks2 : K.size ≤ 1000000 := by rw [← hK, ba_size]; exact hks
        rw [hK]
        have HF := Lib.hid (And.intro hK (HX.out.2.2.1.trans (hb4.mono HX.out.2.2.1.size)))
        clear hK hb4 k0 k1 k2 k3 k4 hks
        go_wp2
        go_roundg (gk - 1)
        case rel =>
          have heq : X ++ K = BA (joinV (l.take (i + 1))) := by
            rw [HX.out.2.2.2.1, if_neg hi0, ← ba_add, List.nil_append, HF.out.1, ← HI.out.1]
          exact ⟨i + 1, _, by omega, rfl, rfl, by rw [heq, ba_size]; exact HX.out.2.2.2.2, Lib.hid ⟨heq, HF.out.2⟩⟩
        case measure => omega
    · have hiz : ¬ (i : Int) < (n : Int) := by omega
      have hie : i = n := by omega
      subst hie
      have hX := HI.out.1
      rw [List.take_of_length_le (by have := HV.out.2.2.2.2.2; omega)] at hX
      have HX := Lib.hid hX
      clear hX
      go_wp2
      go_ret
      refine ⟨?_, HI.out.2⟩
      have hfin : (⟨#[91]⟩ : ByteArray) ++ X ++ ⟨#[93]⟩ = BA (91 :: (joinV l ++ [93])) := by
        rw [HX.out, show (⟨#[91]⟩ : ByteArray) = BA [91] from rfl, show (⟨#[93]⟩ : ByteArray) = BA [93] from rfl, ba_add, ba_add]
        rfl
      rw [← hfin]
      rfl

set_option maxHeartbeats 8000000 in
set_option maxRecDepth 100000 in
theorem lput_obj (l : List (BL × V)) (cs : List Value) (p : Option Addr) (cap : Nat) (S : Nat → Prop) (w : World) (hV : FsAt S w l cs) (hr : 0 < l.length → ∃ b, p = some ⟨b, 0, none⟩ ∧ ∀ k u, cs[k]? = some u → w.cell? ⟨b, k, none⟩ = some u) (hE : EG w)
    (hlen : (joinF l).length + 2 ≤ 1000000) (ih : ∀ x ∈ l, PrH 13 x.2) : PrC 13 w (.obj l) [.int .i64 5, .int .i64 0, .string ⟨#[]⟩, .slice none 0 0, .slice p l.length cap] := by
  have hln := joinF_long l
  obtain ⟨n, hn⟩ : ∃ n, l.length = n := ⟨_, rfl⟩
  have HV := Lib.hid (And.intro hV (And.intro hr (And.intro hE (And.intro hlen (And.intro ih hn)))))
  rw [hn] at hln ⊢
  have hnn : n ≤ 1000000 := by omega
  clear hV hr hE hlen ih hln hn
  unfold PrC
  rw [printV]
  obtain ⟨W0, hW0⟩ : ∃ W, w.alloc (.cells #[.int .i64 5, .int .i64 0, .string ⟨#[]⟩, .slice none 0 0, .slice p n cap] 28) = W := ⟨_, rfl⟩
  have hb0 : Below w.heap.size w W0 := by rw [← hW0]; exact (Below.refl _ w).alloc (Nat.le_refl _) _
  have H0 := Lib.hid (And.intro hW0 hb0)
  clear hb0 hW0
  go_enter Tryz.func13, Tryz.ntmps13
  go_wp2_with fail
  rw [H0.out.1]
  go_loopg [3, 52] n (fun gk xv sv wr => ∃ (i : Nat) (X : ByteArray), gk + i = n ∧ xv = .string X ∧ sv = .int .i64 i ∧ X.size ≤ 1000000 ∧ Hid (X = BA (joinF (l.take i)) ∧ Below w.heap.size w wr))
  case atStart => exact ⟨0, _, by omega, rfl, rfl, by decide, Lib.hid ⟨by rw [List.take_zero]; rfl, H0.out.2⟩⟩
  case round =>
    obtain ⟨i, X, hg, rfl, rfl, hxs, HI⟩ := hrel
    by_cases hi : i < n
    · have hiz : (i : Int) < (n : Int) := by omega
      have hwK : IntKind.i64.wrap ((i : Int) + 1) = ((i + 1 : Nat) : Int) := by rw [IntWalk.i64_in _ (by omega)]; omega
      have hil : i < l.length := by have := HV.out.2.2.2.2.2; omega
      obtain ⟨b, hpe, hrb⟩ := HV.out.2.1 (by omega)
      subst hpe
      obtain ⟨d0, d1, d2, d3, d4, hx, e5, e0, e1, e2, e3, e4⟩ := HV.out.1.get i hil
      obtain ⟨q0, q1, q2, q3, q4, q5, q6, q7, q8, hq⟩ := hx.shape
      simp only [List.cons.injEq, and_true] at hq
      obtain ⟨rfl, rfl, rfl, rfl, rfl⟩ := hq
      have k0 := bcell HI.out.2 (hrb _ _ e0)
      have k1 := bcell HI.out.2 (hrb _ _ e1)
      have k2 := bcell HI.out.2 (hrb _ _ e2)
      have k3 := bcell HI.out.2 (hrb _ _ e3)
      have k4 := bcell HI.out.2 (hrb _ _ e4)
      have k5 := bcell HI.out.2 (hrb _ _ e5)
      have hj := joinF_take l i hil
      have hjl := joinF_take_le l (i + 1)
      obtain ⟨nm, hnm⟩ : ∃ nm, l[i].1 = nm := ⟨_, rfl⟩
      obtain ⟨NM, hNM⟩ : ∃ N, BA nm = N := ⟨_, rfl⟩
      rw [hnm, hNM] at k5
      obtain ⟨x, hxe⟩ : ∃ x, l[i].2 = x := ⟨_, rfl⟩
      rw [hxe] at hx
      have hli : l[i] = (nm, x) := by rw [← hnm, ← hxe]
      have hmem : (nm, x) ∈ l := by rw [← hli]; exact List.getElem_mem hil
      have hxl := joinF_mem hmem
      have hpf : printF (nm, x) = quoteL nm ++ 58 :: printV x := by rw [printF]
      rw [hpf, List.length_append, List.length_cons] at hxl
      have hih := HV.out.2.2.2.2.1 (nm, x) hmem
      rw [hli, hpf] at hj
      obtain ⟨W3, hW3⟩ : ∃ W3, wr.alloc (.cells #[.string NM, .int .i64 q0, .int .i64 q1, .string q2, .slice q3 q4 q5, .slice q6 q7 q8] 51) = W3 := ⟨_, rfl⟩
      obtain ⟨N, hN⟩ : ∃ N, wr.heap.size = N := ⟨_, rfl⟩
      have hb3 : Below wr.heap.size wr W3 := by rw [← hW3]; exact (Below.refl _ wr).alloc (Nat.le_refl _) _
      have kF : Blk W3 N 51 [.string NM, .int .i64 q0, .int .i64 q1, .string q2, .slice q3 q4 q5, .slice q6 q7 q8] := by rw [← hW3, ← hN]; exact heap_alloc_new wr _
      have hbw3 : Below w.heap.size w W3.drew := (HI.out.2.trans (hb3.mono HI.out.2.size)).drew
      have hqc := put_any NM W3.drew (by rw [← hNM, ba_size]; exact quote_long nm (by have := HV.out.2.2.2.1; omega))
      rw [show NM.data.toList = nm by rw [← hNM]] at hqc
      obtain ⟨QN, hQN⟩ : ∃ N, BA (quoteL nm) = N := ⟨_, rfl⟩
      rw [hQN] at hqc
      have hQs : QN.size ≤ 1000000 := by rw [← hQN, ba_size]; have := HV.out.2.2.2.1; omega
      have hks : (printV x).length ≤ 1000000 := by have := HV.out.2.2.2.1; omega
      have HX := Lib.hid (And.intro hW3 (And.intro hqc (And.intro hbw3 (And.intro kF (And.intro hih (And.intro (hx.later hbw3) (And.intro hQN (And.intro hj (And.intro hN (show (joinF (l.take (i + 1))).length ≤ 1000000 by have := HV.out.2.2.2.1; omega))))))))))
      clear hx e5 e0 e1 e2 e3 e4 hxe hnm hmem hxl hih hW3 hb3 hbw3 hqc hrb kF hli hpf hNM hQN hj hjl hN
      by_cases hi0 : 0 < i
      · have hz0 : (0 : Int) < (i : Int) := by omega
        have hz1 : decide ((0 : Int) < (i : Int)) = true := by simpa using hz0
        go_wp2_with fail
        rw [HX.out.1]
        (try rw [HX.out.2.2.2.2.2.2.2.2.1])
        clear k0 k1 k2 k3 k4 k5
        refine AnyP.begin (J := fun j => Nat.ble j 9) (S := fun W => Blk W N 51 [.string NM, .int .i64 q0, .int .i64 q1, .string q2, .slice q3 q4 q5, .slice q6 q7 q8]) (by kernel_rfl) rfl rfl ?_
        refine AnyP.takeP (i := 0) (v := .string (X ++ ⟨#[44]⟩)) rfl rfl (by kernel_rfl) (by kernel_rfl) (by kernel_rfl) (fun _ _ _ h => h) (by rfl) ?_ ?_
        · intro W
          go_simp
          try (with_reducible rfl)
        simp only [Act.put, List.setIfInBounds_toArray, List.set_cons_zero, List.set_cons_succ]
        refine AnyP.takeP (i := 1) (v := .pointer (some ⟨N, 0, none⟩)) rfl rfl (by kernel_rfl) (by kernel_rfl) (by kernel_rfl) (fun _ _ _ h => h) (by rfl) ?_ ?_
        · intro W
          go_simp
          try (with_reducible rfl)
        simp only [Act.put, List.setIfInBounds_toArray, List.set_cons_zero, List.set_cons_succ]
        refine AnyP.takeT [6, 7] (by rfl) (i := 2) (v := .string NM) rfl rfl (by kernel_rfl) (by kernel_rfl) (by kernel_rfl) (by kernel_rfl) (fun _ _ _ h => h) (by rfl) ?_ HX.out.2.2.2.1.drew ?_
        · intro W hW
          have n0 := hW.cell 0
          go_simp
          try (with_reducible rfl)
        simp only [Act.put, List.setIfInBounds_toArray, List.set_cons_zero, List.set_cons_succ]
        refine AnyP.takeP (i := 6) (v := .pointer (some ⟨N, 1, none⟩)) rfl rfl (by kernel_rfl) (by kernel_rfl) (by kernel_rfl) (fun _ _ _ h => h) (by rfl) ?_ ?_
        · intro W
          go_simp
          try (with_reducible rfl)
        simp only [Act.put, List.setIfInBounds_toArray, List.set_cons_zero, List.set_cons_succ]
        refine AnyP.takeT [3, 4, 5] (by rfl) (i := 7) (v := .agg #[.int .i64 q0, .int .i64 q1, .string q2, .slice q3 q4 q5, .slice q6 q7 q8]) rfl rfl (by kernel_rfl) (by kernel_rfl) (by kernel_rfl) (by kernel_rfl) (fun _ _ _ h => h) (by rfl) ?_ HX.out.2.2.2.1.drew ?_
        · intro W hW
          have n1 := hW.cell 1
          have n2 := hW.cell 2
          have n3 := hW.cell 3
          have n4 := hW.cell 4
          have n5 := hW.cell 5
          go_simp
          try (with_reducible rfl)
        simp only [Act.put, List.setIfInBounds_toArray, List.set_cons_zero, List.set_cons_succ]
        refine AnyP.oneL (i := 3) (by kernel_rfl) rfl (fun K hK => ?_)
        go_simp
        refine (show Calls _ _ _ _ _ from HX.out.2.1).mono ?_
        rintro e w5 ⟨rfl, hb5⟩
        refine hK.out _ _ (fun _ h => h.below hb5) ?_
        clear hK K
        (try simp only [Act.put, List.setIfInBounds_toArray, List.set_cons_zero, List.set_cons_succ])
        refine AnyP.takeP (i := 4) (v := .string ((X ++ ⟨#[44]⟩) ++ QN)) rfl rfl (by kernel_rfl) (by kernel_rfl) (by kernel_rfl) (fun _ _ _ h => h) (by rfl) ?_ ?_
        · intro W
          have g1 : X.size + 1 + QN.size ≤ 9223372036854775806 := by omega
          have g2 : X.size + QN.size ≤ 9223372036854775806 := by omega
          have g3 : X.size + 1 + QN.size ≤ 9223372036854775807 := by omega
          have g4 : X.size + QN.size ≤ 9223372036854775807 := by omega
          go_simp
          try (with_reducible rfl)
        simp only [Act.put, List.setIfInBounds_toArray, List.set_cons_zero, List.set_cons_succ]
        refine AnyP.takeP (i := 5) (v := .string ((X ++ ⟨#[44]⟩) ++ QN ++ ⟨#[58]⟩)) rfl rfl (by kernel_rfl) (by kernel_rfl) (by kernel_rfl) (fun _ _ _ h => h) (by rfl) ?_ ?_
        · intro W
          have g1 : X.size + 1 + QN.size ≤ 9223372036854775806 := by omega
          have g2 : X.size + QN.size ≤ 9223372036854775806 := by omega
          have g3 : X.size + 1 + QN.size ≤ 9223372036854775807 := by omega
          have g4 : X.size + QN.size ≤ 9223372036854775807 := by omega
          go_simp
          try (with_reducible rfl)
        simp only [Act.put, List.setIfInBounds_toArray, List.set_cons_zero, List.set_cons_succ]
        have hcall := HX.out.2.2.2.2.1 S w5 [.int .i64 q0, .int .i64 q1, .string q2, .slice q3 q4 q5, .slice q6 q7 q8] (HX.out.2.2.2.2.2.1.later (HX.out.2.2.1.trans (hb5.mono HX.out.2.2.1.size) |> fun h => by exact hb5)) (HV.out.2.2.1.below (HX.out.2.2.1.trans (hb5.mono HX.out.2.2.1.size))) hks
        unfold PrC at hcall
        refine AnyP.oneL (i := 8) (by kernel_rfl) rfl (fun K hK => ?_)
        go_simp
        refine (show Calls _ _ _ _ _ from hcall).mono ?_
        rintro e w6 ⟨rfl, hb6⟩
        refine hK.out _ _ (fun _ h => h.below hb6) ?_
        clear hK K
        (try simp only [Act.put, List.setIfInBounds_toArray, List.set_cons_zero, List.set_cons_succ])
        obtain ⟨K, hK⟩ : ∃ K, BA (printV x) = K := ⟨_, rfl⟩
        have hks2 : K.size ≤ 1000000 := by rw [← hK, ba_size]; exact hks
        rw [hK]
        have g6 : ¬ 9223372036854775807 < X.size + 1 + QN.size + 1 + K.size := by omega
        have g7 : ¬ 9223372036854775807 < X.size + QN.size + 1 + K.size := by omega
        have HF := Lib.hid (And.intro hK (HX.out.2.2.1.trans ((hb5.trans (hb6.mono hb5.size)).mono HX.out.2.2.1.size)))
        clear hK hb5 hb6 hks hcall
        refine AnyP.oneL (i := 9) (by kernel_rfl) rfl (fun K hK => ?_)
        go_simp
        refine hK.out _ _ (fun _ h => h) ?_
        clear hK K
        (try simp only [Act.put, List.setIfInBounds_toArray, List.set_cons_zero, List.set_cons_succ])
        refine AnyP.oneL (i := 10) (by kernel_rfl) rfl (fun K hK => ?_)
        go_simp
        refine hK.out _ _ (fun h => by cases h) ?_
        clear hK K
        (try simp only [Act.put, List.setIfInBounds_toArray, List.set_cons_zero, List.set_cons_succ])
        refine AnyP.done (by kernel_rfl) ?_
        go_wp2
        go_roundg (gk - 1)
        case rel =>
          have heq : (X ++ ⟨#[44]⟩) ++ QN ++ ⟨#[58]⟩ ++ K = BA (joinF (l.take (i + 1))) := by
            rw [HX.out.2.2.2.2.2.2.2.1, if_pos hi0, HI.out.1, ← HX.out.2.2.2.2.2.2.1, ← HF.out.1, show (⟨#[44]⟩ : ByteArray) = BA [44] from rfl, show (⟨#[58]⟩ : ByteArray) = BA [58] from rfl]
            simp only [ba_add, List.append_assoc, List.nil_append, List.cons_append]
          exact ⟨i + 1, _, by omega, rfl, rfl, by rw [heq, ba_size]; exact HX.out.2.2.2.2.2.2.2.2.2, Lib.hid ⟨heq, HF.out.2⟩⟩
        case measure => omega
      · have hz0 : ¬ (0 : Int) < (i : Int) := by omega
        have hz1 : decide ((0 : Int) < (i : Int)) = false := by simpa using hz0
        go_wp2_with fail
        rw [HX.out.1]
        (try rw [HX.out.2.2.2.2.2.2.2.2.1])
        clear k0 k1 k2 k3 k4 k5
        refine AnyP.begin (J := fun j => Nat.ble j 9) (S := fun W => Blk W N 51 [.string NM, .int .i64 q0, .int .i64 q1, .string q2, .slice q3 q4 q5, .slice q6 q7 q8]) (by kernel_rfl) rfl rfl ?_
        refine AnyP.takeP (i := 0) (v := .string X) rfl rfl (by kernel_rfl) (by kernel_rfl) (by kernel_rfl) (fun _ _ _ h => h) (by rfl) ?_ ?_
        · intro W
          go_simp
          try (with_reducible rfl)
        simp only [Act.put, List.setIfInBounds_toArray, List.set_cons_zero, List.set_cons_succ]
        refine AnyP.takeP (i := 1) (v := .pointer (some ⟨N, 0, none⟩)) rfl rfl (by kernel_rfl) (by kernel_rfl) (by kernel_rfl) (fun _ _ _ h => h) (by rfl) ?_ ?_
        · intro W
          go_simp
          try (with_reducible rfl)
        simp only [Act.put, List.setIfInBounds_toArray, List.set_cons_zero, List.set_cons_succ]
        refine AnyP.takeT [6, 7] (by rfl) (i := 2) (v := .string NM) rfl rfl (by kernel_rfl) (by kernel_rfl) (by kernel_rfl) (by kernel_rfl) (fun _ _ _ h => h) (by rfl) ?_ HX.out.2.2.2.1.drew ?_
        · intro W hW
          have n0 := hW.cell 0
          go_simp
          try (with_reducible rfl)
        simp only [Act.put, List.setIfInBounds_toArray, List.set_cons_zero, List.set_cons_succ]
        refine AnyP.takeP (i := 6) (v := .pointer (some ⟨N, 1, none⟩)) rfl rfl (by kernel_rfl) (by kernel_rfl) (by kernel_rfl) (fun _ _ _ h => h) (by rfl) ?_ ?_
        · intro W
          go_simp
          try (with_reducible rfl)
        simp only [Act.put, List.setIfInBounds_toArray, List.set_cons_zero, List.set_cons_succ]
        refine AnyP.takeT [3, 4, 5] (by rfl) (i := 7) (v := .agg #[.int .i64 q0, .int .i64 q1, .string q2, .slice q3 q4 q5, .slice q6 q7 q8]) rfl rfl (by kernel_rfl) (by kernel_rfl) (by kernel_rfl) (by kernel_rfl) (fun _ _ _ h => h) (by rfl) ?_ HX.out.2.2.2.1.drew ?_
        · intro W hW
          have n1 := hW.cell 1
          have n2 := hW.cell 2
          have n3 := hW.cell 3
          have n4 := hW.cell 4
          have n5 := hW.cell 5
          go_simp
          try (with_reducible rfl)
        simp only [Act.put, List.setIfInBounds_toArray, List.set_cons_zero, List.set_cons_succ]
        refine AnyP.oneL (i := 3) (by kernel_rfl) rfl (fun K hK => ?_)
        go_simp
        refine (show Calls _ _ _ _ _ from HX.out.2.1).mono ?_
        rintro e w5 ⟨rfl, hb5⟩
        refine hK.out _ _ (fun _ h => h.below hb5) ?_
        clear hK K
        (try simp only [Act.put, List.setIfInBounds_toArray, List.set_cons_zero, List.set_cons_succ])
        refine AnyP.takeP (i := 4) (v := .string (X ++ QN)) rfl rfl (by kernel_rfl) (by kernel_rfl) (by kernel_rfl) (fun _ _ _ h => h) (by rfl) ?_ ?_
        · intro W
          have g1 : X.size + 1 + QN.size ≤ 9223372036854775806 := by omega
          have g2 : X.size + QN.size ≤ 9223372036854775806 := by omega
          have g3 : X.size + 1 + QN.size ≤ 9223372036854775807 := by omega
          have g4 : X.size + QN.size ≤ 9223372036854775807 := by omega
          go_simp
          try (with_reducible rfl)
        simp only [Act.put, List.setIfInBounds_toArray, List.set_cons_zero, List.set_cons_succ]
        refine AnyP.takeP (i := 5) (v := .string (X ++ QN ++ ⟨#[58]⟩)) rfl rfl (by kernel_rfl) (by kernel_rfl) (by kernel_rfl) (fun _ _ _ h => h) (by rfl) ?_ ?_
        · intro W
          have g1 : X.size + 1 + QN.size ≤ 9223372036854775806 := by omega
          have g2 : X.size + QN.size ≤ 9223372036854775806 := by omega
          have g3 : X.size + 1 + QN.size ≤ 9223372036854775807 := by omega
          have g4 : X.size + QN.size ≤ 9223372036854775807 := by omega
          go_simp
          try (with_reducible rfl)
        simp only [Act.put, List.setIfInBounds_toArray, List.set_cons_zero, List.set_cons_succ]
        have hcall := HX.out.2.2.2.2.1 S w5 [.int .i64 q0, .int .i64 q1, .string q2, .slice q3 q4 q5, .slice q6 q7 q8] (HX.out.2.2.2.2.2.1.later (HX.out.2.2.1.trans (hb5.mono HX.out.2.2.1.size) |> fun h => by exact hb5)) (HV.out.2.2.1.below (HX.out.2.2.1.trans (hb5.mono HX.out.2.2.1.size))) hks
        unfold PrC at hcall
        refine AnyP.oneL (i := 8) (by kernel_rfl) rfl (fun K hK => ?_)
        go_simp
        refine (show Calls _ _ _ _ _ from hcall).mono ?_
        rintro e w6 ⟨rfl, hb6⟩
        refine hK.out _ _ (fun _ h => h.below hb6) ?_
        clear hK K
        (try simp only [Act.put, List.setIfInBounds_toArray, List.set_cons_zero, List.set_cons_succ])
        obtain ⟨K, hK⟩ : ∃ K, BA (printV x) = K := ⟨_, rfl⟩
        have hks2 : K.size ≤ 1000000 := by rw [← hK, ba_size]; exact hks
        rw [hK]
        have g6 : ¬ 9223372036854775807 < X.size + 1 + QN.size + 1 + K.size := by omega
        have g7 : ¬ 9223372036854775807 < X.size + QN.size + 1 + K.size := by omega
        have HF := Lib.hid (And.intro hK (HX.out.2.2.1.trans ((hb5.trans (hb6.mono hb5.size)).mono HX.out.2.2.1.size)))
        clear hK hb5 hb6 hks hcall
        refine AnyP.oneL (i := 9) (by kernel_rfl) rfl (fun K hK => ?_)
        go_simp
        refine hK.out _ _ (fun _ h => h) ?_
        clear hK K
        (try simp only [Act.put, List.setIfInBounds_toArray, List.set_cons_zero, List.set_cons_succ])
        refine AnyP.oneL (i := 10) (by kernel_rfl) rfl (fun K hK => ?_)
        go_simp
        refine hK.out _ _ (fun h => by cases h) ?_
        clear hK K
        (try simp only [Act.put, List.setIfInBounds_toArray, List.set_cons_zero, List.set_cons_succ])
        refine AnyP.done (by kernel_rfl) ?_
        go_wp2
        go_roundg (gk - 1)
        case rel =>
          have heq : X ++ QN ++ ⟨#[58]⟩ ++ K = BA (joinF (l.take (i + 1))) := by
            rw [HX.out.2.2.2.2.2.2.2.1, if_neg hi0, HI.out.1, ← HX.out.2.2.2.2.2.2.1, ← HF.out.1, show (⟨#[58]⟩ : ByteArray) = BA [58] from rfl]
            simp only [ba_add, List.append_assoc, List.nil_append, List.singleton_append]
          exact ⟨i + 1, _, by omega, rfl, rfl, by rw [heq, ba_size]; exact HX.out.2.2.2.2.2.2.2.2.2, Lib.hid ⟨heq, HF.out.2⟩⟩
        case measure => omega
    · have hiz : ¬ (i : Int) < (n : Int) := by omega
      have hie : i = n := by omega
      subst hie
      have hX := HI.out.1
      rw [List.take_of_length_le (by have := HV.out.2.2.2.2.2; omega)] at hX
      have HX := Lib.hid hX
      clear hX
      go_wp2
      go_ret
      refine ⟨?_, HI.out.2⟩
      have hfin : (⟨#[123]⟩ : ByteArray) ++ X ++ ⟨#[125]⟩ = BA (123 :: (joinF l ++ [125])) := by
        rw [HX.out, show (⟨#[123]⟩ : ByteArray) = BA [123] from rfl, show (⟨#[125]⟩ : ByteArray) = BA [125] from rfl, ba_add, ba_add]
        rfl
      rw [← hfin]
      rfl

theorem lput_any (v : V) : PrH 13 v := by
  refine V_kids ?_ ?_ ?_ ?_ ?_ ?_ v
  · intro l ih S w c hv hE hlen
    cases hv with
    | list l cs sl hV hr =>
      obtain ⟨p, cap, rfl, hp⟩ := row_form hr
      rw [printV] at hlen
      simp only [List.length_cons, List.length_append, List.length_nil] at hlen
      exact lput_list l cs p cap S w hV hp hE (by omega) ih
  · intro l ih S w c hv hE hlen
    cases hv with
    | obj l cs sl hV hr =>
      obtain ⟨p, cap, rfl, hp⟩ := row_form hr
      rw [printV] at hlen
      simp only [List.length_cons, List.length_append, List.length_nil] at hlen
      exact lput_obj l cs p cap S w hV hp hE (by omega) ih
  · intro S w c hv hE hlen
    cases hv
    exact lput_null w
  · intro n S w c hv hE hlen
    cases hv with
    | bool n h =>
      by_cases hn : n = 1
      · exact lput_bool1 n hn w
      · exact lput_bool0 n hn w
  · intro n S w c hv hE hlen
    cases hv with
    | int n h => exact lput_int n h w
  · intro s S w c hv hE hlen
    cases hv
    rw [printV] at hlen
    exact lput_text s (quote_long s hlen) w

set_option maxHeartbeats 8000000 in
set_option maxRecDepth 100000 in
theorem jprints_law (nb : Nat) (w : World) (sv : Value) (l : BL) (hnb : nb ≤ w.heap.size) (h : BRead nb w sv l) (hJ : JW w) :
    Calls Tryz.prog 3 #[sv] w fun e w' => e = .returned (.bool true) ∧ Below w.heap.size w w' := by
  have H := Lib.hid (And.intro hnb (And.intro h hJ))
  clear hnb h hJ
  go_enter Tryz.func3, Tryz.ntmps3
  go_wp2_with fail
  refine (jawake_any _ H.out.2.2.1).mono ?_
  rintro e w1 ⟨rfl, hb1⟩
  have H1 := Lib.hid hb1
  clear hb1
  go_wp2_with fail
  refine (of_any nb w1 sv l (Nat.le_trans H.out.1 H1.out.size) (H.out.2.1.later (H1.out.mono H.out.1)) (H.out.2.2.2.later H1.out)).mono ?_
  rintro e w2 ⟨x, rfl, hx, hb2⟩
  have hx0 : VAt (fun b => w1.heap.size ≤ b ∧ b < w2.heap.size) w2 (ofL l) x := hx
  obtain ⟨q0, q1, q2, q3, q4, q5, q6, q7, q8, rfl⟩ := hx0.shape
  obtain ⟨P, hP⟩ : ∃ P, w2.heap.size = P := ⟨_, rfl⟩
  obtain ⟨W2, hW2⟩ : ∃ W, w2.alloc (.cells #[.int .i64 q0, .int .i64 q1, .string q2, .slice q3 q4 q5, .slice q6 q7 q8] 28) = W := ⟨_, rfl⟩
  have hk2 : Blk W2 P 28 [.int .i64 q0, .int .i64 q1, .string q2, .slice q3 q4 q5, .slice q6 q7 q8] := by rw [← hW2, ← hP]; exact heap_alloc_new w2 _
  have hb2a : Below w2.heap.size w2 W2 := by rw [← hW2]; exact (Below.refl _ w2).alloc (Nat.le_refl _) _
  have hbw2 := (H1.out.trans (hb2.mono H1.out.size)).trans (hb2a.mono (Nat.le_trans H1.out.size hb2.size))
  have H2 := Lib.hid (And.intro (hx0.later hb2a) (And.intro hk2 (And.intro hbw2.drew (And.intro hP hW2))))
  clear hb2 hx hx0 hk2 hb2a hP hW2 hbw2
  go_wp2_with fail
  rw [H2.out.2.2.2.2]
  (try rw [H2.out.2.2.2.1])
  have hd2 : Below W2.heap.size W2 W2.drew := (Below.refl _ W2).drew
  have hc1 := print_any (ofL l) _ W2.drew _ (H2.out.1.later hd2) (H.out.2.2.1.below H2.out.2.2.1) (by have := print_size l; omega)
  unfold PrC at hc1
  have HC1 := Lib.hid (And.intro hd2 hc1)
  clear hd2 hc1
  refine AnyP.begin (J := fun j => Nat.ble j 4) (S := fun W => Blk W P 28 [.int .i64 q0, .int .i64 q1, .string q2, .slice q3 q4 q5, .slice q6 q7 q8]) (by kernel_rfl) rfl rfl ?_
  refine AnyP.takeT [2] (by rfl) (i := 0) (v := .agg #[.int .i64 q0, .int .i64 q1, .string q2, .slice q3 q4 q5, .slice q6 q7 q8]) rfl rfl (by kernel_rfl) (by kernel_rfl) (by kernel_rfl) (by kernel_rfl) (fun _ _ _ h => h) (by rfl) ?_ H2.out.2.1.drew ?_
  · intro W hW
    have n0 := hW.cell 0
    have n1 := hW.cell 1
    have n2 := hW.cell 2
    have n3 := hW.cell 3
    have n4 := hW.cell 4
    go_simp
    try (with_reducible rfl)
  simp only [Act.put, List.setIfInBounds_toArray, List.set_cons_zero, List.set_cons_succ]
  refine AnyP.takeT [1] (by rfl) (i := 2) (v := .agg #[.int .i64 q0, .int .i64 q1, .string q2, .slice q3 q4 q5, .slice q6 q7 q8]) rfl rfl (by kernel_rfl) (by kernel_rfl) (by kernel_rfl) (by kernel_rfl) (fun _ _ _ h => h) (by rfl) ?_ H2.out.2.1.drew ?_
  · intro W hW
    have n0 := hW.cell 0
    have n1 := hW.cell 1
    have n2 := hW.cell 2
    have n3 := hW.cell 3
    have n4 := hW.cell 4
    go_simp
    try (with_reducible rfl)
  simp only [Act.put, List.setIfInBounds_toArray, List.set_cons_zero, List.set_cons_succ]
  refine AnyP.oneL (i := 1) (by kernel_rfl) rfl (fun K hK => ?_)
  go_simp
  refine (show Calls _ _ _ _ _ from HC1.out.2).mono ?_
  rintro e w5 ⟨rfl, hb5⟩
  refine hK.out _ _ (fun _ h => h.below hb5) ?_
  clear hK K
  (try simp only [Act.put, List.setIfInBounds_toArray, List.set_cons_zero, List.set_cons_succ])
  have hb25 := H2.out.2.2.1.trans (hb5.mono H2.out.2.2.1.size)
  have hc2 := lput_any (ofL l) _ w5 _ ((H2.out.1.later HC1.out.1).later hb5) (H.out.2.2.1.below hb25) (by have := print_size l; omega)
  unfold PrC at hc2
  refine AnyP.oneL (i := 3) (by kernel_rfl) rfl (fun K hK => ?_)
  go_simp
  refine (show Calls _ _ _ _ _ from hc2).mono ?_
  rintro e w6 ⟨rfl, hb6⟩
  refine hK.out _ _ (fun _ h => h.below hb6) ?_
  clear hK K
  (try simp only [Act.put, List.setIfInBounds_toArray, List.set_cons_zero, List.set_cons_succ])
  have HF := Lib.hid (hb25.trans (hb6.mono hb25.size))
  clear hb25 hb6 hb5 hc2
  refine AnyP.oneL (i := 4) (by kernel_rfl) rfl (fun K hK => ?_)
  go_simp
  refine hK.out _ _ (fun _ h => h) ?_
  clear hK K
  (try simp only [Act.put, List.setIfInBounds_toArray, List.set_cons_zero, List.set_cons_succ])
  refine AnyP.oneL (i := 5) (by kernel_rfl) rfl (fun K hK => ?_)
  go_simp
  refine hK.out _ _ (fun h => by cases h) ?_
  clear hK K
  (try simp only [Act.put, List.setIfInBounds_toArray, List.set_cons_zero, List.set_cons_succ])
  refine AnyP.done (by kernel_rfl) ?_
  go_wp2
  go_ret
  exact ⟨by first | rfl | simp, HF.out⟩
end Go.Proofs.YtccnfnoonpfdfaaGreatDoor
