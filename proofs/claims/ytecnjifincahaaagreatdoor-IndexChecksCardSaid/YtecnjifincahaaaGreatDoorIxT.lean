/- path.Parse and index.Key at a text that is no path. -/
import Derived.Test.YtecnjifincahaaaGreatDoorIxG
import Derived.Test.YtecnjifincahaaaGreatDoorIxN
namespace Go.Proofs.YtecnjifincahaaaGreatDoor
open Go.Shelf Go.RowKit Go.Lib

/-- is a part wrong? -/
def oddP (n : Nat) : Prop := n = 0 ∨ 32 < n
set_option maxRecDepth 100000 in
theorem part_bad (P : ByteArray) (n : Nat) (hn : P.size = n) (h : oddP n) (w : World) : Calls Tryz.prog 32 #[.string P] w fun e w' => e = .returned (.bool true) ∧ w' = w := by
  by_cases hz : n = 0
  · have hP : P = ⟨#[]⟩ := by
      have h3 : P.size = P.data.toList.length := by rw [Array.length_toList]; rfl
      have h4 : P.data = #[] := Array.toList_eq_nil_iff.1 (List.length_eq_zero_iff.1 (by omega))
      rcases P with ⟨d⟩
      exact congrArg _ h4
    subst hP
    clear hn h hz
    go_enter Tryz.func32, Tryz.ntmps32
    go_wp2
    go_ret
    exact ⟨by first | rfl | simp, rfl⟩
  · have hgt : (32 : Int) < (n : Int) := by rcases h with h | h <;> omega
    have hne : P.toList.isEmpty = false := by
      rw [Lib.toList_data]
      have h3 : P.size = P.data.toList.length := by rw [Array.length_toList]; rfl
      cases h : P.data.toList with
      | nil => rw [h, hn, List.length_nil] at h3; omega
      | cons _ _ => rfl
    clear h hz
    go_enter Tryz.func32, Tryz.ntmps32
    go_wp2
    go_ret
    exact ⟨by first | rfl | simp, rfl⟩

set_option maxHeartbeats 2000000 in
set_option maxRecDepth 100000 in
theorem pidx_bad (ps : List BL) (sl : Value) (w : World) (hP : PRead w sl ps) (hodd : ∃ (j : Nat) (hj : j < ps.length), oddP ps[j].length) :
    Calls Tryz.prog 54 #[sl, .func (.func 32) #[] #[]] w fun e w' => ∃ i : Nat, e = .returned (.int .i64 (i : Int)) ∧ w' = w := by
  obtain ⟨hn, g, cap, rfl, hg⟩ := hP
  obtain ⟨n, hnn⟩ : ∃ n, ps.length = n := ⟨_, rfl⟩
  rw [hnn] at hn
  rw [hnn]
  have H0 := Lib.hid (And.intro hg (And.intro hodd hnn))
  clear hg hodd hnn
  go_enter Tryz.func54, Tryz.ntmps54
  go_wp2_with fail
  go_loopg [8] n (fun gk iv wr => ∃ (i : Nat), gk + i = n ∧ iv = .int .i64 i ∧ wr = w ∧ ∀ (j : Nat) (hj : j < ps.length), j < i → ¬ oddP ps[j].length)
  case atStart => exact ⟨0, by omega, rfl, rfl, fun j _ h => absurd h (by omega)⟩
  case round =>
    obtain ⟨i, hgi, rfl, rfl, hbefore⟩ := hrel
    have HB := Lib.hid hbefore
    clear hbefore
    by_cases hi : i < n
    · have hiz : (i : Int) < (n : Int) := by omega
      have hwK : IntKind.i64.wrap ((i : Int) + 1) = ((i + 1 : Nat) : Int) := by rw [IntWalk.i64_in _ (by omega)]; omega
      have hil : i < ps.length := by rw [H0.out.2.2]; exact hi
      have hpc := H0.out.1 i hil
      by_cases hod : oddP ps[i].length
      · have hcall := part_bad (BA ps[i]) ps[i].length (ba_size _) hod wr
        obtain ⟨nm, hnm⟩ : ∃ nm, BA ps[i] = nm := ⟨_, rfl⟩
        rw [hnm] at hpc hcall
        clear hnm hod
        go_wp2_with fail
        refine (show Calls _ _ _ _ _ from hcall).mono ?_
        rintro e w2 ⟨rfl, rfl⟩
        clear hcall hpc
        go_wp2
        go_ret
        first | exact ⟨i, rfl, rfl⟩ | exact ⟨i, rfl⟩ | exact ⟨⟨i, rfl⟩, rfl⟩ | simp
      · have hcall := part_ok (BA ps[i]) ps[i].length (ba_size _) (by unfold oddP at hod; omega) (by unfold oddP at hod; omega) wr
        have HO := Lib.hid hod
        obtain ⟨nm, hnm⟩ : ∃ nm, BA ps[i] = nm := ⟨_, rfl⟩
        rw [hnm] at hpc hcall
        clear hnm hod
        go_wp2_with fail
        refine (show Calls _ _ _ _ _ from hcall).mono ?_
        rintro e w2 ⟨rfl, rfl⟩
        clear hcall hpc
        go_wp2
        go_roundg (gk - 1)
        case rel =>
          refine ⟨i + 1, by omega, rfl, rfl, fun j hj hji => ?_⟩
          by_cases hje : j < i
          · exact HB.out j hj hje
          · obtain rfl : j = i := by omega
            exact HO.out
        case measure => omega
    · exfalso
      obtain ⟨j, hj, ho⟩ := H0.out.2.1
      exact HB.out j hj (by have := H0.out.2.2; omega) ho
set_option maxRecDepth 100000 in
theorem pcont_bad (ps : List BL) (sl : Value) (w : World) (hP : PRead w sl ps) (hodd : ∃ (j : Nat) (hj : j < ps.length), oddP ps[j].length) :
    Calls Tryz.prog 31 #[sl, .func (.func 32) #[] #[]] w fun e w' => e = .returned (.bool true) ∧ w' = w := by
  have hcall := pidx_bad ps sl w hP hodd
  clear hP hodd
  go_enter Tryz.func31, Tryz.ntmps31
  go_wp2_with fail
  refine (show Calls _ _ _ _ _ from hcall).mono ?_
  rintro e w2 ⟨i, rfl, rfl⟩
  have h0 : (0 : Int) ≤ (i : Int) := by omega
  go_wp2
  go_ret
  exact ⟨by first | rfl | simp, rfl⟩

/-- the parts of a text, be it a path or none. -/
structure Cut (s : BL) (ps : List BL) : Prop where
  split : Lib.splitB dotS 0 (Lib.countB (BA s) dotS) (BA s) = ps.map BA
  count : Lib.countB (BA s) dotS + 1 = ps.length
  small : s.length ≤ 1000
theorem cut_some (s : BL) (h : s.length ≤ 1000) : ∃ ps, Cut s ps := by
  refine ⟨(Lib.splitB dotS 0 (Lib.countB (BA s) dotS) (BA s)).map (·.data.toList), ?_, ?_, h⟩
  · rw [List.map_map]
    refine (List.map_id'' (fun x => ?_) _).symm
    show BA x.data.toList = x
    simp [BA]
  · rw [List.length_map, Lib.splitB_all dotS (by decide) 0 _ _ rfl]
def noPath (s : BL) (ps : List BL) : Prop := (∃ (j : Nat) (hj : j < ps.length), oddP ps[j].length) ∨ 8 < ps.length ∨ Lib.validD s = false
theorem Cut.few {s : BL} {ps : List BL} (h : Cut s ps) : ps.length ≤ 1001 := by
  have := Lib.countB_le dotS (by decide) _ (BA s) (Nat.le_refl _)
  rw [ba_size] at this
  have h1 := h.count
  have h2 := h.small
  omega
theorem Cut.path {s : BL} {ps : List BL} (h : Cut s ps) (hn : ¬ noPath s ps) : IsPath s ps := by
  unfold noPath oddP at hn
  refine ⟨h.split, h.count, fun p hp => ?_, ?_, ?_, h.small⟩
  · obtain ⟨j, hj, rfl⟩ := List.mem_iff_getElem.1 hp
    by_cases ho : ps[j].length = 0 ∨ 32 < ps[j].length
    · exact absurd (.inl ⟨j, hj, ho⟩) hn
    · omega
  · by_cases ho : 8 < ps.length
    · exact absurd (.inr (.inl ho)) hn
    · omega
  · cases hv : Lib.validD s with
    | true => rfl
    | false => exact absurd (.inr (.inr hv)) hn

set_option maxHeartbeats 2000000 in
set_option maxRecDepth 100000 in
theorem parse_odd (s : BL) (ps : List BL) (h : Cut s ps) (hbad : ∃ (j : Nat) (hj : j < ps.length), oddP ps[j].length) (w : World) (_hT : Tabs w) (hM : ML w) :
    Calls Tryz.prog 10 #[.string (BA s)] w fun e w' => ∃ v, e = .returned (.tuple #[.slice none 0 0, v]) ∧ Chain w' 1 v 6 ∧ Below w.heap.size w w' := by
  obtain ⟨m, hm⟩ := hM
  have hsplit := Tryz.strings_Split (BA s) dotS m w (by rw [ba_size]; have := h.small; omega) hm (by decide)
  rw [h.split, h.count] at hsplit
  obtain ⟨W1, hW1⟩ : ∃ W, w.alloc (.cells ((ps.map BA).map Value.string).toArray 9) = W := ⟨_, rfl⟩
  have hb1 : Below w.heap.size w W1 := by rw [← hW1]; exact (Below.refl _ w).alloc (Nat.le_refl _) _
  have hP : PRead W1 (.slice (some ⟨w.heap.size, 0, none⟩) ps.length ps.length) ps := by
    refine ⟨by have := h.few; omega, w.heap.size, _, rfl, fun i hi => ?_⟩
    have h2 := heap_alloc_new w (.cells ((ps.map BA).map Value.string).toArray 9)
    rw [hW1] at h2
    rw [(show Blk W1 w.heap.size 9 ((ps.map BA).map Value.string) from h2).cell i]
    simp [hi]
  rw [hW1] at hsplit
  have h6 : ((6 : Int) == 0) = false := rfl
  have hN : ∀ W : World, Calls Tryz.prog 34 #[.int .i64 6, .string ⟨#[112, 97, 116, 104]⟩] W fun e w' => e = .returned (.iface 107 (.pointer (some ⟨W.heap.size, 0, none⟩))) ∧ w' = W.alloc (.cells #[.string ⟨#[112, 97, 116, 104]⟩, .iface 32 (.int .i64 6)] 109) := fun W => faultNew_some 6 _ W h6
  have hfin : ∀ W : World, Chain (W.alloc (.cells #[.string ⟨#[112, 97, 116, 104]⟩, .iface 32 (.int .i64 6)] 109)) 1 (.iface 107 (.pointer (some ⟨W.heap.size, 0, none⟩))) 6 := fun W => ⟨W.heap.size, _, _, rfl, heap_alloc_new W _, rfl⟩
  have hcont := pcont_bad ps _ W1 hP hbad
  have hval := trivial
  have H0 := Lib.hid (And.intro hcont (And.intro hval (And.intro hb1 (And.intro hN hfin))))
  obtain ⟨n, hn⟩ : ∃ n, ps.length = n := ⟨_, rfl⟩
  have hn8 := h.few
  rw [hn] at hsplit H0 hn8
  obtain ⟨X, hX⟩ : ∃ X, BA s = X := ⟨_, rfl⟩
  rw [hX] at hsplit ⊢
  (try rw [hX] at H0)
  unfold dotS at hsplit
  clear hcont hval hP hb1 hn hX hm hW1 h hbad h6 hN hfin
  go_enter Tryz.func10, Tryz.ntmps10
  go_wp2_with fail
  refine (show Calls _ _ _ _ _ from hsplit).mono ?_
  rintro e w2 ⟨rfl, rfl⟩
  clear hsplit
  go_wp2_with fail
  refine (show Calls _ _ _ _ _ from H0.out.1).mono ?_
  rintro e w3 ⟨rfl, rfl⟩
  go_wp2_with fail
  refine (show Calls _ _ _ _ _ from H0.out.2.2.2.1 _).mono ?_
  rintro e w5 ⟨rfl, rfl⟩
  go_wp2
  go_ret2
  exact ⟨_, rfl, H0.out.2.2.2.2 _, H0.out.2.2.1.alloc H0.out.2.2.1.size _⟩

set_option maxHeartbeats 2000000 in
set_option maxRecDepth 100000 in
theorem parse_many (s : BL) (ps : List BL) (h : Cut s ps) (hok : ∀ p ∈ ps, 1 ≤ p.length ∧ p.length ≤ 32) (hbad : 8 < ps.length) (w : World) (_hT : Tabs w) (hM : ML w) :
    Calls Tryz.prog 10 #[.string (BA s)] w fun e w' => ∃ v, e = .returned (.tuple #[.slice none 0 0, v]) ∧ Chain w' 1 v 6 ∧ Below w.heap.size w w' := by
  obtain ⟨m, hm⟩ := hM
  have hsplit := Tryz.strings_Split (BA s) dotS m w (by rw [ba_size]; have := h.small; omega) hm (by decide)
  rw [h.split, h.count] at hsplit
  obtain ⟨W1, hW1⟩ : ∃ W, w.alloc (.cells ((ps.map BA).map Value.string).toArray 9) = W := ⟨_, rfl⟩
  have hb1 : Below w.heap.size w W1 := by rw [← hW1]; exact (Below.refl _ w).alloc (Nat.le_refl _) _
  have hP : PRead W1 (.slice (some ⟨w.heap.size, 0, none⟩) ps.length ps.length) ps := by
    refine ⟨by have := h.few; omega, w.heap.size, _, rfl, fun i hi => ?_⟩
    have h2 := heap_alloc_new w (.cells ((ps.map BA).map Value.string).toArray 9)
    rw [hW1] at h2
    rw [(show Blk W1 w.heap.size 9 ((ps.map BA).map Value.string) from h2).cell i]
    simp [hi]
  rw [hW1] at hsplit
  have h6 : ((6 : Int) == 0) = false := rfl
  have hN : ∀ W : World, Calls Tryz.prog 34 #[.int .i64 6, .string ⟨#[112, 97, 116, 104]⟩] W fun e w' => e = .returned (.iface 107 (.pointer (some ⟨W.heap.size, 0, none⟩))) ∧ w' = W.alloc (.cells #[.string ⟨#[112, 97, 116, 104]⟩, .iface 32 (.int .i64 6)] 109) := fun W => faultNew_some 6 _ W h6
  have hfin : ∀ W : World, Chain (W.alloc (.cells #[.string ⟨#[112, 97, 116, 104]⟩, .iface 32 (.int .i64 6)] 109)) 1 (.iface 107 (.pointer (some ⟨W.heap.size, 0, none⟩))) 6 := fun W => ⟨W.heap.size, _, _, rfl, heap_alloc_new W _, rfl⟩
  have hcont := pcont_any ps _ W1 hP hok
  have hval := trivial
  have H0 := Lib.hid (And.intro hcont (And.intro hval (And.intro hb1 (And.intro hN hfin))))
  obtain ⟨n, hn⟩ : ∃ n, ps.length = n := ⟨_, rfl⟩
  have hn8 := h.few
  rw [hn] at hsplit H0 hn8
  have hgt : (8 : Int) < (n : Int) := by omega
  obtain ⟨X, hX⟩ : ∃ X, BA s = X := ⟨_, rfl⟩
  rw [hX] at hsplit ⊢
  (try rw [hX] at H0)
  unfold dotS at hsplit
  clear hcont hval hP hb1 hn hX hm hW1 h hbad h6 hN hfin
  go_enter Tryz.func10, Tryz.ntmps10
  go_wp2_with fail
  refine (show Calls _ _ _ _ _ from hsplit).mono ?_
  rintro e w2 ⟨rfl, rfl⟩
  clear hsplit
  go_wp2_with fail
  refine (show Calls _ _ _ _ _ from H0.out.1).mono ?_
  rintro e w3 ⟨rfl, rfl⟩
  clear hok
  go_wp2_with fail
  refine (show Calls _ _ _ _ _ from H0.out.2.2.2.1 _).mono ?_
  rintro e w5 ⟨rfl, rfl⟩
  go_wp2
  go_ret2
  exact ⟨_, rfl, H0.out.2.2.2.2 _, H0.out.2.2.1.alloc H0.out.2.2.1.size _⟩

set_option maxHeartbeats 2000000 in
set_option maxRecDepth 100000 in
theorem parse_invalid (s : BL) (ps : List BL) (h : Cut s ps) (hok : ∀ p ∈ ps, 1 ≤ p.length ∧ p.length ≤ 32) (hfew : ps.length ≤ 8) (hbad : Lib.validD s = false) (w : World) (hT : Tabs w) (hM : ML w) :
    Calls Tryz.prog 10 #[.string (BA s)] w fun e w' => ∃ v, e = .returned (.tuple #[.slice none 0 0, v]) ∧ Chain w' 1 v 6 ∧ Below w.heap.size w w' := by
  obtain ⟨m, hm⟩ := hM
  have hsplit := Tryz.strings_Split (BA s) dotS m w (by rw [ba_size]; have := h.small; omega) hm (by decide)
  rw [h.split, h.count] at hsplit
  obtain ⟨W1, hW1⟩ : ∃ W, w.alloc (.cells ((ps.map BA).map Value.string).toArray 9) = W := ⟨_, rfl⟩
  have hb1 : Below w.heap.size w W1 := by rw [← hW1]; exact (Below.refl _ w).alloc (Nat.le_refl _) _
  have hP : PRead W1 (.slice (some ⟨w.heap.size, 0, none⟩) ps.length ps.length) ps := by
    refine ⟨by have := h.few; omega, w.heap.size, _, rfl, fun i hi => ?_⟩
    have h2 := heap_alloc_new w (.cells ((ps.map BA).map Value.string).toArray 9)
    rw [hW1] at h2
    rw [(show Blk W1 w.heap.size 9 ((ps.map BA).map Value.string) from h2).cell i]
    simp [hi]
  rw [hW1] at hsplit
  have h6 : ((6 : Int) == 0) = false := rfl
  have hN : ∀ W : World, Calls Tryz.prog 34 #[.int .i64 6, .string ⟨#[112, 97, 116, 104]⟩] W fun e w' => e = .returned (.iface 107 (.pointer (some ⟨W.heap.size, 0, none⟩))) ∧ w' = W.alloc (.cells #[.string ⟨#[112, 97, 116, 104]⟩, .iface 32 (.int .i64 6)] 109) := fun W => faultNew_some 6 _ W h6
  have hfin : ∀ W : World, Chain (W.alloc (.cells #[.string ⟨#[112, 97, 116, 104]⟩, .iface 32 (.int .i64 6)] 109)) 1 (.iface 107 (.pointer (some ⟨W.heap.size, 0, none⟩))) 6 := fun W => ⟨W.heap.size, _, _, rfl, heap_alloc_new W _, rfl⟩
  have hcont := pcont_any ps _ W1 hP hok
  have hval := valid_any (BA s) W1 (by rw [ba_size]; have := h.small; omega) (hT.below hb1)
  rw [show (BA s).data.toList = s by simp, hbad] at hval
  have H0 := Lib.hid (And.intro hcont (And.intro hval (And.intro hb1 (And.intro hN hfin))))
  obtain ⟨n, hn⟩ : ∃ n, ps.length = n := ⟨_, rfl⟩
  have hn8 := h.few
  rw [hn] at hsplit H0 hn8
  have hgt : ¬ (8 : Int) < (n : Int) := by omega
  clear hfew
  obtain ⟨X, hX⟩ : ∃ X, BA s = X := ⟨_, rfl⟩
  rw [hX] at hsplit ⊢
  (try rw [hX] at H0)
  unfold dotS at hsplit
  clear hcont hval hP hb1 hn hX hm hW1 h hbad h6 hN hfin hT
  go_enter Tryz.func10, Tryz.ntmps10
  go_wp2_with fail
  refine (show Calls _ _ _ _ _ from hsplit).mono ?_
  rintro e w2 ⟨rfl, rfl⟩
  clear hsplit
  go_wp2_with fail
  refine (show Calls _ _ _ _ _ from H0.out.1).mono ?_
  rintro e w3 ⟨rfl, rfl⟩
  clear hok
  go_wp2_with fail
  refine (show Calls _ _ _ _ _ from H0.out.2.1).mono ?_
  rintro e w4 ⟨rfl, hb4⟩
  have H4 := Lib.hid (H0.out.2.2.1.trans (hb4.mono H0.out.2.2.1.size))
  clear hb4
  go_wp2_with fail
  refine (show Calls _ _ _ _ _ from H0.out.2.2.2.1 _).mono ?_
  rintro e w5 ⟨rfl, rfl⟩
  go_wp2
  go_ret2
  exact ⟨_, rfl, H0.out.2.2.2.2 _, H4.out.alloc H4.out.size _⟩

theorem parse_no (s : BL) (ps : List BL) (h : Cut s ps) (hbad : noPath s ps) (w : World) (hT : Tabs w) (hM : ML w) :
    Calls Tryz.prog 10 #[.string (BA s)] w fun e w' => ∃ v, e = .returned (.tuple #[.slice none 0 0, v]) ∧ Chain w' 1 v 6 ∧ Below w.heap.size w w' := by
  by_cases ho : ∃ (j : Nat) (hj : j < ps.length), oddP ps[j].length
  · exact parse_odd s ps h ho w hT hM
  · have hok : ∀ p ∈ ps, 1 ≤ p.length ∧ p.length ≤ 32 := fun p hp => by
      obtain ⟨j, hj, rfl⟩ := List.mem_iff_getElem.1 hp
      by_cases h1 : oddP ps[j].length
      · exact absurd ⟨j, hj, h1⟩ ho
      · unfold oddP at h1; omega
    by_cases h8 : 8 < ps.length
    · exact parse_many s ps h hok h8 w hT hM
    · refine parse_invalid s ps h hok (by omega) ?_ w hT hM
      rcases hbad with h1 | h1 | h1
      · exact absurd h1 ho
      · exact absurd h1 h8
      · exact h1

set_option maxHeartbeats 4000000 in
set_option maxRecDepth 100000 in
theorem ikey_no (N : ByteArray) (u : Bool) (s : BL) (ps : List BL) (h : Cut s ps) (hbad : noPath s ps) (c : List Value) (v : V) (S : Nat → Prop) (w : World) (hv : VAt S w v c) (hT : Tabs w) (hM : ML w) :
    Calls Tryz.prog 13 #[.agg #[.string N, .string (BA s), .bool u], .agg c.toArray] w fun e w' => e = .returned (OptK none) ∧ Below w.heap.size w w' := by
  obtain ⟨q0, q1, q2, q3, q4, q5, q6, q7, q8, rfl⟩ := hv.shape
  obtain ⟨W0, hW0⟩ : ∃ W0, (w.alloc (.cells #[.string N, .string (BA s), .bool u] 23)).alloc (.cells #[.int .i64 q0, .int .i64 q1, .string q2, .slice q3 q4 q5, .slice q6 q7 q8] 40) = W0 := ⟨_, rfl⟩
  have hb0 : Below w.heap.size w W0 := by rw [← hW0]; exact ((Below.refl _ w).alloc (Nat.le_refl _) _).alloc (by simp) _
  have hcall := parse_no s ps h hbad W0 (hT.below hb0) (hM.later hb0)
  have H0 := Lib.hid (And.intro hW0 (And.intro hb0 hcall))
  obtain ⟨X, hX⟩ : ∃ X, BA s = X := ⟨_, rfl⟩
  rw [hX] at H0 ⊢
  clear hW0 hb0 hcall hv hT hM hX h hbad
  go_enter Tryz.func13, Tryz.ntmps13
  go_wp2_with fail
  rw [H0.out.1]
  refine (show Calls _ _ _ _ _ from H0.out.2.2).mono ?_
  rintro e w2 ⟨sl, rfl, ⟨b, t, z, rfl, _⟩, hb2⟩
  have H2 := Lib.hid (H0.out.2.1.trans (hb2.mono H0.out.2.1.size))
  clear hb2
  go_wp2
  go_ret2
  exact ⟨rfl, H2.out⟩
end Go.Proofs.YtecnjifincahaaaGreatDoor
