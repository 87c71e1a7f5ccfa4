/- How deep a value is: one in another (printed by wip/gen_jny.py). -/
import Derived.Test.YtccnfnoonpfdfaaGreatDoorJnX
namespace Go.Proofs.YtccnfnoonpfdfaaGreatDoor
open Go.Shelf Go.RowKit Go.Lib

def DepC (W : World) (c : List Value) (d : Int) : Prop := Calls Tryz.prog 16 #[.agg c.toArray] W fun e w' => e = .returned (.int .i64 d) ∧ Below W.heap.size W w'
set_option maxHeartbeats 4000000 in
set_option maxRecDepth 100000 in
theorem depth_fn (m d : Int) (hmd : m ≤ d) (pb : Nat) (q0 q1 : Int) (q2 : ByteArray) (q3 : Option Addr) (q4 q5 : Nat) (q6 : Option Addr) (q7 q8 : Nat) (W : World) (hc : Blk W pb 3 [.int .i64 m]) (ih : ∀ T, Below W.heap.size W T → DepC T [.int .i64 q0, .int .i64 q1, .string q2, .slice q3 q4 q5, .slice q6 q7 q8] d) :
    Calls Tryz.prog 36 #[.agg #[.int .i64 q0, .int .i64 q1, .string q2, .slice q3 q4 q5, .slice q6 q7 q8], .pointer (some ⟨pb, 0, none⟩)] W fun e w' => e = .returned (.tuple #[]) ∧ Blk w' pb 3 [.int .i64 d] ∧ Only (· = pb) W w' := by
  obtain ⟨bx, hbx⟩ : ∃ b, W.heap.size = b := ⟨_, rfl⟩
  obtain ⟨W1, hW1⟩ : ∃ X, W.alloc (.cells #[.int .i64 q0, .int .i64 q1, .string q2, .slice q3 q4 q5, .slice q6 q7 q8] 28) = X := ⟨_, rfl⟩
  have hk1 : Blk W1 bx 28 [.int .i64 q0, .int .i64 q1, .string q2, .slice q3 q4 q5, .slice q6 q7 q8] := by rw [← hW1, ← hbx]; exact heap_alloc_new W _
  have hb1 : Below W.heap.size W W1 := by rw [← hW1]; exact (Below.refl _ W).alloc (Nat.le_refl _) _
  have hcall := ih W1.drew (hb1.trans ((Only.drew (fun _ => False) W1).below hb1.size (fun _ _ h => h)))
  have HC := Lib.hid hcall
  have HN := Lib.hid (And.intro hk1 (And.intro (hc.below hb1) (And.intro hb1 (And.intro hbx hW1))))
  have hpl := hc.lt
  rw [hbx] at hpl
  have hne : ¬ pb = bx := by omega
  have hmx : max m d = d := by omega
  have hlt : (m < d) = (m < d) := rfl
  clear hcall hk1 hb1 hc ih hlt hW1
  go_enter Tryz.func36, Tryz.ntmps36
  go_wp2_with fail
  rw [HN.out.2.2.2.2]
  (try rw [HN.out.2.2.2.1])
  refine AnyP.begin (J := fun j => Nat.ble j 3) (S := fun X => Blk X bx 28 [.int .i64 q0, .int .i64 q1, .string q2, .slice q3 q4 q5, .slice q6 q7 q8] ∧ Blk X pb 3 [.int .i64 m]) (by kernel_rfl) rfl rfl ?_
  refine AnyP.takeT [1, 2] (by rfl) (i := 0) (v := .int .i64 m) rfl rfl (by kernel_rfl) (by kernel_rfl) (by kernel_rfl) (by kernel_rfl) (fun _ _ _ h => h) (by rfl) ?_ ⟨HN.out.1.drew, HN.out.2.1.drew⟩ ?_
  · intro W hW
    have n0 := hW.2.cell 0
    go_simp
    try (with_reducible rfl)
  simp only [Act.put, List.setIfInBounds_toArray, List.set_cons_zero, List.set_cons_succ]
  refine AnyP.takeT [] (by rfl) (i := 1) (v := .agg #[.int .i64 q0, .int .i64 q1, .string q2, .slice q3 q4 q5, .slice q6 q7 q8]) rfl rfl (by kernel_rfl) (by kernel_rfl) (by kernel_rfl) (by kernel_rfl) (fun _ _ _ h => h) (by rfl) ?_ ⟨HN.out.1.drew, HN.out.2.1.drew⟩ ?_
  · intro W hW
    have n0 := hW.1.cell 0
    have n1 := hW.1.cell 1
    have n2 := hW.1.cell 2
    have n3 := hW.1.cell 3
    have n4 := hW.1.cell 4
    go_simp
    try (with_reducible rfl)
  simp only [Act.put, List.setIfInBounds_toArray, List.set_cons_zero, List.set_cons_succ]
  refine AnyP.oneL (i := 2) (by kernel_rfl) rfl (fun K hK => ?_)
  go_simp
  refine (show Calls _ _ _ _ _ from HC.out).mono ?_
  rintro e w5 ⟨rfl, hb5⟩
  refine hK.out _ _ (fun _ h => ⟨h.1.below hb5, h.2.below hb5⟩) ?_
  clear hK K
  (try simp only [Act.put, List.setIfInBounds_toArray, List.set_cons_zero, List.set_cons_succ])
  refine AnyP.oneL (i := 3) (by kernel_rfl) rfl (fun K hK => ?_)
  go_simp
  refine hK.out _ _ (fun _ h => h) ?_
  clear hK K
  (try simp only [Act.put, List.setIfInBounds_toArray, List.set_cons_zero, List.set_cons_succ])
  have p5 := HN.out.2.1.drew.below hb5
  have p50 := p5.cell 0
  have p5f := p5.frozen 0
  refine AnyP.oneL (i := 4) (by kernel_rfl) rfl (fun K hK => ?_)
  go_simp
  refine hK.out _ _ (fun h => by cases h) ?_
  clear hK K
  (try simp only [Act.put, List.setIfInBounds_toArray, List.set_cons_zero, List.set_cons_succ])
  refine AnyP.done (by kernel_rfl) ?_
  go_wp2
  go_end0
  have hset := p5.set 0 (.int .i64 d)
  refine ⟨by first | rfl | simp, hset, ?_⟩
  exact (Only.ofBelow HN.out.2.2.1 _).trans (((Only.drew _ _).trans (Only.ofBelow hb5 _)).trans (Only.set1 _ _ _ _))

set_option maxHeartbeats 4000000 in
set_option maxRecDepth 100000 in
theorem inner_list (m d : Int) (hmd : m ≤ d) (pb b cap : Nat) (q0 q1 : Int) (q2 : ByteArray) (q3 : Option Addr) (q4 q5 : Nat) (q6 : Option Addr) (q7 q8 : Nat) (W : World) (hc : Blk W pb 3 [.int .i64 m])
    (hr : ∀ k u, ([.int .i64 q0, .int .i64 q1, .string q2, .slice q3 q4 q5, .slice q6 q7 q8] : List Value)[k]? = some u → W.cell? ⟨b, k, none⟩ = some u) (ih : ∀ T, Below W.heap.size W T → DepC T [.int .i64 q0, .int .i64 q1, .string q2, .slice q3 q4 q5, .slice q6 q7 q8] d) :
    Calls Tryz.prog 35 #[.agg #[.int .i64 4, .int .i64 0, .string ⟨#[]⟩, .slice (some ⟨b, 0, none⟩) 1 cap, .slice none 0 0], .func (.func 36) #[] #[.pointer (some ⟨pb, 0, none⟩)]] W fun e w' => e = .returned (.tuple #[]) ∧ Blk w' pb 3 [.int .i64 d] ∧ Only (· = pb) W w' := by
  have H := Lib.hid (And.intro hc (And.intro hr ih))
  clear hc hr ih
  go_enter Tryz.func35, Tryz.ntmps35
  go_wp2_with fail
  go_loopg [15] 1 (fun gk iv wr => ∃ (i : Nat), gk + i = 1 ∧ iv = .int .i64 i ∧ Hid ((i = 0 → Below W.heap.size W wr) ∧ (i = 1 → Blk wr pb 3 [.int .i64 d] ∧ Only (· = pb) W wr)))
  case atStart => exact ⟨0, rfl, rfl, Lib.hid ⟨fun _ => by first | exact Below.refl _ _ | exact (Below.refl _ W).alloc (Nat.le_refl _) _, fun h => by omega⟩⟩
  case round =>
    obtain ⟨i, hg, rfl, HC⟩ := hrel
    by_cases hi : i < 1
    · have h0 : i = 0 := by omega
      subst h0
      have hb := HC.out.1 rfl
      have hiz : ((0 : Nat) : Int) < 1 := by omega
      have n0 := bcell hb (H.out.2.1 0 _ rfl)
      have n1 := bcell hb (H.out.2.1 1 _ rfl)
      have n2 := bcell hb (H.out.2.1 2 _ rfl)
      have n3 := bcell hb (H.out.2.1 3 _ rfl)
      have n4 := bcell hb (H.out.2.1 4 _ rfl)
      go_wp2_with fail
      have hb2 := hb.trans (((Below.refl _ wr).alloc (Nat.le_refl _) (.cells #[.int .i64 q0, .int .i64 q1, .string q2, .slice q3 q4 q5, .slice q6 q7 q8] 28)).mono hb.size)
      have HB2 := Lib.hid hb2
      refine (show Calls _ _ _ _ _ from depth_fn m d hmd pb q0 q1 q2 q3 q4 q5 q6 q7 q8 _ (H.out.1.below hb2) (fun T hT => H.out.2.2 T (HB2.out.trans (hT.mono HB2.out.size)))).mono ?_
      rintro e w4 ⟨rfl, hd4, ho4⟩
      have HF := Lib.hid (And.intro hd4 ((Only.ofBelow HB2.out (· = pb)).trans ho4))
      clear hb2 hd4 ho4 n0 n1 n2 n3 n4 hb
      go_wp2
      go_roundg (gk - 1)
      case rel => exact ⟨1, by omega, rfl, Lib.hid ⟨fun h => by omega, fun _ => HF.out⟩⟩
      case measure => omega
    · have h1 : i = 1 := by omega
      subst h1
      have hiz : ¬ ((1 : Nat) : Int) < 1 := by omega
      go_wp2
      go_end0
      exact ⟨rfl, HC.out.2 (by trivial)⟩

set_option maxHeartbeats 4000000 in
set_option maxRecDepth 100000 in
theorem inner_obj (m d : Int) (hmd : m ≤ d) (pb b cap : Nat) (nm : ByteArray) (q0 q1 : Int) (q2 : ByteArray) (q3 : Option Addr) (q4 q5 : Nat) (q6 : Option Addr) (q7 q8 : Nat) (W : World) (hc : Blk W pb 3 [.int .i64 m])
    (hr : ∀ k u, ([.string nm, .int .i64 q0, .int .i64 q1, .string q2, .slice q3 q4 q5, .slice q6 q7 q8] : List Value)[k]? = some u → W.cell? ⟨b, k, none⟩ = some u) (ih : ∀ T, Below W.heap.size W T → DepC T [.int .i64 q0, .int .i64 q1, .string q2, .slice q3 q4 q5, .slice q6 q7 q8] d) :
    Calls Tryz.prog 35 #[.agg #[.int .i64 5, .int .i64 0, .string ⟨#[]⟩, .slice none 0 0, .slice (some ⟨b, 0, none⟩) 1 cap], .func (.func 36) #[] #[.pointer (some ⟨pb, 0, none⟩)]] W fun e w' => e = .returned (.tuple #[]) ∧ Blk w' pb 3 [.int .i64 d] ∧ Only (· = pb) W w' := by
  have H := Lib.hid (And.intro hc (And.intro hr ih))
  clear hc hr ih
  go_enter Tryz.func35, Tryz.ntmps35
  go_wp2_with fail
  go_loopg [28] 1 (fun gk iv wr => ∃ (i : Nat), gk + i = 1 ∧ iv = .int .i64 i ∧ Hid ((i = 0 → Below W.heap.size W wr) ∧ (i = 1 → Blk wr pb 3 [.int .i64 d] ∧ Only (· = pb) W wr)))
  case atStart => exact ⟨0, rfl, rfl, Lib.hid ⟨fun _ => by first | exact Below.refl _ _ | exact (Below.refl _ W).alloc (Nat.le_refl _) _, fun h => by omega⟩⟩
  case round =>
    obtain ⟨i, hg, rfl, HC⟩ := hrel
    by_cases hi : i < 1
    · have h0 : i = 0 := by omega
      subst h0
      have hb := HC.out.1 rfl
      have hiz : ((0 : Nat) : Int) < 1 := by omega
      have n0 := bcell hb (H.out.2.1 0 _ rfl)
      have n1 := bcell hb (H.out.2.1 1 _ rfl)
      have n2 := bcell hb (H.out.2.1 2 _ rfl)
      have n3 := bcell hb (H.out.2.1 3 _ rfl)
      have n4 := bcell hb (H.out.2.1 4 _ rfl)
      have n5 := bcell hb (H.out.2.1 5 _ rfl)
      go_wp2_with fail
      have hb2 := hb.trans (((Below.refl _ wr).alloc (Nat.le_refl _) (.cells #[.string nm, .int .i64 q0, .int .i64 q1, .string q2, .slice q3 q4 q5, .slice q6 q7 q8] 51)).mono hb.size)
      have HB2 := Lib.hid hb2
      refine (show Calls _ _ _ _ _ from depth_fn m d hmd pb q0 q1 q2 q3 q4 q5 q6 q7 q8 _ (H.out.1.below hb2) (fun T hT => H.out.2.2 T (HB2.out.trans (hT.mono HB2.out.size)))).mono ?_
      rintro e w4 ⟨rfl, hd4, ho4⟩
      have HF := Lib.hid (And.intro hd4 ((Only.ofBelow HB2.out (· = pb)).trans ho4))
      clear hb2 hd4 ho4 n0 n1 n2 n3 n4 n5 hb
      go_wp2
      go_roundg (gk - 1)
      case rel => exact ⟨1, by omega, rfl, Lib.hid ⟨fun h => by omega, fun _ => HF.out⟩⟩
      case measure => omega
    · have h1 : i = 1 := by omega
      subst h1
      have hiz : ¬ ((1 : Nat) : Int) < 1 := by omega
      go_wp2
      go_end0
      exact ⟨rfl, HC.out.2 (by trivial)⟩

set_option maxHeartbeats 4000000 in
set_option maxRecDepth 100000 in
theorem inner_int (n : Int) (u : Value) (W : World) :
    Calls Tryz.prog 35 #[.agg #[.int .i64 2, .int .i64 n, .string ⟨#[]⟩, .slice none 0 0, .slice none 0 0], u] W fun e w' => e = .returned (.tuple #[]) ∧ Below W.heap.size W w' := by
  go_enter Tryz.func35, Tryz.ntmps35
  go_wp2
  go_end0
  exact ⟨rfl, (Below.refl _ W).alloc (Nat.le_refl _) _⟩

set_option maxHeartbeats 4000000 in
set_option maxRecDepth 100000 in
theorem depth_step (q0 q1 : Int) (q2 : ByteArray) (q3 : Option Addr) (q4 q5 : Nat) (q6 : Option Addr) (q7 q8 : Nat) (d : Int) (hd : 0 ≤ d ∧ d ≤ 1000) (W : World)
    (hin : ∀ T pb, Below W.heap.size W T → W.heap.size ≤ pb → Blk T pb 3 [.int .i64 0] → Calls Tryz.prog 35 #[.agg #[.int .i64 q0, .int .i64 q1, .string q2, .slice q3 q4 q5, .slice q6 q7 q8], .func (.func 36) #[] #[.pointer (some ⟨pb, 0, none⟩)]] T fun e w' => e = .returned (.tuple #[]) ∧ Blk w' pb 3 [.int .i64 d] ∧ Only (· = pb) T w') :
    DepC W [.int .i64 q0, .int .i64 q1, .string q2, .slice q3 q4 q5, .slice q6 q7 q8] (d + 1) := by
  unfold DepC
  obtain ⟨W1, hW1⟩ : ∃ X, W.alloc (.cells #[.int .i64 q0, .int .i64 q1, .string q2, .slice q3 q4 q5, .slice q6 q7 q8] 28) = X := ⟨_, rfl⟩
  obtain ⟨pb, hpb⟩ : ∃ b, W1.heap.size = b := ⟨_, rfl⟩
  obtain ⟨W2, hW2⟩ : ∃ X, W1.alloc (.cells #[.int .i64 0] 3) = X := ⟨_, rfl⟩
  have hb1 : Below W.heap.size W W1 := by rw [← hW1]; exact (Below.refl _ W).alloc (Nat.le_refl _) _
  have hb2 : Below W.heap.size W W2 := by rw [← hW2]; exact hb1.alloc hb1.size _
  have hk : Blk W2 pb 3 [.int .i64 0] := by rw [← hW2, ← hpb]; exact heap_alloc_new W1 _
  have hp2 : W.heap.size + 1 = pb := by rw [← hpb, ← hW1]; show _ = (W.heap.push _).size; rw [Array.size_push]
  have hle : W.heap.size ≤ pb := by rw [← hpb]; exact hb1.size
  have hcall := hin W2 pb hb2 hle hk
  have HC := Lib.hid (And.intro hcall (And.intro hb2 (And.intro hle (And.intro hW1 (And.intro hp2 hW2)))))
  have hw : IntKind.i64.wrap (d + 1) = d + 1 := by rw [IntKind.wrap_i64]; omega
  clear hcall hb1 hb2 hk hle hin hpb hp2 hW2 hW1
  go_enter Tryz.func16, Tryz.ntmps16
  go_wp2_with fail
  rw [HC.out.2.2.2.1, HC.out.2.2.2.2.2, HC.out.2.2.2.2.1]
  refine (show Calls _ _ _ _ _ from HC.out.1).mono ?_
  rintro e w5 ⟨rfl, hd5, ho5⟩
  have n0 := hd5.cell 0
  have HF := Lib.hid (HC.out.2.1.trans (ho5.below HC.out.2.1.size (fun k hk e => by have := HC.out.2.2.1; omega)))
  clear hd5 ho5
  go_wp2
  go_ret
  exact ⟨by first | rfl | simp, HF.out⟩
/-- the values that JsonDeep makes. -/
theorem depth_nest (o : Bool) : ∀ (k : Nat), k ≤ 24 → ∀ (S : Nat → Prop) (W : World) (c : List Value), VAt S W (nestV o k) c → DepC W c ((k : Int) + 1)
  | 0, _, S, W, c, h => by
    rw [nestV] at h
    cases h
    refine depth_step _ _ _ _ _ _ _ _ _ 0 (by omega) W ?_
    intro T pb hb hle hk
    exact (inner_int 7 _ T).mono fun e w' ⟨he, hw⟩ => ⟨he, hk.below hw, Only.ofBelow hw _⟩
  | k + 1, hk24, S, W, c, h => by
    have ih := depth_nest o k (by omega)
    rw [nestV] at h
    rw [show ((k + 1 : Nat) : Int) = (k : Int) + 1 by omega]
    cases o with
    | true =>
      rw [if_pos rfl] at h
      cases h with
      | obj l cs sl hv hr =>
        cases hv with
        | cons nm v l c0 c1 c2 c3 c4 cs hx t =>
          cases t
          obtain ⟨q0, q1, q2, q3, q4, q5, q6, q7, q8, hq⟩ := hx.shape
          simp only [List.cons.injEq, and_true] at hq
          obtain ⟨rfl, rfl, rfl, rfl, rfl⟩ := hq
          obtain ⟨_, ⟨h0, _⟩ | ⟨b, cap, rfl, _, hcell⟩⟩ := hr
          · simp at h0
          · refine depth_step _ _ _ _ _ _ _ _ _ ((k : Int) + 1) (by omega) W ?_
            intro T pb hb hle hk
            exact inner_obj 0 _ (by omega) pb b cap _ q0 q1 q2 q3 q4 q5 q6 q7 q8 T hk (fun j u hu => bcell hb (hcell j u hu)) (fun T2 hT2 => ih S T2 _ ((hx.later hb).later hT2))
    | false =>
      rw [if_neg (by decide)] at h
      cases h with
      | list l cs sl hv hr =>
        cases hv with
        | cons v l c0 c1 c2 c3 c4 cs hx t =>
          cases t
          obtain ⟨q0, q1, q2, q3, q4, q5, q6, q7, q8, hq⟩ := hx.shape
          simp only [List.cons.injEq, and_true] at hq
          obtain ⟨rfl, rfl, rfl, rfl, rfl⟩ := hq
          obtain ⟨_, ⟨h0, _⟩ | ⟨b, cap, rfl, _, hcell⟩⟩ := hr
          · simp at h0
          · refine depth_step _ _ _ _ _ _ _ _ _ ((k : Int) + 1) (by omega) W ?_
            intro T pb hb hle hk
            exact inner_list 0 _ (by omega) pb b cap q0 q1 q2 q3 q4 q5 q6 q7 q8 T hk (fun j u hu => bcell hb (hcell j u hu)) (fun T2 hT2 => ih S T2 _ ((hx.later hb).later hT2))
end Go.Proofs.YtccnfnoonpfdfaaGreatDoor
