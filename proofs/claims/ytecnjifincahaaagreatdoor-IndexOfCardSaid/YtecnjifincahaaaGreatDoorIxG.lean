/- index.Key: the key of what stands at the end of a path. -/
import Derived.Test.YtecnjifincahaaaGreatDoorIxF
namespace Go.Proofs.YtecnjifincahaaaGreatDoor
open Go.Shelf Go.RowKit Go.Lib

/-- a key, or none. -/
def OptK : Option V → Value
  | some x => .tuple #[.string (BA (keyL x)), .bool true]
  | none => .tuple #[.string ⟨#[]⟩, .bool false]

set_option maxHeartbeats 8000000 in
set_option maxRecDepth 100000 in
theorem ikey_any (N : ByteArray) (u : Bool) (s : BL) (ps : List BL) (h : IsPath s ps) (v : V) (hs : smallV v) (S : Nat → Prop) (w : World) (c : List Value) (hv : VAt S w v c) (hS : ∀ b, S b → b < w.heap.size) (hE : ErrV w) (hT : Tabs w) (hM : ML w) (hK : ∀ x, findP placeK v ps = some x → (keyL x).length ≤ 1000000) :
    Calls Tryz.prog 13 #[.agg #[.string N, .string (BA s), .bool u], .agg c.toArray] w fun e w' => e = .returned (OptK (findP placeK v ps)) ∧ Below w.heap.size w w' := by
  obtain ⟨q0, q1, q2, q3, q4, q5, q6, q7, q8, rfl⟩ := hv.shape
  obtain ⟨W0, hW0⟩ : ∃ W0, (w.alloc (.cells #[.string N, .string (BA s), .bool u] 23)).alloc (.cells #[.int .i64 q0, .int .i64 q1, .string q2, .slice q3 q4 q5, .slice q6 q7 q8] 40) = W0 := ⟨_, rfl⟩
  have hb0 : Below w.heap.size w W0 := by rw [← hW0]; exact ((Below.refl _ w).alloc (Nat.le_refl _) _).alloc (by simp) _
  have hk1 : Blk W0 (w.heap.size + 1) 40 [.int .i64 q0, .int .i64 q1, .string q2, .slice q3 q4 q5, .slice q6 q7 q8] := by rw [← hW0]; exact blk_new2 w _ _ _
  have hcall := parse_any s ps h W0 (hT.below hb0) (hM.later hb0)
  have hpl : ∀ p ∈ ps, p.length ≤ 1000000 := fun p hp => by have := h.ok p hp; omega
  obtain ⟨P, hP⟩ : ∃ P, w.heap.size + 1 = P := ⟨_, rfl⟩
  rw [hP] at hk1
  have H0 := Lib.hid (And.intro hW0 (And.intro hb0 (And.intro hcall (And.intro hk1 (And.intro hP (And.intro hpl (And.intro hs (And.intro hv (And.intro hS (And.intro hE (And.intro hT (And.intro hM hK))))))))))))
  obtain ⟨X, hX⟩ : ∃ X, BA s = X := ⟨_, rfl⟩
  rw [hX] at H0 ⊢
  clear hW0 hb0 hcall hk1 hpl hs hv hS hE hT hM hK hX h hP
  go_enter Tryz.func13, Tryz.ntmps13
  go_wp2_with fail
  rw [H0.out.1]
  refine (show Calls _ _ _ _ _ from H0.out.2.2.1).mono ?_
  rintro e w2 ⟨sl, rfl, hsl, hb2⟩
  have hbw := H0.out.2.1.trans (hb2.mono H0.out.2.1.size)
  have hbk := H0.out.2.2.2.1.below hb2
  have hcall := pfind_any v ps H0.out.2.2.2.2.2.1 H0.out.2.2.2.2.2.2.1 S w2 _ sl (H0.out.2.2.2.2.2.2.2.1.later hbw) (fun b hb => Nat.lt_of_lt_of_le (H0.out.2.2.2.2.2.2.2.2.1 b hb) hbw.size) (H0.out.2.2.2.2.2.2.2.2.2.1.later hbw) hsl
  have H2 := Lib.hid hbw
  rw [H0.out.2.2.2.2.1]
  have b0 := hbk.cell 0
  have b1 := hbk.cell 1
  have b2 := hbk.cell 2
  have b3 := hbk.cell 3
  have b4 := hbk.cell 4
  clear hb2 hbw hbk hsl
  have hKK := Lib.hid H0.out.2.2.2.2.2.2.2.2.2.2.2.2
  cases hr : findP placeK v ps with
  | none =>
    rw [hr] at hcall
    have HC := Lib.hid (show Calls _ _ _ _ (fun e w' => e = .returned (.tuple #[.agg #[.int .i64 0, .int .i64 0, .string ⟨#[]⟩, .slice none 0 0, .slice none 0 0], .bool false]) ∧ Below w2.heap.size w2 w') from hcall)
    have HRR := Lib.hid hr
    clear hcall hr
    go_wp2_with fail
    refine HC.out.mono ?_
    rintro e w3 ⟨rfl, hb3⟩
    have H3 := Lib.hid ((H2.out.trans (hb3.mono H2.out.size)).alloc (o := .cells #[.int .i64 0, .int .i64 0, .string ⟨#[]⟩, .slice none 0 0, .slice none 0 0] 40) (Nat.le_trans H2.out.size hb3.size))
    clear hb3 b0 b1 b2 b3 b4
    go_wp2
    go_ret2
    exact ⟨by rw [HRR.out]; rfl, H3.out⟩
  | some x =>
    rw [hr] at hcall
    have HC := Lib.hid (show Calls _ _ _ _ (fun e w' => ∃ d, e = .returned (.tuple #[.agg d.toArray, .bool true]) ∧ VAt S w' x d ∧ Below w2.heap.size w2 w') from hcall)
    have HKX := Lib.hid (hKK.out x hr)
    have HRR := Lib.hid hr
    clear hcall hr
    go_wp2_with fail
    refine HC.out.mono ?_
    rintro e w3 ⟨d, rfl, hd, hb3⟩
    obtain ⟨d0, d1, d2, d3, d4, d5, d6, d7, d8, rfl⟩ := hd.shape
    obtain ⟨w4, hw4⟩ : ∃ W, w3.alloc (.cells #[.int .i64 d0, .int .i64 d1, .string d2, .slice d3 d4 d5, .slice d6 d7 d8] 40) = W := ⟨_, rfl⟩
    have hb34 : Below w3.heap.size w3 w4 := by rw [← hw4]; exact (Below.refl _ w3).alloc (Nat.le_refl _) _
    have hbw4 := (H2.out.trans (hb3.mono H2.out.size)).trans (hb34.mono (Nat.le_trans H2.out.size hb3.size))
    have hcall := kput_v x S w4 _ (hd.later hb34) (H0.out.2.2.2.2.2.2.2.2.2.2.2.1.later hbw4) HKX.out
    have H4 := Lib.hid (And.intro hw4 (And.intro hbw4 hcall))
    clear hb3 b0 b1 b2 b3 b4 hd hb34 hbw4 hcall hw4
    go_wp2_with fail
    rw [H4.out.1]
    refine (show Calls _ _ _ _ _ from H4.out.2.2).mono ?_
    rintro e w5 ⟨rfl, hb5⟩
    have H5 := Lib.hid (H4.out.2.1.trans (hb5.mono H4.out.2.1.size))
    clear hb5
    go_wp2
    go_ret2
    exact ⟨by rw [HRR.out]; rfl, H5.out⟩
end Go.Proofs.YtecnjifincahaaaGreatDoor
