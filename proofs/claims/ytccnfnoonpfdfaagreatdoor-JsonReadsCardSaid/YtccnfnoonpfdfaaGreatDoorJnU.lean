/- What the Json laws ask: awake (printed by wip/gen_jnu.py). -/
import Derived.Test.YtccnfnoonpfdfaaGreatDoorJnR
namespace Go.Proofs.YtccnfnoonpfdfaaGreatDoor
open Go.Shelf Go.RowKit Go.Lib

theorem parse_ok {s : BL} {v : V} (h : parseP s = .ok v) (S : ByteArray) (hS : BA s = S) (w : World) (hE : EG w) : Calls Tryz.prog 14 #[.string S] w fun e w' => ∃ q0 q1 q2 q3 q4 q5 q6 q7 q8, e = .returned (.tuple #[.agg #[.int .i64 q0, .int .i64 q1, .string q2, .slice q3 q4 q5, .slice q6 q7 q8], .nilIface]) ∧ VAt (fun b => w.heap.size ≤ b ∧ b < w'.heap.size) w' v [.int .i64 q0, .int .i64 q1, .string q2, .slice q3 q4 q5, .slice q6 q7 q8] ∧ Below w.heap.size w w' := by
  subst hS
  refine (parse_any' s w hE.1 hE.2).mono ?_
  intro e w' hp
  unfold ParsePost at hp
  rw [h] at hp
  obtain ⟨c, rfl, ⟨q0, q1, q2, q3, q4, q5, q6, q7, q8, rfl⟩, hv, hb⟩ := hp
  exact ⟨q0, q1, q2, q3, q4, q5, q6, q7, q8, rfl, hv, hb⟩
theorem parse_err {s : BL} {k : Nat} (h : parseP s = .error k) (S : ByteArray) (hS : BA s = S) (w : World) (hE : EG w) : Calls Tryz.prog 14 #[.string S] w fun e w' => ∃ t u, e = .returned (.tuple #[.agg #[.int .i64 0, .int .i64 0, .string ⟨#[]⟩, .slice none 0 0, .slice none 0 0], .iface t u]) ∧ Chain w' 1 (.iface t u) k ∧ Below w.heap.size w w' := by
  subst hS
  refine (parse_any' s w hE.1 hE.2).mono ?_
  intro e w' hp
  unfold ParsePost at hp
  rw [h] at hp
  obtain ⟨ev, rfl, hc, hb⟩ := hp
  obtain ⟨t, u, rfl⟩ := chain_iface hc
  exact ⟨t, u, rfl, hc, hb⟩
theorem print_ex1 : printV (.obj [([97], .list []), ([98], .int 1)]) = [123, 34, 97, 34, 58, 91, 93, 44, 34, 98, 34, 58, 49, 125] := by
  simp only [printV, joinF, tailF, printF, joinV, intL]
  rw [if_neg (by decide), digN]
  rfl

set_option maxHeartbeats 8000000 in
set_option maxRecDepth 100000 in
theorem jawake_any (w : World) (hE : EG w) : Calls Tryz.prog 10 #[] w fun e w' => e = .returned (.bool true) ∧ Below w.heap.size w w' := by
  have h1 := parse_ok jex1 ⟨#[123, 34, 98, 34, 58, 49, 44, 32, 34, 97, 34, 58, 91, 93, 125]⟩ rfl w hE
  have H := Lib.hid (And.intro h1 hE)
  clear h1 hE
  go_enter Tryz.func10, Tryz.ntmps10
  go_wp2_with fail
  refine H.out.1.mono ?_
  rintro e w1 ⟨q0, q1, q2, q3, q4, q5, q6, q7, q8, rfl, hv1, hb1⟩
  obtain ⟨N1, hN1⟩ : ∃ N, w1.heap.size = N := ⟨_, rfl⟩
  obtain ⟨W1, hW1⟩ : ∃ W, w1.alloc (.cells #[.int .i64 q0, .int .i64 q1, .string q2, .slice q3 q4 q5, .slice q6 q7 q8] 28) = W := ⟨_, rfl⟩
  have hbw1 : Below w.heap.size w W1 := by rw [← hW1]; exact hb1.alloc hb1.size _
  have k1 : Blk W1 N1 28 [.int .i64 q0, .int .i64 q1, .string q2, .slice q3 q4 q5, .slice q6 q7 q8] := by rw [← hW1, ← hN1]; exact heap_alloc_new w1 _
  have hv1' : VAt (fun b => w.heap.size ≤ b ∧ b < w1.heap.size) W1 (.obj [([97], .list []), ([98], .int 1)]) [.int .i64 q0, .int .i64 q1, .string q2, .slice q3 q4 q5, .slice q6 q7 q8] := by rw [← hW1]; exact hv1.later ((Below.refl _ w1).alloc (Nat.le_refl _) _)
  have h2 := parse_err (k := 4) (by exact jex2) ⟨#[49, 46, 48]⟩ rfl W1 (H.out.2.below hbw1)
  have H1 := Lib.hid (And.intro hW1 (And.intro hbw1 (And.intro k1 (And.intro hv1' h2))))
  clear hW1 hbw1 k1 hv1' h2 hb1 hv1
  go_wp2_with fail
  rw [H1.out.1]
  (try rw [hN1])
  clear hN1
  refine H1.out.2.2.2.2.mono ?_
  rintro e w2 ⟨t2, u2, rfl, hc2, hb2⟩
  obtain ⟨W2, hW2⟩ : ∃ W, w2.alloc (.cells #[.int .i64 0, .int .i64 0, .string ⟨#[]⟩, .slice none 0 0, .slice none 0 0] 28) = W := ⟨_, rfl⟩
  have hb2' : Below W1.heap.size W1 W2 := by rw [← hW2]; exact hb2.alloc hb2.size _
  have hbw2 := H1.out.2.1.trans (hb2'.mono H1.out.2.1.size)
  have hc2' : Chain W2 1 (.iface t2 u2) 4 := by rw [← hW2]; exact hc2.below ((Below.refl _ w2).alloc (Nat.le_refl _) _)
  have h3 := parse_err (k := 5) (by exact jex3) ⟨#[123, 34, 97, 34, 58, 49, 44, 34, 97, 34, 58, 50, 125]⟩ rfl W2 (H.out.2.below hbw2)
  have H2 := Lib.hid (And.intro hW2 (And.intro hbw2 (And.intro hb2' (And.intro hc2' h3))))
  clear hW2 hbw2 hb2' hc2' h3 hb2 hc2
  go_wp2_with fail
  rw [H2.out.1]
  refine H2.out.2.2.2.2.mono ?_
  rintro e w3 ⟨t3, u3, rfl, hc3, hb3⟩
  obtain ⟨W3, hW3⟩ : ∃ W, w3.alloc (.cells #[.int .i64 0, .int .i64 0, .string ⟨#[]⟩, .slice none 0 0, .slice none 0 0] 28) = W := ⟨_, rfl⟩
  have hb3' : Below W2.heap.size W2 W3 := by rw [← hW3]; exact hb3.alloc hb3.size _
  have hb13 : Below W1.heap.size W1 W3 := H2.out.2.2.1.trans (hb3'.mono H2.out.2.2.1.size)
  have hbw3 := H1.out.2.1.trans (hb13.mono H1.out.2.1.size)
  have hc3' : Chain W3 1 (.iface t3 u3) 5 := by rw [← hW3]; exact hc3.below ((Below.refl _ w3).alloc (Nat.le_refl _) _)
  have hpr := print_any _ _ W3 _ (H1.out.2.2.2.1.later hb13) (H.out.2.below hbw3) (by rw [print_ex1]; decide)
  unfold PrC at hpr
  rw [print_ex1] at hpr
  have k3 := H1.out.2.2.1.below hb13
  have H3 := Lib.hid (And.intro hW3 (And.intro hbw3 (And.intro hpr (And.intro (H2.out.2.2.2.1.below hb3') hc3'))))
  have k3' : Blk (w3.alloc (.cells #[.int .i64 0, .int .i64 0, .string ⟨#[]⟩, .slice none 0 0, .slice none 0 0] 28)) N1 28 [.int .i64 q0, .int .i64 q1, .string q2, .slice q3 q4 q5, .slice q6 q7 q8] := by rw [hW3]; exact k3
  have r0 := k3'.cell 0
  have r1 := k3'.cell 1
  have r2 := k3'.cell 2
  have r3 := k3'.cell 3
  have r4 := k3'.cell 4
  clear hW3 hbw3 hpr hb3' hb13 hc3' hb3 hc3 k3 k3'
  go_wp2_with fail
  rw [H3.out.1]
  refine H3.out.2.2.1.mono ?_
  rintro e w4 ⟨rfl, hb4⟩
  have hbw4 := H3.out.2.1.trans (hb4.mono H3.out.2.1.size)
  have hcd := code_chain 1 _ 4 w4 (H3.out.2.2.2.1.below hb4) (H.out.2.below hbw4).1.errt
  have H4 := Lib.hid (And.intro hbw4 (And.intro hcd (H3.out.2.2.2.2.below hb4)))
  obtain ⟨K, hK⟩ : ∃ K, BA [123, 34, 97, 34, 58, 91, 93, 44, 34, 98, 34, 58, 49, 125] = K := ⟨_, rfl⟩
  have hq : (K.toList == [123, 34, 97, 34, 58, 91, 93, 44, 34, 98, 34, 58, 49, 125]) = true := by rw [← hK, Lib.toList_data]; rfl
  rw [hK]
  clear hbw4 hcd hb4 r0 r1 r2 r3 r4 hK
  go_wp2_with fail
  refine (show Calls _ _ _ _ _ from H4.out.2.1).mono ?_
  rintro e w5 ⟨rfl, hb5⟩
  have hbw5 := H4.out.1.trans (hb5.mono H4.out.1.size)
  have hcd := code_chain 1 _ 5 w5 (H4.out.2.2.below hb5) (H.out.2.below hbw5).1.errt
  have H5 := Lib.hid (And.intro hbw5 hcd)
  clear hbw5 hcd hb5
  go_wp2_with fail
  refine (show Calls _ _ _ _ _ from H5.out.2).mono ?_
  rintro e w6 ⟨rfl, hb6⟩
  have HF := Lib.hid (H5.out.1.trans (hb6.mono H5.out.1.size))
  clear hb6
  go_wp2
  go_ret
  exact ⟨by first | rfl | simp, HF.out⟩
end Go.Proofs.YtccnfnoonpfdfaaGreatDoor
