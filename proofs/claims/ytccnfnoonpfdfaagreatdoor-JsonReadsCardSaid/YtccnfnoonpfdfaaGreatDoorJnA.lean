/- Cut out of XGB, XTxZ, XTxAA, XTxBB, XGC, XGD, XKpA, XKpB, XKqA, XIJo, XIJp, XKgJ, XKgK, XKgL, XKaP, XKcA, XKcB, XKcC, XIzB, XKdP, XKdA, XKdB, XKdC, XKdD, XKdE, XKdX, XIxP, XIxA, XIxB, XIxL, XIxM, XIxN, XIxO, XIxQ, XIxR, XIxS (wip/cutout.py): what is needed here. -/
import Derived.Test.YtccnfnoonpfdfaaGreatDoorJnT
import Derived.Test.YtccnfnoonpfdfaaGreatDoorGA
import Derived.Test.YtccnfnoonpfdfaaGreatDoorShelf
import Derived.Lib.ValidLaws
import Derived.Lib.RuneBytes
import Derived.Lib.LaidU8
import Derived.WalkKit
import Derived.BigCall
import Derived.BigGuard
import Derived.Lib.Walk
import Derived.RegionTactic
import Derived.Laws.Runes
import Derived.Laws.Cover4
import Derived.WalkMore
import Derived.Deep.QuietTactic
import Derived.BigQuiet
import Derived.Lib.QuoteBits
import Derived.Lib.Small
import Derived.Laws.BytesString
import Derived.Laws.IdiomStrings
import Derived.StillTailTactics
import Derived.Laws.BitsAllLaws
import Derived.Lib.SlBytesConst
import Derived.Lib.SmallJoins
import Derived.Laws.Bits64
import Derived.Deep.RegionHeld3
import Derived.Laws.OwnMore
import Derived.Maps.AppendAt
namespace Go.Proofs.YtccnfnoonpfdfaaGreatDoor
open Go.Shelf Go.RowKit Go.Lib
def MadeC (d nb : Nat) (w : World) (sv : Value) (l : BL) : Prop := Calls Tryz.prog 23 #[sv, .int .i64 ((d : Int) + 1)] w fun e w' => ∃ c rv, e = .returned (.tuple #[.agg c.toArray, rv]) ∧ VNew w w' (madeL d l).1 c ∧ BRead nb w' rv (madeL d l).2 ∧ Below w.heap.size w w'
/-- what is left of a row behind its first byte. -/
theorem BRead.tail {nb : Nat} {w : World} {b off cap : Nat} {c : UInt8} {l : BL} (hbn : b < nb) (hm : l.length + 1 ≤ 9223372036854775807) (hcap : l.length + 1 ≤ cap) (hr : ∀ i u, (c :: l)[i]? = some u → w.cell? ⟨b, off + i, none⟩ = some (.int .u8 u.toNat)) :
    BRead nb w (.slice (some ⟨b, off + 1, none⟩) l.length (cap - 1)) l :=
  ⟨by omega, _, _, rfl, by omega, fun _ => ⟨b, off + 1, rfl, hbn, fun i u hu => by
    have := hr (i + 1) u (by simpa using hu)
    rw [show off + 1 + i = off + (i + 1) by omega]
    exact this⟩⟩
theorem BRead.cap1 {nb : Nat} {w : World} {b off cap : Nat} {l : BL} (hm : l.length + 1 ≤ 9223372036854775807) (hcap : l.length + 1 ≤ cap) (h1 : cap = 1) : BRead nb w (.slice (some ⟨b, off, none⟩) l.length 0) l :=
  ⟨by omega, _, _, rfl, by omega, fun h => by omega⟩
theorem made_leaf_eq (d : Nat) (c : UInt8) (l : BL) (h4 : d = 0 ∨ c.toNat % 6 ≠ 4) (h5 : d = 0 ∨ c.toNat % 6 ≠ 5) : madeL d (c :: l) = (leafL c.toNat, l) := by
  cases d with
  | zero => rfl
  | succ d =>
    unfold madeL
    rw [if_neg (h4.resolve_left (by omega)), if_neg (h5.resolve_left (by omega))]
theorem one_range (c : Nat) (h : c < 256) : -9223372036854775808 ≤ oneL c ∧ oneL c ≤ 9223372036854775807 := by
  unfold oneL
  split
  · omega
  · split
    · omega
    · split <;> omega
set_option maxHeartbeats 4000000 in
set_option maxRecDepth 100000 in
theorem made_nil (d nb : Nat) (w : World) (sv : Value) (h : BRead nb w sv []) : MadeC d nb w sv [] := by
  obtain ⟨_, a, cap, rfl, _, _⟩ := h
  unfold MadeC
  rw [madeL_nil]
  obtain ⟨D, hD⟩ : ∃ D : Int, (d : Int) + 1 = D := ⟨_, rfl⟩
  rw [hD]
  clear hD
  go_enter Tryz.func23, Tryz.ntmps23
  go_wp2
  (try simp only [Exit.inBlock, Exit.then])
  refine bodyPost_ret (v := .tuple #[.agg #[.int .i64 0, .int .i64 0, .string ⟨#[]⟩, .slice none 0 0, .slice none 0 0], .slice none 0 0]) ?_ rfl ⟨[.int .i64 0, .int .i64 0, .string ⟨#[]⟩, .slice none 0 0, .slice none 0 0], _, rfl, .null, BRead.nil _ _, (Below.refl _ w).alloc (Nat.le_refl _) _⟩
  rw [results_cell_tmp rfl]
  go_simp
set_option maxHeartbeats 4000000 in
set_option maxRecDepth 100000 in
theorem made_bool1 (d nb : Nat) (w : World) (sv : Value) (c : UInt8) (l : BL) (hnb : nb ≤ w.heap.size) (h : BRead nb w sv (c :: l)) (hcap1 : ∃ a n, sv = .slice a n 1) (hc : c.toNat % 6 = 1) : MadeC d nb w sv (c :: l) := by
  obtain ⟨hm, a, cap, rfl, hcap, hx⟩ := h
  obtain ⟨b, off, rfl, hbn, hr⟩ := hx (by simp)
  have hc1 : cap = 1 := by obtain ⟨a2, n2, h2⟩ := hcap1; simpa using congrArg (fun v => match v with | Value.slice _ _ k => k | _ => 0) h2
  have h0 := hr 0 c rfl
  rw [Nat.add_zero] at h0
  have h0a : (w.alloc (.cells #[.int .i64 0, .int .i64 0, .string ⟨#[]⟩, .slice none 0 0, .slice none 0 0] 28)).cell? ⟨b, off, none⟩ = some (.int .u8 c.toNat) := bcell ((Below.refl _ w).alloc (Nat.le_refl _) _) h0
  unfold MadeC
  rw [made_leaf_eq d c l (.inr (by omega)) (.inr (by omega)), show leafL c.toNat = .bool ((c.toNat / 6 % 2 : Nat) : Int) by unfold leafL; rw [if_pos hc]]
  obtain ⟨D, hD⟩ : ∃ D : Int, (d : Int) + 1 = D := ⟨_, rfl⟩
  rw [hD]
  clear hD
  rw [List.length_cons] at hcap hm ⊢
  have HR := Lib.hid (BRead.cap1 (nb := nb) (w := w) (b := b) (off := off) hm hcap hc1)
  obtain ⟨n, hn⟩ : ∃ n, l.length = n := ⟨_, rfl⟩
  rw [hn] at hcap hm HR ⊢
  obtain ⟨k, hk⟩ : ∃ k, c.toNat = k := ⟨_, rfl⟩
  rw [hk] at h0a hc
  (try rw [hk])
  have hk8 : k < 256 := by rw [← hk]; exact c.toNat_lt
  have z6 : (k : Int) % 6 = 1 := by omega
  have zw : IntKind.i64.wrap ((k : Int) / 6) = (k : Int) / 6 := by rw [IntKind.wrap_i64]; omega
  clear h0 hr hx hk hn hcap1
  go_enter Tryz.func23, Tryz.ntmps23
  go_wp2
  (try simp only [Exit.inBlock, Exit.then])
  refine bodyPost_ret (v := .tuple #[.agg #[.int .i64 1, .int .i64 ((k / 6 % 2 : Nat) : Int), .string ⟨#[]⟩, .slice none 0 0, .slice none 0 0], .slice (some ⟨b, off, none⟩) n 0]) ?_ rfl ⟨[.int .i64 1, .int .i64 ((k / 6 % 2 : Nat) : Int), .string ⟨#[]⟩, .slice none 0 0, .slice none 0 0], _, rfl, .bool _ (by omega), HR.out.later ((Below.refl _ w).alloc hnb _), (Below.refl _ w).alloc (Nat.le_refl _) _⟩
  rw [results_cell_tmp rfl]
  go_simp
set_option maxHeartbeats 4000000 in
set_option maxRecDepth 100000 in
theorem made_booln (d nb : Nat) (w : World) (sv : Value) (c : UInt8) (l : BL) (hnb : nb ≤ w.heap.size) (h : BRead nb w sv (c :: l)) (hcap1 : ¬ ∃ a n, sv = .slice a n 1) (hc : c.toNat % 6 = 1) : MadeC d nb w sv (c :: l) := by
  obtain ⟨hm, a, cap, rfl, hcap, hx⟩ := h
  obtain ⟨b, off, rfl, hbn, hr⟩ := hx (by simp)
  have hc1 : ¬ cap = 1 := fun e => hcap1 ⟨_, _, by rw [e]⟩
  have h0 := hr 0 c rfl
  rw [Nat.add_zero] at h0
  have h0a : (w.alloc (.cells #[.int .i64 0, .int .i64 0, .string ⟨#[]⟩, .slice none 0 0, .slice none 0 0] 28)).cell? ⟨b, off, none⟩ = some (.int .u8 c.toNat) := bcell ((Below.refl _ w).alloc (Nat.le_refl _) _) h0
  unfold MadeC
  rw [made_leaf_eq d c l (.inr (by omega)) (.inr (by omega)), show leafL c.toNat = .bool ((c.toNat / 6 % 2 : Nat) : Int) by unfold leafL; rw [if_pos hc]]
  obtain ⟨D, hD⟩ : ∃ D : Int, (d : Int) + 1 = D := ⟨_, rfl⟩
  rw [hD]
  clear hD
  rw [List.length_cons] at hcap hm ⊢
  have HR := Lib.hid (BRead.tail hbn hm hcap hr)
  obtain ⟨n, hn⟩ : ∃ n, l.length = n := ⟨_, rfl⟩
  rw [hn] at hcap hm HR ⊢
  obtain ⟨k, hk⟩ : ∃ k, c.toNat = k := ⟨_, rfl⟩
  rw [hk] at h0a hc
  (try rw [hk])
  have hk8 : k < 256 := by rw [← hk]; exact c.toNat_lt
  have z6 : (k : Int) % 6 = 1 := by omega
  have zw : IntKind.i64.wrap ((k : Int) / 6) = (k : Int) / 6 := by rw [IntKind.wrap_i64]; omega
  clear h0 hr hx hk hn hcap1
  go_enter Tryz.func23, Tryz.ntmps23
  go_wp2
  (try simp only [Exit.inBlock, Exit.then])
  refine bodyPost_ret (v := .tuple #[.agg #[.int .i64 1, .int .i64 ((k / 6 % 2 : Nat) : Int), .string ⟨#[]⟩, .slice none 0 0, .slice none 0 0], .slice (some ⟨b, off + 1, none⟩) n (cap - 1)]) ?_ rfl ⟨[.int .i64 1, .int .i64 ((k / 6 % 2 : Nat) : Int), .string ⟨#[]⟩, .slice none 0 0, .slice none 0 0], _, rfl, .bool _ (by omega), HR.out.later ((Below.refl _ w).alloc hnb _), (Below.refl _ w).alloc (Nat.le_refl _) _⟩
  rw [results_cell_tmp rfl]
  go_simp
set_option maxHeartbeats 4000000 in
set_option maxRecDepth 100000 in
theorem made_int1 (d nb : Nat) (w : World) (sv : Value) (c : UInt8) (l : BL) (hnb : nb ≤ w.heap.size) (h : BRead nb w sv (c :: l)) (hcap1 : ∃ a n, sv = .slice a n 1) (hc : c.toNat % 6 = 2) : MadeC d nb w sv (c :: l) := by
  obtain ⟨hm, a, cap, rfl, hcap, hx⟩ := h
  obtain ⟨b, off, rfl, hbn, hr⟩ := hx (by simp)
  have hc1 : cap = 1 := by obtain ⟨a2, n2, h2⟩ := hcap1; simpa using congrArg (fun v => match v with | Value.slice _ _ k => k | _ => 0) h2
  have h0 := hr 0 c rfl
  rw [Nat.add_zero] at h0
  have h0a : (w.alloc (.cells #[.int .i64 0, .int .i64 0, .string ⟨#[]⟩, .slice none 0 0, .slice none 0 0] 28)).cell? ⟨b, off, none⟩ = some (.int .u8 c.toNat) := bcell ((Below.refl _ w).alloc (Nat.le_refl _) _) h0
  unfold MadeC
  rw [made_leaf_eq d c l (.inr (by omega)) (.inr (by omega)), show leafL c.toNat = .int (oneL (c.toNat / 6)) by unfold leafL; rw [if_neg (by omega), if_pos hc]]
  obtain ⟨D, hD⟩ : ∃ D : Int, (d : Int) + 1 = D := ⟨_, rfl⟩
  rw [hD]
  clear hD
  rw [List.length_cons] at hcap hm ⊢
  have HR := Lib.hid (BRead.cap1 (nb := nb) (w := w) (b := b) (off := off) hm hcap hc1)
  obtain ⟨n, hn⟩ : ∃ n, l.length = n := ⟨_, rfl⟩
  rw [hn] at hcap hm HR ⊢
  obtain ⟨k, hk⟩ : ∃ k, c.toNat = k := ⟨_, rfl⟩
  rw [hk] at h0a hc
  (try rw [hk])
  have hk8 : k < 256 := by rw [← hk]; exact c.toNat_lt
  have z6 : (k : Int) % 6 = 2 := by omega
  have zw : IntKind.i64.wrap ((k : Int) / 6) = (k : Int) / 6 := by rw [IntKind.wrap_i64]; omega
  have zu : IntKind.u8.wrap ((k : Int) / 6) = (k : Int) / 6 := by simp [IntKind.wrap, IntKind.bits, IntKind.signed]; omega
  have zv : (k : Int) / 6 % 256 = (k : Int) / 6 := by omega
  clear h0 hr hx hk hn hcap1
  go_enter Tryz.func23, Tryz.ntmps23
  go_wp2_with fail
  refine (show Calls _ _ #[.int .u8 ((k : Int) / 6)] _ _ from one_any (k / 6) _ (by omega)).mono ?_
  rintro e w2 ⟨rfl, rfl⟩
  go_wp2
  (try simp only [Exit.inBlock, Exit.then])
  refine bodyPost_ret (v := .tuple #[.agg #[.int .i64 2, .int .i64 (oneL (k / 6)), .string ⟨#[]⟩, .slice none 0 0, .slice none 0 0], .slice (some ⟨b, off, none⟩) n 0]) ?_ rfl ⟨[.int .i64 2, .int .i64 (oneL (k / 6)), .string ⟨#[]⟩, .slice none 0 0, .slice none 0 0], _, rfl, .int _ (one_range _ (by omega)), HR.out.later ((Below.refl _ w).alloc hnb _), (Below.refl _ w).alloc (Nat.le_refl _) _⟩
  rw [results_cell_tmp rfl]
  go_simp
set_option maxHeartbeats 4000000 in
set_option maxRecDepth 100000 in
theorem made_intn (d nb : Nat) (w : World) (sv : Value) (c : UInt8) (l : BL) (hnb : nb ≤ w.heap.size) (h : BRead nb w sv (c :: l)) (hcap1 : ¬ ∃ a n, sv = .slice a n 1) (hc : c.toNat % 6 = 2) : MadeC d nb w sv (c :: l) := by
  obtain ⟨hm, a, cap, rfl, hcap, hx⟩ := h
  obtain ⟨b, off, rfl, hbn, hr⟩ := hx (by simp)
  have hc1 : ¬ cap = 1 := fun e => hcap1 ⟨_, _, by rw [e]⟩
  have h0 := hr 0 c rfl
  rw [Nat.add_zero] at h0
  have h0a : (w.alloc (.cells #[.int .i64 0, .int .i64 0, .string ⟨#[]⟩, .slice none 0 0, .slice none 0 0] 28)).cell? ⟨b, off, none⟩ = some (.int .u8 c.toNat) := bcell ((Below.refl _ w).alloc (Nat.le_refl _) _) h0
  unfold MadeC
  rw [made_leaf_eq d c l (.inr (by omega)) (.inr (by omega)), show leafL c.toNat = .int (oneL (c.toNat / 6)) by unfold leafL; rw [if_neg (by omega), if_pos hc]]
  obtain ⟨D, hD⟩ : ∃ D : Int, (d : Int) + 1 = D := ⟨_, rfl⟩
  rw [hD]
  clear hD
  rw [List.length_cons] at hcap hm ⊢
  have HR := Lib.hid (BRead.tail hbn hm hcap hr)
  obtain ⟨n, hn⟩ : ∃ n, l.length = n := ⟨_, rfl⟩
  rw [hn] at hcap hm HR ⊢
  obtain ⟨k, hk⟩ : ∃ k, c.toNat = k := ⟨_, rfl⟩
  rw [hk] at h0a hc
  (try rw [hk])
  have hk8 : k < 256 := by rw [← hk]; exact c.toNat_lt
  have z6 : (k : Int) % 6 = 2 := by omega
  have zw : IntKind.i64.wrap ((k : Int) / 6) = (k : Int) / 6 := by rw [IntKind.wrap_i64]; omega
  have zu : IntKind.u8.wrap ((k : Int) / 6) = (k : Int) / 6 := by simp [IntKind.wrap, IntKind.bits, IntKind.signed]; omega
  have zv : (k : Int) / 6 % 256 = (k : Int) / 6 := by omega
  clear h0 hr hx hk hn hcap1
  go_enter Tryz.func23, Tryz.ntmps23
  go_wp2_with fail
  refine (show Calls _ _ #[.int .u8 ((k : Int) / 6)] _ _ from one_any (k / 6) _ (by omega)).mono ?_
  rintro e w2 ⟨rfl, rfl⟩
  go_wp2
  (try simp only [Exit.inBlock, Exit.then])
  refine bodyPost_ret (v := .tuple #[.agg #[.int .i64 2, .int .i64 (oneL (k / 6)), .string ⟨#[]⟩, .slice none 0 0, .slice none 0 0], .slice (some ⟨b, off + 1, none⟩) n (cap - 1)]) ?_ rfl ⟨[.int .i64 2, .int .i64 (oneL (k / 6)), .string ⟨#[]⟩, .slice none 0 0, .slice none 0 0], _, rfl, .int _ (one_range _ (by omega)), HR.out.later ((Below.refl _ w).alloc hnb _), (Below.refl _ w).alloc (Nat.le_refl _) _⟩
  rw [results_cell_tmp rfl]
  go_simp
set_option maxHeartbeats 4000000 in
set_option maxRecDepth 100000 in
theorem made_text1 (d nb : Nat) (w : World) (sv : Value) (c : UInt8) (l : BL) (hnb : nb ≤ w.heap.size) (h : BRead nb w sv (c :: l)) (hcap1 : ∃ a n, sv = .slice a n 1) (hc : c.toNat % 6 = 3) (hW : Words w) : MadeC d nb w sv (c :: l) := by
  obtain ⟨hm, a, cap, rfl, hcap, hx⟩ := h
  obtain ⟨b, off, rfl, hbn, hr⟩ := hx (by simp)
  have hc1 : cap = 1 := by obtain ⟨a2, n2, h2⟩ := hcap1; simpa using congrArg (fun v => match v with | Value.slice _ _ k => k | _ => 0) h2
  have h0 := hr 0 c rfl
  rw [Nat.add_zero] at h0
  have h0a : (w.alloc (.cells #[.int .i64 0, .int .i64 0, .string ⟨#[]⟩, .slice none 0 0, .slice none 0 0] 28)).cell? ⟨b, off, none⟩ = some (.int .u8 c.toNat) := bcell ((Below.refl _ w).alloc (Nat.le_refl _) _) h0
  unfold MadeC
  rw [made_leaf_eq d c l (.inr (by omega)) (.inr (by omega)), show leafL c.toNat = .text (wordL (c.toNat / 6 % 8)) by unfold leafL; rw [if_neg (by omega), if_neg (by omega), if_pos hc]]
  obtain ⟨D, hD⟩ : ∃ D : Int, (d : Int) + 1 = D := ⟨_, rfl⟩
  rw [hD]
  clear hD
  rw [List.length_cons] at hcap hm ⊢
  have HR := Lib.hid (BRead.cap1 (nb := nb) (w := w) (b := b) (off := off) hm hcap hc1)
  obtain ⟨n, hn⟩ : ∃ n, l.length = n := ⟨_, rfl⟩
  rw [hn] at hcap hm HR ⊢
  obtain ⟨k, hk⟩ : ∃ k, c.toNat = k := ⟨_, rfl⟩
  rw [hk] at h0a hc
  (try rw [hk])
  have hk8 : k < 256 := by rw [← hk]; exact c.toNat_lt
  have z6 : (k : Int) % 6 = 3 := by omega
  have zw : IntKind.i64.wrap ((k : Int) / 6) = (k : Int) / 6 := by rw [IntKind.wrap_i64]; omega
  obtain ⟨j, hj⟩ : ∃ j, k / 6 % 8 = j := ⟨_, rfl⟩
  have hj8 : j < 8 := by omega
  have zj : (k : Int) / 6 % 8 = (j : Int) := by omega
  have hjz : (j : Int) < 8 := by omega
  have hwd := bcell ((Below.refl _ w).alloc (Nat.le_refl _) (.cells #[.int .i64 0, .int .i64 0, .string ⟨#[]⟩, .slice none 0 0, .slice none 0 0] 28)) (hW.1 j hj8)
  rw [hj]
  obtain ⟨T, hT⟩ : ∃ T, BA (wordL j) = T := ⟨_, rfl⟩
  rw [hT] at hwd
  have HT := Lib.hid hT
  clear hT hj hW
  clear h0 hr hx hk hn hcap1
  go_enter Tryz.func23, Tryz.ntmps23
  go_wp2
  (try simp only [Exit.inBlock, Exit.then])
  refine bodyPost_ret (v := .tuple #[.agg #[.int .i64 3, .int .i64 0, .string T, .slice none 0 0, .slice none 0 0], .slice (some ⟨b, off, none⟩) n 0]) ?_ rfl ⟨[.int .i64 3, .int .i64 0, .string T, .slice none 0 0, .slice none 0 0], _, rfl, (by rw [← HT.out]; exact .text _), HR.out.later ((Below.refl _ w).alloc hnb _), (Below.refl _ w).alloc (Nat.le_refl _) _⟩
  rw [results_cell_tmp rfl]
  go_simp
set_option maxHeartbeats 4000000 in
set_option maxRecDepth 100000 in
theorem made_textn (d nb : Nat) (w : World) (sv : Value) (c : UInt8) (l : BL) (hnb : nb ≤ w.heap.size) (h : BRead nb w sv (c :: l)) (hcap1 : ¬ ∃ a n, sv = .slice a n 1) (hc : c.toNat % 6 = 3) (hW : Words w) : MadeC d nb w sv (c :: l) := by
  obtain ⟨hm, a, cap, rfl, hcap, hx⟩ := h
  obtain ⟨b, off, rfl, hbn, hr⟩ := hx (by simp)
  have hc1 : ¬ cap = 1 := fun e => hcap1 ⟨_, _, by rw [e]⟩
  have h0 := hr 0 c rfl
  rw [Nat.add_zero] at h0
  have h0a : (w.alloc (.cells #[.int .i64 0, .int .i64 0, .string ⟨#[]⟩, .slice none 0 0, .slice none 0 0] 28)).cell? ⟨b, off, none⟩ = some (.int .u8 c.toNat) := bcell ((Below.refl _ w).alloc (Nat.le_refl _) _) h0
  unfold MadeC
  rw [made_leaf_eq d c l (.inr (by omega)) (.inr (by omega)), show leafL c.toNat = .text (wordL (c.toNat / 6 % 8)) by unfold leafL; rw [if_neg (by omega), if_neg (by omega), if_pos hc]]
  obtain ⟨D, hD⟩ : ∃ D : Int, (d : Int) + 1 = D := ⟨_, rfl⟩
  rw [hD]
  clear hD
  rw [List.length_cons] at hcap hm ⊢
  have HR := Lib.hid (BRead.tail hbn hm hcap hr)
  obtain ⟨n, hn⟩ : ∃ n, l.length = n := ⟨_, rfl⟩
  rw [hn] at hcap hm HR ⊢
  obtain ⟨k, hk⟩ : ∃ k, c.toNat = k := ⟨_, rfl⟩
  rw [hk] at h0a hc
  (try rw [hk])
  have hk8 : k < 256 := by rw [← hk]; exact c.toNat_lt
  have z6 : (k : Int) % 6 = 3 := by omega
  have zw : IntKind.i64.wrap ((k : Int) / 6) = (k : Int) / 6 := by rw [IntKind.wrap_i64]; omega
  obtain ⟨j, hj⟩ : ∃ j, k / 6 % 8 = j := ⟨_, rfl⟩
  have hj8 : j < 8 := by omega
  have zj : (k : Int) / 6 % 8 = (j : Int) := by omega
  have hjz : (j : Int) < 8 := by omega
  have hwd := bcell ((Below.refl _ w).alloc (Nat.le_refl _) (.cells #[.int .i64 0, .int .i64 0, .string ⟨#[]⟩, .slice none 0 0, .slice none 0 0] 28)) (hW.1 j hj8)
  rw [hj]
  obtain ⟨T, hT⟩ : ∃ T, BA (wordL j) = T := ⟨_, rfl⟩
  rw [hT] at hwd
  have HT := Lib.hid hT
  clear hT hj hW
  clear h0 hr hx hk hn hcap1
  go_enter Tryz.func23, Tryz.ntmps23
  go_wp2
  (try simp only [Exit.inBlock, Exit.then])
  refine bodyPost_ret (v := .tuple #[.agg #[.int .i64 3, .int .i64 0, .string T, .slice none 0 0, .slice none 0 0], .slice (some ⟨b, off + 1, none⟩) n (cap - 1)]) ?_ rfl ⟨[.int .i64 3, .int .i64 0, .string T, .slice none 0 0, .slice none 0 0], _, rfl, (by rw [← HT.out]; exact .text _), HR.out.later ((Below.refl _ w).alloc hnb _), (Below.refl _ w).alloc (Nat.le_refl _) _⟩
  rw [results_cell_tmp rfl]
  go_simp
set_option maxHeartbeats 4000000 in
set_option maxRecDepth 100000 in
theorem made_null1 (d nb : Nat) (w : World) (sv : Value) (c : UInt8) (l : BL) (hnb : nb ≤ w.heap.size) (h : BRead nb w sv (c :: l)) (hcap1 : ∃ a n, sv = .slice a n 1) (hc : c.toNat % 6 = 0) : MadeC d nb w sv (c :: l) := by
  obtain ⟨hm, a, cap, rfl, hcap, hx⟩ := h
  obtain ⟨b, off, rfl, hbn, hr⟩ := hx (by simp)
  have hc1 : cap = 1 := by obtain ⟨a2, n2, h2⟩ := hcap1; simpa using congrArg (fun v => match v with | Value.slice _ _ k => k | _ => 0) h2
  have h0 := hr 0 c rfl
  rw [Nat.add_zero] at h0
  have h0a : (w.alloc (.cells #[.int .i64 0, .int .i64 0, .string ⟨#[]⟩, .slice none 0 0, .slice none 0 0] 28)).cell? ⟨b, off, none⟩ = some (.int .u8 c.toNat) := bcell ((Below.refl _ w).alloc (Nat.le_refl _) _) h0
  unfold MadeC
  rw [made_leaf_eq d c l (.inr (by omega)) (.inr (by omega)), show leafL c.toNat = .null by unfold leafL; rw [if_neg (by omega), if_neg (by omega), if_neg (by omega)]]
  obtain ⟨D, hD⟩ : ∃ D : Int, (d : Int) + 1 = D := ⟨_, rfl⟩
  rw [hD]
  clear hD
  rw [List.length_cons] at hcap hm ⊢
  have HR := Lib.hid (BRead.cap1 (nb := nb) (w := w) (b := b) (off := off) hm hcap hc1)
  obtain ⟨n, hn⟩ : ∃ n, l.length = n := ⟨_, rfl⟩
  rw [hn] at hcap hm HR ⊢
  obtain ⟨k, hk⟩ : ∃ k, c.toNat = k := ⟨_, rfl⟩
  rw [hk] at h0a hc
  (try rw [hk])
  have hk8 : k < 256 := by rw [← hk]; exact c.toNat_lt
  have z6 : (k : Int) % 6 = 0 := by omega
  have zw : IntKind.i64.wrap ((k : Int) / 6) = (k : Int) / 6 := by rw [IntKind.wrap_i64]; omega
  clear h0 hr hx hk hn hcap1
  go_enter Tryz.func23, Tryz.ntmps23
  go_wp2
  (try simp only [Exit.inBlock, Exit.then])
  refine bodyPost_ret (v := .tuple #[.agg #[.int .i64 0, .int .i64 0, .string ⟨#[]⟩, .slice none 0 0, .slice none 0 0], .slice (some ⟨b, off, none⟩) n 0]) ?_ rfl ⟨[.int .i64 0, .int .i64 0, .string ⟨#[]⟩, .slice none 0 0, .slice none 0 0], _, rfl, .null, HR.out.later ((Below.refl _ w).alloc hnb _), (Below.refl _ w).alloc (Nat.le_refl _) _⟩
  rw [results_cell_tmp rfl]
  go_simp
set_option maxHeartbeats 4000000 in
set_option maxRecDepth 100000 in
theorem made_nulln (d nb : Nat) (w : World) (sv : Value) (c : UInt8) (l : BL) (hnb : nb ≤ w.heap.size) (h : BRead nb w sv (c :: l)) (hcap1 : ¬ ∃ a n, sv = .slice a n 1) (hc : c.toNat % 6 = 0) : MadeC d nb w sv (c :: l) := by
  obtain ⟨hm, a, cap, rfl, hcap, hx⟩ := h
  obtain ⟨b, off, rfl, hbn, hr⟩ := hx (by simp)
  have hc1 : ¬ cap = 1 := fun e => hcap1 ⟨_, _, by rw [e]⟩
  have h0 := hr 0 c rfl
  rw [Nat.add_zero] at h0
  have h0a : (w.alloc (.cells #[.int .i64 0, .int .i64 0, .string ⟨#[]⟩, .slice none 0 0, .slice none 0 0] 28)).cell? ⟨b, off, none⟩ = some (.int .u8 c.toNat) := bcell ((Below.refl _ w).alloc (Nat.le_refl _) _) h0
  unfold MadeC
  rw [made_leaf_eq d c l (.inr (by omega)) (.inr (by omega)), show leafL c.toNat = .null by unfold leafL; rw [if_neg (by omega), if_neg (by omega), if_neg (by omega)]]
  obtain ⟨D, hD⟩ : ∃ D : Int, (d : Int) + 1 = D := ⟨_, rfl⟩
  rw [hD]
  clear hD
  rw [List.length_cons] at hcap hm ⊢
  have HR := Lib.hid (BRead.tail hbn hm hcap hr)
  obtain ⟨n, hn⟩ : ∃ n, l.length = n := ⟨_, rfl⟩
  rw [hn] at hcap hm HR ⊢
  obtain ⟨k, hk⟩ : ∃ k, c.toNat = k := ⟨_, rfl⟩
  rw [hk] at h0a hc
  (try rw [hk])
  have hk8 : k < 256 := by rw [← hk]; exact c.toNat_lt
  have z6 : (k : Int) % 6 = 0 := by omega
  have zw : IntKind.i64.wrap ((k : Int) / 6) = (k : Int) / 6 := by rw [IntKind.wrap_i64]; omega
  clear h0 hr hx hk hn hcap1
  go_enter Tryz.func23, Tryz.ntmps23
  go_wp2
  (try simp only [Exit.inBlock, Exit.then])
  refine bodyPost_ret (v := .tuple #[.agg #[.int .i64 0, .int .i64 0, .string ⟨#[]⟩, .slice none 0 0, .slice none 0 0], .slice (some ⟨b, off + 1, none⟩) n (cap - 1)]) ?_ rfl ⟨[.int .i64 0, .int .i64 0, .string ⟨#[]⟩, .slice none 0 0, .slice none 0 0], _, rfl, .null, HR.out.later ((Below.refl _ w).alloc hnb _), (Below.refl _ w).alloc (Nat.le_refl _) _⟩
  rw [results_cell_tmp rfl]
  go_simp
set_option maxHeartbeats 4000000 in
set_option maxRecDepth 100000 in
theorem made_deep41 (nb : Nat) (w : World) (sv : Value) (c : UInt8) (l : BL) (hnb : nb ≤ w.heap.size) (h : BRead nb w sv (c :: l)) (hcap1 : ∃ a n, sv = .slice a n 1) (hc : c.toNat % 6 = 4) : MadeC 0 nb w sv (c :: l) := by
  obtain ⟨hm, a, cap, rfl, hcap, hx⟩ := h
  obtain ⟨b, off, rfl, hbn, hr⟩ := hx (by simp)
  have hc1 : cap = 1 := by obtain ⟨a2, n2, h2⟩ := hcap1; simpa using congrArg (fun v => match v with | Value.slice _ _ k => k | _ => 0) h2
  have h0 := hr 0 c rfl
  rw [Nat.add_zero] at h0
  have h0a : (w.alloc (.cells #[.int .i64 0, .int .i64 0, .string ⟨#[]⟩, .slice none 0 0, .slice none 0 0] 28)).cell? ⟨b, off, none⟩ = some (.int .u8 c.toNat) := bcell ((Below.refl _ w).alloc (Nat.le_refl _) _) h0
  unfold MadeC
  rw [made_leaf_eq 0 c l (.inl rfl) (.inl rfl), show leafL c.toNat = .null by unfold leafL; rw [if_neg (by omega), if_neg (by omega), if_neg (by omega)]]
  rw [List.length_cons] at hcap hm ⊢
  have HR := Lib.hid (BRead.cap1 (nb := nb) (w := w) (b := b) (off := off) hm hcap hc1)
  obtain ⟨n, hn⟩ : ∃ n, l.length = n := ⟨_, rfl⟩
  rw [hn] at hcap hm HR ⊢
  obtain ⟨k, hk⟩ : ∃ k, c.toNat = k := ⟨_, rfl⟩
  rw [hk] at h0a hc
  (try rw [hk])
  have hk8 : k < 256 := by rw [← hk]; exact c.toNat_lt
  have z6 : (k : Int) % 6 = 4 := by omega
  have zw : IntKind.i64.wrap ((k : Int) / 6) = (k : Int) / 6 := by rw [IntKind.wrap_i64]; omega
  clear h0 hr hx hk hn hcap1
  go_enter Tryz.func23, Tryz.ntmps23
  go_wp2
  (try simp only [Exit.inBlock, Exit.then])
  refine bodyPost_ret (v := .tuple #[.agg #[.int .i64 0, .int .i64 0, .string ⟨#[]⟩, .slice none 0 0, .slice none 0 0], .slice (some ⟨b, off, none⟩) n 0]) ?_ rfl ⟨[.int .i64 0, .int .i64 0, .string ⟨#[]⟩, .slice none 0 0, .slice none 0 0], _, rfl, .null, HR.out.later ((Below.refl _ w).alloc hnb _), (Below.refl _ w).alloc (Nat.le_refl _) _⟩
  rw [results_cell_tmp rfl]
  go_simp
set_option maxHeartbeats 4000000 in
set_option maxRecDepth 100000 in
theorem made_deep4n (nb : Nat) (w : World) (sv : Value) (c : UInt8) (l : BL) (hnb : nb ≤ w.heap.size) (h : BRead nb w sv (c :: l)) (hcap1 : ¬ ∃ a n, sv = .slice a n 1) (hc : c.toNat % 6 = 4) : MadeC 0 nb w sv (c :: l) := by
  obtain ⟨hm, a, cap, rfl, hcap, hx⟩ := h
  obtain ⟨b, off, rfl, hbn, hr⟩ := hx (by simp)
  have hc1 : ¬ cap = 1 := fun e => hcap1 ⟨_, _, by rw [e]⟩
  have h0 := hr 0 c rfl
  rw [Nat.add_zero] at h0
  have h0a : (w.alloc (.cells #[.int .i64 0, .int .i64 0, .string ⟨#[]⟩, .slice none 0 0, .slice none 0 0] 28)).cell? ⟨b, off, none⟩ = some (.int .u8 c.toNat) := bcell ((Below.refl _ w).alloc (Nat.le_refl _) _) h0
  unfold MadeC
  rw [made_leaf_eq 0 c l (.inl rfl) (.inl rfl), show leafL c.toNat = .null by unfold leafL; rw [if_neg (by omega), if_neg (by omega), if_neg (by omega)]]
  rw [List.length_cons] at hcap hm ⊢
  have HR := Lib.hid (BRead.tail hbn hm hcap hr)
  obtain ⟨n, hn⟩ : ∃ n, l.length = n := ⟨_, rfl⟩
  rw [hn] at hcap hm HR ⊢
  obtain ⟨k, hk⟩ : ∃ k, c.toNat = k := ⟨_, rfl⟩
  rw [hk] at h0a hc
  (try rw [hk])
  have hk8 : k < 256 := by rw [← hk]; exact c.toNat_lt
  have z6 : (k : Int) % 6 = 4 := by omega
  have zw : IntKind.i64.wrap ((k : Int) / 6) = (k : Int) / 6 := by rw [IntKind.wrap_i64]; omega
  clear h0 hr hx hk hn hcap1
  go_enter Tryz.func23, Tryz.ntmps23
  go_wp2
  (try simp only [Exit.inBlock, Exit.then])
  refine bodyPost_ret (v := .tuple #[.agg #[.int .i64 0, .int .i64 0, .string ⟨#[]⟩, .slice none 0 0, .slice none 0 0], .slice (some ⟨b, off + 1, none⟩) n (cap - 1)]) ?_ rfl ⟨[.int .i64 0, .int .i64 0, .string ⟨#[]⟩, .slice none 0 0, .slice none 0 0], _, rfl, .null, HR.out.later ((Below.refl _ w).alloc hnb _), (Below.refl _ w).alloc (Nat.le_refl _) _⟩
  rw [results_cell_tmp rfl]
  go_simp
set_option maxHeartbeats 4000000 in
set_option maxRecDepth 100000 in
theorem made_deep51 (nb : Nat) (w : World) (sv : Value) (c : UInt8) (l : BL) (hnb : nb ≤ w.heap.size) (h : BRead nb w sv (c :: l)) (hcap1 : ∃ a n, sv = .slice a n 1) (hc : c.toNat % 6 = 5) : MadeC 0 nb w sv (c :: l) := by
  obtain ⟨hm, a, cap, rfl, hcap, hx⟩ := h
  obtain ⟨b, off, rfl, hbn, hr⟩ := hx (by simp)
  have hc1 : cap = 1 := by obtain ⟨a2, n2, h2⟩ := hcap1; simpa using congrArg (fun v => match v with | Value.slice _ _ k => k | _ => 0) h2
  have h0 := hr 0 c rfl
  rw [Nat.add_zero] at h0
  have h0a : (w.alloc (.cells #[.int .i64 0, .int .i64 0, .string ⟨#[]⟩, .slice none 0 0, .slice none 0 0] 28)).cell? ⟨b, off, none⟩ = some (.int .u8 c.toNat) := bcell ((Below.refl _ w).alloc (Nat.le_refl _) _) h0
  unfold MadeC
  rw [made_leaf_eq 0 c l (.inl rfl) (.inl rfl), show leafL c.toNat = .null by unfold leafL; rw [if_neg (by omega), if_neg (by omega), if_neg (by omega)]]
  rw [List.length_cons] at hcap hm ⊢
  have HR := Lib.hid (BRead.cap1 (nb := nb) (w := w) (b := b) (off := off) hm hcap hc1)
  obtain ⟨n, hn⟩ : ∃ n, l.length = n := ⟨_, rfl⟩
  rw [hn] at hcap hm HR ⊢
  obtain ⟨k, hk⟩ : ∃ k, c.toNat = k := ⟨_, rfl⟩
  rw [hk] at h0a hc
  (try rw [hk])
  have hk8 : k < 256 := by rw [← hk]; exact c.toNat_lt
  have z6 : (k : Int) % 6 = 5 := by omega
  have zw : IntKind.i64.wrap ((k : Int) / 6) = (k : Int) / 6 := by rw [IntKind.wrap_i64]; omega
  clear h0 hr hx hk hn hcap1
  go_enter Tryz.func23, Tryz.ntmps23
  go_wp2
  (try simp only [Exit.inBlock, Exit.then])
  refine bodyPost_ret (v := .tuple #[.agg #[.int .i64 0, .int .i64 0, .string ⟨#[]⟩, .slice none 0 0, .slice none 0 0], .slice (some ⟨b, off, none⟩) n 0]) ?_ rfl ⟨[.int .i64 0, .int .i64 0, .string ⟨#[]⟩, .slice none 0 0, .slice none 0 0], _, rfl, .null, HR.out.later ((Below.refl _ w).alloc hnb _), (Below.refl _ w).alloc (Nat.le_refl _) _⟩
  rw [results_cell_tmp rfl]
  go_simp
set_option maxHeartbeats 4000000 in
set_option maxRecDepth 100000 in
theorem made_deep5n (nb : Nat) (w : World) (sv : Value) (c : UInt8) (l : BL) (hnb : nb ≤ w.heap.size) (h : BRead nb w sv (c :: l)) (hcap1 : ¬ ∃ a n, sv = .slice a n 1) (hc : c.toNat % 6 = 5) : MadeC 0 nb w sv (c :: l) := by
  obtain ⟨hm, a, cap, rfl, hcap, hx⟩ := h
  obtain ⟨b, off, rfl, hbn, hr⟩ := hx (by simp)
  have hc1 : ¬ cap = 1 := fun e => hcap1 ⟨_, _, by rw [e]⟩
  have h0 := hr 0 c rfl
  rw [Nat.add_zero] at h0
  have h0a : (w.alloc (.cells #[.int .i64 0, .int .i64 0, .string ⟨#[]⟩, .slice none 0 0, .slice none 0 0] 28)).cell? ⟨b, off, none⟩ = some (.int .u8 c.toNat) := bcell ((Below.refl _ w).alloc (Nat.le_refl _) _) h0
  unfold MadeC
  rw [made_leaf_eq 0 c l (.inl rfl) (.inl rfl), show leafL c.toNat = .null by unfold leafL; rw [if_neg (by omega), if_neg (by omega), if_neg (by omega)]]
  rw [List.length_cons] at hcap hm ⊢
  have HR := Lib.hid (BRead.tail hbn hm hcap hr)
  obtain ⟨n, hn⟩ : ∃ n, l.length = n := ⟨_, rfl⟩
  rw [hn] at hcap hm HR ⊢
  obtain ⟨k, hk⟩ : ∃ k, c.toNat = k := ⟨_, rfl⟩
  rw [hk] at h0a hc
  (try rw [hk])
  have hk8 : k < 256 := by rw [← hk]; exact c.toNat_lt
  have z6 : (k : Int) % 6 = 5 := by omega
  have zw : IntKind.i64.wrap ((k : Int) / 6) = (k : Int) / 6 := by rw [IntKind.wrap_i64]; omega
  clear h0 hr hx hk hn hcap1
  go_enter Tryz.func23, Tryz.ntmps23
  go_wp2
  (try simp only [Exit.inBlock, Exit.then])
  refine bodyPost_ret (v := .tuple #[.agg #[.int .i64 0, .int .i64 0, .string ⟨#[]⟩, .slice none 0 0, .slice none 0 0], .slice (some ⟨b, off + 1, none⟩) n (cap - 1)]) ?_ rfl ⟨[.int .i64 0, .int .i64 0, .string ⟨#[]⟩, .slice none 0 0, .slice none 0 0], _, rfl, .null, HR.out.later ((Below.refl _ w).alloc hnb _), (Below.refl _ w).alloc (Nat.le_refl _) _⟩
  rw [results_cell_tmp rfl]
  go_simp
end Go.Proofs.YtccnfnoonpfdfaaGreatDoor
namespace Go.Proofs.YtccnfnoonpfdfaaGreatDoor
open Go.Shelf Go.RowKit Go.Lib
theorem infoV : (Tryz.prog.info? 28).map (fun i => (i.zero, i.size, i.bytes)) = some (some (.agg #[.int .i64 0, .int .i64 0, .string ⟨#[]⟩, .slice none 0 0, .slice none 0 0]), 5, 80) := by kernel_rfl
theorem value_parts : ∃ i0, Tryz.prog.info? 28 = some i0 ∧ i0.zero = some (.agg #[.int .i64 0, .int .i64 0, .string ⟨#[]⟩, .slice none 0 0, .slice none 0 0]) ∧ i0.size = 5 ∧ i0.bytes = 80 := info_parts infoV
theorem infoF : (Tryz.prog.info? 51).map (fun i => (i.zero, i.size, i.bytes)) = some (some (.agg #[.string ⟨#[]⟩, .int .i64 0, .int .i64 0, .string ⟨#[]⟩, .slice none 0 0, .slice none 0 0]), 6, 96) := by kernel_rfl
theorem field_parts : ∃ i0, Tryz.prog.info? 51 = some i0 ∧ i0.zero = some (.agg #[.string ⟨#[]⟩, .int .i64 0, .int .i64 0, .string ⟨#[]⟩, .slice none 0 0, .slice none 0 0]) ∧ i0.size = 6 ∧ i0.bytes = 96 := info_parts infoF
theorem made_cases (nb : Nat) (w : World) (b off cap n : Nat) (c : UInt8) (l : BL) (hl : l.length = n) (hbn : b < nb) (hm : n + 1 ≤ 9223372036854775807) (hcap : n + 1 ≤ cap) (hr : ∀ i u, (c :: l)[i]? = some u → w.cell? ⟨b, off + i, none⟩ = some (.int .u8 u.toNat)) :
    ∃ R, ((cap = 1 ∧ Value.slice (some ⟨b, off, none⟩) n 0 = R) ∨ (¬ cap = 1 ∧ Value.slice (some ⟨b, off + 1, none⟩) n (cap - 1) = R)) ∧ BRead nb w R l := by
  subst hl
  by_cases h : cap = 1
  · exact ⟨_, .inl ⟨h, rfl⟩, BRead.cap1 hm hcap h⟩
  · exact ⟨_, .inr ⟨h, rfl⟩, BRead.tail hbn hm hcap hr⟩
theorem blk_alloc2 (w : World) (o : Obj) (cs : List Value) (e : TypeId) : Blk ((w.alloc o).alloc (.cells cs.toArray e)) (w.heap.size + 1) e cs := by
  have h := heap_alloc_new (w.alloc o) (.cells cs.toArray e)
  rw [show (w.alloc o).heap.size = w.heap.size + 1 by simp] at h
  exact h
theorem own_later {w w2 : World} {b size n : Nat} {e : TypeId} {v : Value} {xs : List Value} (h : w.ownsRow b e size v n xs) (hb : Below w.heap.size w w2) : w2.ownsRow b e size v n xs :=
  h.kept (row := none) ⟨hb.os, hb.tape, hb.output, hb.size, fun k hk _ => hb.block k hk⟩ (by rcases hv : v.ownBlock with _ | k <;> simp)
/-- one more thing in a row of one's own: what stood in it stands. -/
theorem push_keep {P size n : Nat} {e : TypeId} {wr w2 w5 : World} {o1 o2 : Obj} {ov v' : Value} {cs : List Value} (hown : wr.ownsRow (P + 2) e size ov n cs) (hbel : Below wr.heap.size wr w2)
    (hg : ((w2.alloc o1).alloc o2).grownBy w5 ov.ownBlock) (hat : v'.ownBlock = ov.ownBlock ∨ v'.ownBlock = some ((w2.alloc o1).alloc o2).heap.size) (j : Nat) (u : Value) :
    (∀ b, (some b ≠ ov.ownBlock ∧ P + 2 ≤ b ∧ b < wr.heap.size) → (some b ≠ v'.ownBlock ∧ P + 2 ≤ b ∧ b < (w5.setCell ⟨P + 1, j, none⟩ u).heap.size)) ∧
    (∀ b, (some b ≠ ov.ownBlock ∧ P + 2 ≤ b ∧ b < wr.heap.size) → ∀ k z, wr.cell? ⟨b, k, none⟩ = some z → (w5.setCell ⟨P + 1, j, none⟩ u).cell? ⟨b, k, none⟩ = some z) ∧
    (P + 2 ≤ wr.heap.size → ∀ b, (wr.heap.size ≤ b ∧ b < w2.heap.size) → (some b ≠ v'.ownBlock ∧ P + 2 ≤ b ∧ b < (w5.setCell ⟨P + 1, j, none⟩ u).heap.size)) ∧
    (P + 2 ≤ wr.heap.size → ∀ b, (wr.heap.size ≤ b ∧ b < w2.heap.size) → ∀ k z, w2.cell? ⟨b, k, none⟩ = some z → (w5.setCell ⟨P + 1, j, none⟩ u).cell? ⟨b, k, none⟩ = some z) := by
  have s1 : w2.heap.size + 2 ≤ w5.heap.size := by have := hg.size; simpa using this
  have s2 : wr.heap.size ≤ w2.heap.size := hbel.size
  have s3 : (w5.setCell ⟨P + 1, j, none⟩ u).heap.size = w5.heap.size := by simp
  have s4 : ((w2.alloc o1).alloc o2).heap.size = w2.heap.size + 2 := by simp
  have keep : ∀ b, b ≠ P + 1 → some b ≠ ov.ownBlock → ∀ k z, w2.cell? ⟨b, k, none⟩ = some z → (w5.setCell ⟨P + 1, j, none⟩ u).cell? ⟨b, k, none⟩ = some z := fun b h1 h2 k z hz => by
    rw [World.cell?_setCell_other _ _ _ _ (fun e => h1 (by injection e with e1; exact e1.symm))]
    exact hg.cell (bcell ((Below.refl _ (w2.alloc o1)).alloc (Nat.le_refl _) _) (bcell ((Below.refl _ w2).alloc (Nat.le_refl _) _) hz)) h2
  have lt : ∀ k, ov.ownBlock = some k → k < wr.heap.size := fun k hk => (hown.lt k hk).2
  refine ⟨fun b hb => ⟨?_, hb.2.1, by omega⟩, fun b hb k z hz => keep b (by omega) hb.1 k z (bcell hbel hz), fun hP b hb => ⟨?_, by omega, by omega⟩, fun hP b hb k z hz => keep b (by omega) ?_ k z hz⟩
  · rcases hat with h | h
    · rw [h]; exact hb.1
    · rw [h, s4]; intro e; injection e with e; omega
  · rcases hat with h | h
    · rw [h]; intro e; have := lt b e.symm; omega
    · rw [h, s4]; intro e; injection e with e; omega
  · intro e
    have := lt b e.symm
    omega
theorem push_below {P size n : Nat} {e : TypeId} {w wr w2 w5 : World} {o1 o2 : Obj} {ov : Value} {cs : List Value} (hP : w.heap.size = P) (HW : Below w.heap.size w wr) (hown : wr.ownsRow (P + 2) e size ov n cs) (hbel : Below wr.heap.size wr w2)
    (hg : ((w2.alloc o1).alloc o2).grownBy w5 ov.ownBlock) (j : Nat) (u : Value) : Below w.heap.size w (w5.setCell ⟨P + 1, j, none⟩ u) := by
  have h1 := HW.trans (hbel.mono HW.size)
  have h2 := (h1.alloc h1.size o1)
  have h3 := h2.alloc h2.size o2
  exact (h3.grown hg h3.size (fun k hk => by have := (hown.lt k hk).1; omega)).setCell (p := ⟨P + 1, j, none⟩) (by show w.heap.size ≤ P + 1; omega) _
theorem push_blk {P size n c : Nat} {e t : TypeId} {wr w2 w5 : World} {o1 o2 : Obj} {ov : Value} {cs xs : List Value} (hown : wr.ownsRow (P + 2) e size ov n cs) (hbel : Below wr.heap.size wr w2)
    (hg : ((w2.alloc o1).alloc o2).grownBy w5 ov.ownBlock) (hc : c < P + 2) (h : Blk wr c t xs) : Blk w5 c t xs := by
  have h1 := ((h.below hbel).alloc o1).alloc o2
  exact (hg.block c h1.lt (fun e => by have := (hown.lt c e.symm).1; omega)).trans h1
theorem add_at (g k : Nat) : (⟨g, 0, none⟩ : Addr).add k = ⟨g, k, none⟩ := by
  unfold Addr.add
  by_cases hk : k = 0 <;> simp [hk]
theorem slice_of_own {w : World} {B n size : Nat} {e : TypeId} {v : Value} {cs : List Value} (h : w.ownsRow B e size v n cs) : ∃ p c, v = .slice p n c := by
  rcases h.2 with ⟨rfl, rfl⟩ | ⟨g, cap, cur, rfl, _⟩
  · exact ⟨_, _, rfl⟩
  · exact ⟨_, _, rfl⟩
theorem row_of_own {S : Nat → Prop} {w : World} {B n size : Nat} {e : TypeId} {v : Value} {cs : List Value} (h : w.ownsRow B e size v n cs) (hS : ∀ k, v.ownBlock = some k → S k) (hn : n ≤ 9223372036854775807) : RowAt S w v n cs := by
  refine ⟨hn, ?_⟩
  have hc := @World.ownsRow.cells w B e size v n cs h
  rcases h.2 with ⟨rfl, rfl⟩ | ⟨g, cap, cur, rfl, _⟩
  · exact .inl ⟨rfl, rfl⟩
  · exact .inr ⟨g, cap, rfl, hS g rfl, fun k u hu => by have h := hc rfl k u hu; rw [add_at] at h; exact h⟩
theorem timesL_len (rec : BL → V × BL) (b : BL) : ∀ k, (timesL rec k b).1.length = k
  | 0 => rfl
  | k + 1 => by rw [timesL]; simp [timesL_len rec b k]
theorem timesL_succ (rec : BL → V × BL) (k : Nat) (b : BL) : timesL rec (k + 1) b = ((timesL rec k b).1 ++ [(rec (timesL rec k b).2).1], (rec (timesL rec k b).2).2) := rfl
/-- five cells stored into a block of one's own. -/
theorem five_set {w : World} {P : Nat} {e : TypeId} {a0 a1 a2 a3 a4 b0 b1 b2 b3 b4 : Value} (h : Blk w P e [a0, a1, a2, a3, a4]) {W5 : World}
    (hW : (((((w.setCell ⟨P, 0, none⟩ b0).setCell ⟨P, 1, none⟩ b1).setCell ⟨P, 2, none⟩ b2).setCell ⟨P, 3, none⟩ b3).setCell ⟨P, 4, none⟩ b4) = W5) : Blk W5 P e [b0, b1, b2, b3, b4] ∧ Only (fun x => x = P) w W5 := by
  subst hW
  exact ⟨((((h.set 0 b0).set 1 b1).set 2 b2).set 3 b3).set 4 b4, ((((Only.set1 w P 0 _).trans (Only.set1 _ P 1 _)).trans (Only.set1 _ P 2 _)).trans (Only.set1 _ P 3 _)).trans (Only.set1 _ P 4 _)⟩
set_option maxHeartbeats 8000000 in
set_option maxRecDepth 100000 in
theorem made_list (d nb : Nat) (w : World) (sv : Value) (c : UInt8) (l : BL) (hnb : nb ≤ w.heap.size) (h : BRead nb w sv (c :: l)) (hc : c.toNat % 6 = 4) (hd : d ≤ 50) (hW : Words w)
    (ih : ∀ (w : World) (sv : Value) (l : BL), nb ≤ w.heap.size → BRead nb w sv l → Words w → MadeC d nb w sv l) : MadeC (d + 1) nb w sv (c :: l) := by
  obtain ⟨i0, hi0, hz0, hz1, hz2⟩ := value_parts
  obtain ⟨hm, a, cap, rfl, hcap, hx⟩ := h
  obtain ⟨b, off, rfl, hbn, hr⟩ := hx (by simp)
  have h0 := hr 0 c rfl
  rw [Nat.add_zero] at h0
  have h0a : (w.alloc (.cells #[.int .i64 0, .int .i64 0, .string ⟨#[]⟩, .slice none 0 0, .slice none 0 0] 28)).cell? ⟨b, off, none⟩ = some (.int .u8 c.toNat) := bcell ((Below.refl _ w).alloc (Nat.le_refl _) _) h0
  obtain ⟨m, hmm⟩ : ∃ m, c.toNat / 6 % 4 = m := ⟨_, rfl⟩
  unfold MadeC
  have hmade : madeL (d + 1) (c :: l) = (.list (timesL (madeL d) m l).1, (timesL (madeL d) m l).2) := by
    unfold madeL
    rw [if_pos hc, hmm]
  rw [hmade]
  rw [List.length_cons] at hcap hm ⊢
  obtain ⟨n, hn⟩ : ∃ n, l.length = n := ⟨_, rfl⟩
  rw [hn] at hcap hm ⊢
  obtain ⟨R, hcase, hR⟩ := made_cases nb w b off cap n c l hn hbn hm hcap hr
  obtain ⟨k, hk⟩ : ∃ k, c.toNat = k := ⟨_, rfl⟩
  rw [hk] at h0a hc hmm
  have hk8 : k < 256 := by rw [← hk]; exact c.toNat_lt
  have z6 : (k : Int) % 6 = 4 := by omega
  have zw : IntKind.i64.wrap ((k : Int) / 6) = (k : Int) / 6 := by rw [IntKind.wrap_i64]; omega
  have zm : (k : Int) / 6 % 4 = (m : Int) := by omega
  have hm4 : m < 4 := by omega
  obtain ⟨D, hD⟩ : ∃ D : Int, ((d + 1 : Nat) : Int) + 1 = D := ⟨_, rfl⟩
  have hD1 : 1 < D := by omega
  have hD2 : D ≤ 100 := by omega
  have hDe : D - 1 = (d : Int) + 1 := by omega
  rw [hD]
  have HP := Lib.hid (And.intro ih (And.intro hW (And.intro hnb (And.intro hR hDe))))
  clear h0 hr hx hk hn ih hW hnb hR hmade hD hmm hDe
  rcases hcase with ⟨hc1, hRe⟩ | ⟨hc1, hRe⟩
  all_goals (
    go_enter Tryz.func23, Tryz.ntmps23
    go_wp2_with fail
    clear hRe hc1 h0a hcap hm
    obtain ⟨P, hP⟩ : ∃ P, w.heap.size = P := ⟨_, rfl⟩
    obtain ⟨W0, hW0⟩ : ∃ W0, (w.alloc (.cells #[.int .i64 0, .int .i64 0, .string ⟨#[]⟩, .slice none 0 0, .slice none 0 0] 28)).alloc (.cells #[.int .i64 4, .int .i64 0, .string ⟨#[]⟩, .slice none 0 0, .slice none 0 0] 28) = W0 := ⟨_, rfl⟩
    have hblk := heap_alloc_new w (.cells #[.int .i64 0, .int .i64 0, .string ⟨#[]⟩, .slice none 0 0, .slice none 0 0] 28)
    have hb0 : Below w.heap.size w W0 := by rw [← hW0]; exact ((Below.refl _ w).alloc (Nat.le_refl _) _).alloc (by simp) _
    have hrb : Blk W0 P 28 [.int .i64 0, .int .i64 0, .string ⟨#[]⟩, .slice none 0 0, .slice none 0 0] := by rw [← hW0, ← hP]; exact Blk.alloc (g := w.heap.size) hblk _
    have hvb : Blk W0 (P + 1) 28 [.int .i64 4, .int .i64 0, .string ⟨#[]⟩, .slice none 0 0, .slice none 0 0] := by
      rw [← hW0, ← hP]
      exact blk_alloc2 w _ _ _
    have hsz0 : W0.heap.size = P + 2 := by rw [← hW0, ← hP]; simp
    have H0 := Lib.hid (And.intro hP (And.intro hb0 (And.intro hrb (And.intro hvb hsz0))))
    rw [hW0, hP]
    clear hP hW0 hblk hb0 hrb hvb hsz0
    have zn : ((n : Int) + 1 == 0) = false := by simp; omega
    (try simp only [z6, zn])
    clear zn z6
    go_loopg [0, 9] m (fun gk sv iv wr => ∃ (i : Nat) (ov : Value) (cs : List Value) (z : Value), gk + i = m ∧ iv = .int .i64 i ∧ z = sv ∧ Hid (BRead nb wr z (timesL (madeL d) i l).2) ∧ Hid (Blk wr P 28 [.int .i64 0, .int .i64 0, .string ⟨#[]⟩, .slice none 0 0, .slice none 0 0]) ∧
      Hid (Blk wr (P + 1) 28 [.int .i64 4, .int .i64 0, .string ⟨#[]⟩, ov, .slice none 0 0]) ∧ Hid (wr.ownsRow (P + 2) 28 5 ov i cs) ∧ Hid (VsAt (fun b => some b ≠ ov.ownBlock ∧ P + 2 ≤ b ∧ b < wr.heap.size) wr (timesL (madeL d) i l).1 cs) ∧ Hid (Below w.heap.size w wr) ∧ P + 2 ≤ wr.heap.size)
    case atStart => exact ⟨0, .slice none 0 0, [], _, Nat.add_zero _, rfl, rfl, HP.out.2.2.2.1.later (H0.out.2.1.mono HP.out.2.2.1), H0.out.2.2.1, H0.out.2.2.2.1, World.ownsRow_nil _ _ _ _, .nil, H0.out.2.1, by have := H0.out.2.2.2.2; omega⟩
    case round =>
      obtain ⟨i, ov, cs, z, hg, rfl, rfl, HB, HRb, HVb, HO, HVs, HW, hsr⟩ := hrel
      by_cases hi : i < m
      · have hiz : (i : Int) < (m : Int) := by omega
        have hwK : IntKind.i64.wrap ((i : Int) + 1) = ((i + 1 : Nat) : Int) := by rw [IntWalk.i64_in _ (by omega)]; omega
        have hih := HP.out.1 wr z (timesL (madeL d) i l).2 (Nat.le_trans HP.out.2.2.1 HW.out.size) HB.out (HP.out.2.1.later HW.out)
        unfold MadeC at hih
        rw [← HP.out.2.2.2.2] at hih
        have Hih := Lib.hid hih
        clear hih
        go_wp2_with fail
        refine Hih.out.mono ?_
        rintro e w2 ⟨qc, rv, rfl, hx, hrv, hbel⟩
        obtain ⟨q0, q1, q2, q3, q4, q5, q6, q7, q8, rfl⟩ := VAt.shape hx
        have HQ := Lib.hid (And.intro hx (And.intro hrv hbel))
        have HV2 := Lib.hid (HVb.out.below hbel)
        have v3 : (w2.alloc (.cells #[.int .i64 q0, .int .i64 q1, .string q2, .slice q3 q4 q5, .slice q6 q7 q8] 28)).cell? ⟨P + 1, 3, none⟩ = some ov := (HV2.out.alloc _).cell 3
        have HO4 := Lib.hid (((own_later HO.out hbel).alloc (.cells #[.int .i64 q0, .int .i64 q1, .string q2, .slice q3 q4 q5, .slice q6 q7 q8] 28)).alloc (.cells #[.int .i64 q0, .int .i64 q1, .string q2, .slice q3 q4 q5, .slice q6 q7 q8] 28))
        have hi4 : i + 1 ≤ 4 := by omega
        clear hx hrv hbel
        go_wp2_with (at_builtin; refine wpList_append_own_at _ rfl _ _ 25 rfl (P + 2) 28 i0 _ 5 80 Tryz.underlying25 hi0 hz0 hz1 hz2 rfl (by decide) _ _ _ rfl HO4.out ⟨w2.heap.size + 1, 0, none⟩ 1 1 [.int .i64 q0, .int .i64 q1, .string q2, .slice q3 q4 q5, .slice q6 q7 q8] rfl rfl ?c0 ?c1 ?c2 ?c3 ?c4 ?_)
        case c0 =>
          intro j u hu
          have h := (blk_alloc2 w2 (.cells #[.int .i64 q0, .int .i64 q1, .string q2, .slice q3 q4 q5, .slice q6 q7 q8] 28) [.int .i64 q0, .int .i64 q1, .string q2, .slice q3 q4 q5, .slice q6 q7 q8] 28).cell j
          rw [add_at]
          exact h.trans hu
        case c1 => exact HQ.out.1.one
        case c2 => unfold maxLen; omega
        case c3 => omega
        case c4 => have := HQ.out.2.2.size; simp; omega
        intro vv w5 hown2 hgr hnn hat
        obtain ⟨vp, vc, rfl⟩ := slice_of_own hown2
        have hK := push_keep HO.out HQ.out.2.2 hgr (hat.imp_right (fun h => h.trans (by simp))) 3 (.slice vp (i + 1) vc)
        have hbe := push_below H0.out.1 HW.out HO.out HQ.out.2.2 hgr 3 (.slice vp (i + 1) vc)
        have hp5 := push_blk HO.out HQ.out.2.2 hgr (by omega) HRb.out
        have hv5 := push_blk HO.out HQ.out.2.2 hgr (by omega) HVb.out
        have hsz5 : P + 2 ≤ (w5.setCell ⟨P + 1, 3, none⟩ (.slice vp (i + 1) vc)).heap.size := by have h1 := hgr.size; have h2 := HQ.out.2.2.size; simp at h1; simp; omega
        have hpf : Blk (w5.setCell ⟨P + 1, 3, none⟩ (.slice vp (i + 1) vc)) P 28 _ := hp5.only (Only.set1 w5 (P + 1) 3 (.slice vp (i + 1) vc)) (by omega)
        have hvf : Blk (w5.setCell ⟨P + 1, 3, none⟩ (.slice vp (i + 1) vc)) (P + 1) 28 [.int .i64 4, .int .i64 0, .string ⟨#[]⟩, (.slice vp (i + 1) vc), .slice none 0 0] := hv5.set 3 (.slice vp (i + 1) vc)
        have hof := ownsRow_setCell_below hown2 (a := ⟨P + 1, 3, none⟩) (by show P + 1 < P + 2; omega) (.slice vp (i + 1) vc)
        have hbb : Below nb w2 (w5.setCell ⟨P + 1, 3, none⟩ (.slice vp (i + 1) vc)) := by
          have hPn : nb ≤ P := by rw [← H0.out.1]; exact HP.out.2.2.1
          have h1 : Below nb w2 w2 := Below.refl _ _
          have h2 := h1.alloc (by have := HQ.out.2.2.size; omega) (.cells #[.int .i64 q0, .int .i64 q1, .string q2, .slice q3 q4 q5, .slice q6 q7 q8] 28)
          have h3 := h2.alloc (by have := HQ.out.2.2.size; simp; omega) (.cells #[.int .i64 q0, .int .i64 q1, .string q2, .slice q3 q4 q5, .slice q6 q7 q8] 28)
          exact (h3.grown hgr (by have := HQ.out.2.2.size; simp; omega) (fun k hk => by have := (HO.out.lt k hk).1; omega)).setCell (p := ⟨P + 1, 3, none⟩) (by show nb ≤ P + 1; omega) _
        have hvs := VsAt.snoc (HQ.out.1.keep (hK.2.2.1 hsr) (hK.2.2.2 hsr)) (HVs.out.keep hK.1 hK.2.1)
        have t3 := hv5.frozen 3
        have u3 := hv5.cell 3
        have HN := Lib.hid (And.intro hpf (And.intro hvf (And.intro hof (And.intro hvs (And.intro hbe (And.intro hsz5 (HQ.out.2.1.later hbb)))))))
        clear hK hbe hp5 hv5 hsz5 hpf hvf hof hbb hvs hown2 hgr hnn hat v3
        go_wp2
        go_roundg (gk - 1)
        case rel => exact ⟨i + 1, (.slice vp (i + 1) vc), _, _, by omega, rfl, rfl, Lib.hid HN.out.2.2.2.2.2.2, Lib.hid HN.out.1, Lib.hid HN.out.2.1, Lib.hid HN.out.2.2.1, Lib.hid HN.out.2.2.2.1, Lib.hid HN.out.2.2.2.2.1, HN.out.2.2.2.2.2.1⟩
        case measure => omega
      · have hie : i = m := by omega
        subst hie
        obtain ⟨op, oc, rfl⟩ := slice_of_own HO.out
        have hiz : ¬ (i : Int) < (i : Int) := by omega
        have v0 := HVb.out.cell 0
        have v1 := HVb.out.cell 1
        have v2 := HVb.out.cell 2
        have v3 := HVb.out.cell 3
        have v4 := HVb.out.cell 4
        have r0 := HRb.out.cell 0
        have r1 := HRb.out.cell 1
        have r2 := HRb.out.cell 2
        have r3 := HRb.out.cell 3
        have r4 := HRb.out.cell 4
        have s0 := HRb.out.frozen 0
        have s1 := HRb.out.frozen 1
        have s2 := HRb.out.frozen 2
        have s3 := HRb.out.frozen 3
        have s4 := HRb.out.frozen 4
        obtain ⟨W5, hW5⟩ : ∃ W5, (((((wr.setCell ⟨P, 0, none⟩ (.int .i64 4)).setCell ⟨P, 1, none⟩ (.int .i64 0)).setCell ⟨P, 2, none⟩ (.string ⟨#[]⟩)).setCell ⟨P, 3, none⟩ (.slice op i oc)).setCell ⟨P, 4, none⟩ (.slice none 0 0)) = W5 := ⟨_, rfl⟩
        obtain ⟨hR5, ho5⟩ := five_set HRb.out hW5
        have hsz5 : wr.heap.size ≤ W5.heap.size := ho5.size
        have hbb5 : Below w.heap.size w W5 := HW.out.trans (ho5.below HW.out.size (fun k hk e => by have := H0.out.1; omega))
        have hrv5 : BRead nb W5 z (timesL (madeL d) i l).2 := HB.out.later (ho5.below (by have := HP.out.2.2.1; have := HW.out.size; omega) (fun k hk e => by have := H0.out.1; have := HP.out.2.2.1; omega))
        have hvn : VNew w W5 (.list (timesL (madeL d) i l).1) [.int .i64 4, .int .i64 0, .string ⟨#[]⟩, .slice op i oc, .slice none 0 0] := by
          refine VAt.list _ cs _ ((HVs.out.keep (T := fun b => w.heap.size ≤ b ∧ b < W5.heap.size) (fun b hb => ⟨by have := H0.out.1; omega, by omega⟩) (fun b hb k u hu => ho5.cell (by show ¬ b = P; omega) hu))) ?_
          rw [timesL_len]
          refine (row_of_own (S := fun b => w.heap.size ≤ b ∧ b < wr.heap.size ∧ P + 2 ≤ b) HO.out (fun k hk => ?_) (by omega)).keep (fun b hb => ⟨hb.1, by omega⟩) (fun b hb k u hu => ho5.cell (by show ¬ b = P; omega) hu)
          have h := HO.out.lt k hk
          have := H0.out.1
          exact ⟨by omega, h.2, h.1⟩
        have HF := Lib.hid (And.intro hW5 (And.intro hR5 (And.intro hbb5 (And.intro hvn hrv5))))
        clear hW5 hR5 ho5 hsz5 hbb5 hrv5 hvn
        go_wp2
        rw [HF.out.1]
        have z0 := HF.out.2.1.cell 0
        have z1 := HF.out.2.1.cell 1
        have z2 := HF.out.2.1.cell 2
        have z3 := HF.out.2.1.cell 3
        have z4 := HF.out.2.1.cell 4
        (try simp only [Exit.inBlock, Exit.then])
        refine bodyPost_ret (v := .tuple #[.agg #[.int .i64 4, .int .i64 0, .string ⟨#[]⟩, .slice op i oc, .slice none 0 0], z]) ?_ rfl ⟨[.int .i64 4, .int .i64 0, .string ⟨#[]⟩, .slice op i oc, .slice none 0 0], z, rfl, HF.out.2.2.2.1, HF.out.2.2.2.2, HF.out.2.2.1⟩
        rw [results_cell_tmp rfl]
        go_simp
    )
end Go.Proofs.YtccnfnoonpfdfaaGreatDoor
namespace Go.Proofs.YtccnfnoonpfdfaaGreatDoor
open Go.Shelf Go.RowKit Go.Lib
/-- append to a row of one's own, at a step of a region that draws. -/
theorem step_append_own {ops : Array Oper} {o : Oper} {a : Act} {w : World} {K : Act → World → Prop} {Q : Exit → Act → World → Prop} {E : Prop}
    (hg : o.guard = none) (s x : Operand) (t : TypeId) (hop : o.op = Op.call { callee := Callee.builtin Builtin.append, args := #[s, x], argTypes := #[t, t] })
    (base : Nat) (e : TypeId) (i : TypeInfo) (z : Value) (size bytes : Nat) (ht : Tryz.prog.underlying t = some (.slice e)) (hi : Tryz.prog.info? e = some i) (hz : i.zero = some z)
    (hsize : i.size = size) (hby : i.bytes = bytes) (hzs : z.cells.size = size) (hsz : 0 < size)
    (v : Value) (n : Nat) (xs : List Value) (hs : a.eval s = v) (hown : w.ownsRow base e size v n xs)
    (p : Addr) (m c : Nat) (news : List Value) (hx : a.eval x = .slice (some p) m c) (hl : news.length = m * size) (hnews : ∀ j u, news[j]? = some u → w.cell? (p.add j) = some u) (h1 : ∀ u ∈ news, u.oneCell' = true)
    (h63 : n + m ≤ maxLen) (hbytes : (n + m) * bytes ≤ 140737488355328) (hbase : base ≤ w.heap.size)
    (hK : ∀ v' w', w'.ownsRow base e size v' (n + m) (xs ++ news) → w.grownBy w' v.ownBlock → (v'.ownBlock = v.ownBlock ∨ v'.ownBlock = some w.heap.size) → K (a.put o.dst v') w') :
    if Region.wanted o (yielded ops a.tmps) = true then Oper.wp Tryz.prog o a w K Q else E := by
  obtain ⟨v', w', hr, ho, hgr, _, hat⟩ := run_append_own_at (P := Tryz.prog) w base t 0 e i z size bytes ht hi hz hsize hby hzs hsz v n xs hown p m c news hl hnews h1 h63 hbytes hbase
  exact step_append_run hg s x t hop v _ hs hx v' w' (fun ty => hr) (hK v' w' ho hgr hat)
theorem fieldsN_le (rec : BL → V × BL) (n : Nat) (b : BL) : ∀ k, (fieldsN rec n k b).1.length ≤ k
  | 0 => Nat.le_refl _
  | k + 1 => by
    have := fieldsN_le rec n b k
    rw [fieldsN]
    split
    · simp; omega
    · omega
theorem nm_cells (u : ByteArray) (q0 q1 : Int) (q2 : ByteArray) (q3 q6 : Option Addr) (q4 q5 q7 q8 : Nat) : ∀ x ∈ [Value.string u, .int .i64 q0, .int .i64 q1, .string q2, .slice q3 q4 q5, .slice q6 q7 q8], x.oneCell' = true := by
  intro x hx
  simp only [List.mem_cons, List.not_mem_nil, or_false] at hx
  rcases hx with rfl | rfl | rfl | rfl | rfl | rfl <;> rfl
set_option maxHeartbeats 8000000 in
set_option maxRecDepth 100000 in
theorem made_obj (d nb : Nat) (w : World) (sv : Value) (c : UInt8) (l : BL) (hnb : nb ≤ w.heap.size) (h : BRead nb w sv (c :: l)) (hc : c.toNat % 6 = 5) (hd : d ≤ 50) (hW : Words w)
    (ih : ∀ (w : World) (sv : Value) (l : BL), nb ≤ w.heap.size → BRead nb w sv l → Words w → MadeC d nb w sv l) : MadeC (d + 1) nb w sv (c :: l) := by
  obtain ⟨i0, hi0, hz0, hz1, hz2⟩ := field_parts
  obtain ⟨hm, a, cap, rfl, hcap, hx⟩ := h
  obtain ⟨b, off, rfl, hbn, hr⟩ := hx (by simp)
  have h0 := hr 0 c rfl
  rw [Nat.add_zero] at h0
  have h0a : (w.alloc (.cells #[.int .i64 0, .int .i64 0, .string ⟨#[]⟩, .slice none 0 0, .slice none 0 0] 28)).cell? ⟨b, off, none⟩ = some (.int .u8 c.toNat) := bcell ((Below.refl _ w).alloc (Nat.le_refl _) _) h0
  obtain ⟨m, hmm⟩ : ∃ m, c.toNat / 6 = m := ⟨_, rfl⟩
  unfold MadeC
  have hmade : madeL (d + 1) (c :: l) = (.obj (fieldsN (madeL d) m 4 l).1, (fieldsN (madeL d) m 4 l).2) := by
    unfold madeL
    rw [if_neg (by omega), if_pos hc, hmm]
  rw [hmade]
  rw [List.length_cons] at hcap hm ⊢
  obtain ⟨n, hn⟩ : ∃ n, l.length = n := ⟨_, rfl⟩
  rw [hn] at hcap hm ⊢
  obtain ⟨R, hcase, hR⟩ := made_cases nb w b off cap n c l hn hbn hm hcap hr
  obtain ⟨k, hk⟩ : ∃ k, c.toNat = k := ⟨_, rfl⟩
  rw [hk] at h0a hc hmm
  have hk8 : k < 256 := by rw [← hk]; exact c.toNat_lt
  have z6 : (k : Int) % 6 = 5 := by omega
  have zw : IntKind.i64.wrap ((k : Int) / 6) = (k : Int) / 6 := by rw [IntKind.wrap_i64]; omega
  have zm : (k : Int) / 6 = (m : Int) := by omega
  have hm4 : m < 43 := by omega
  obtain ⟨D, hD⟩ : ∃ D : Int, ((d + 1 : Nat) : Int) + 1 = D := ⟨_, rfl⟩
  have hD1 : 1 < D := by omega
  have hD2 : D ≤ 100 := by omega
  have hDe : D - 1 = (d : Int) + 1 := by omega
  rw [hD]
  have HP := Lib.hid (And.intro ih (And.intro hW (And.intro hnb (And.intro hR (And.intro hDe zm)))))
  clear h0 hr hx hk hn ih hW hnb hR hmade hD hmm hDe zm
  rcases hcase with ⟨hc1, hRe⟩ | ⟨hc1, hRe⟩
  all_goals (
    go_enter Tryz.func23, Tryz.ntmps23
    go_wp2_with fail
    clear hRe hc1 h0a hcap hm
    obtain ⟨P, hP⟩ : ∃ P, w.heap.size = P := ⟨_, rfl⟩
    obtain ⟨W0, hW0⟩ : ∃ W0, (w.alloc (.cells #[.int .i64 0, .int .i64 0, .string ⟨#[]⟩, .slice none 0 0, .slice none 0 0] 28)).alloc (.cells #[.int .i64 5, .int .i64 0, .string ⟨#[]⟩, .slice none 0 0, .slice none 0 0] 28) = W0 := ⟨_, rfl⟩
    have hblk := heap_alloc_new w (.cells #[.int .i64 0, .int .i64 0, .string ⟨#[]⟩, .slice none 0 0, .slice none 0 0] 28)
    have hb0 : Below w.heap.size w W0 := by rw [← hW0]; exact ((Below.refl _ w).alloc (Nat.le_refl _) _).alloc (by simp) _
    have hrb : Blk W0 P 28 [.int .i64 0, .int .i64 0, .string ⟨#[]⟩, .slice none 0 0, .slice none 0 0] := by rw [← hW0, ← hP]; exact Blk.alloc (g := w.heap.size) hblk _
    have hvb : Blk W0 (P + 1) 28 [.int .i64 5, .int .i64 0, .string ⟨#[]⟩, .slice none 0 0, .slice none 0 0] := by
      rw [← hW0, ← hP]
      exact blk_alloc2 w _ _ _
    have hsz0 : W0.heap.size = P + 2 := by rw [← hW0, ← hP]; simp
    have H0 := Lib.hid (And.intro hP (And.intro hb0 (And.intro hrb (And.intro hvb hsz0))))
    rw [hW0, hP]
    clear hP hW0 hblk hb0 hrb hvb hsz0
    have zn : ((n : Int) + 1 == 0) = false := by simp; omega
    (try simp only [z6, zn])
    clear zn z6
    go_loopg [0, 95] 4 (fun gk sv iv wr => ∃ (i : Nat) (ov : Value) (cs : List Value) (z : Value), gk + i = 4 ∧ iv = .int .i64 i ∧ z = sv ∧ Hid (BRead nb wr z (fieldsN (madeL d) m i l).2) ∧ Hid (Blk wr P 28 [.int .i64 0, .int .i64 0, .string ⟨#[]⟩, .slice none 0 0, .slice none 0 0]) ∧
      Hid (Blk wr (P + 1) 28 [.int .i64 5, .int .i64 0, .string ⟨#[]⟩, .slice none 0 0, ov]) ∧ Hid (wr.ownsRow (P + 2) 51 6 ov (fieldsN (madeL d) m i l).1.length cs) ∧ Hid (FsAt (fun b => some b ≠ ov.ownBlock ∧ P + 2 ≤ b ∧ b < wr.heap.size) wr (fieldsN (madeL d) m i l).1 cs) ∧ Hid (Below w.heap.size w wr) ∧ P + 2 ≤ wr.heap.size)
    case atStart => exact ⟨0, .slice none 0 0, [], _, Nat.add_zero _, rfl, rfl, HP.out.2.2.2.1.later (H0.out.2.1.mono HP.out.2.2.1), H0.out.2.2.1, H0.out.2.2.2.1, World.ownsRow_nil _ _ _ _, .nil, H0.out.2.1, by have := H0.out.2.2.2.2; omega⟩
    case round =>
      obtain ⟨i, ov, cs, z, hg, rfl, rfl, HB, HRb, HVb, HO, HVs, HW, hsr⟩ := hrel
      by_cases hi : i < 4
      · have hiz : (i : Int) < 4 := by omega
        have hwK : IntKind.i64.wrap ((i : Int) + 1) = ((i + 1 : Nat) : Int) := by rw [IntWalk.i64_in _ (by omega)]; omega
        have hkz : ((k : Int) / 6 / 2 ^ i) = ((m / 2 ^ i : Nat) : Int) := by rw [HP.out.2.2.2.2.2]; push_cast; rfl
        have hfs : fieldsN (madeL d) m (i + 1) l = if m / 2 ^ i % 2 = 1 then ((fieldsN (madeL d) m i l).1 ++ [(nameL i, (madeL d (fieldsN (madeL d) m i l).2).1)], (madeL d (fieldsN (madeL d) m i l).2).2) else fieldsN (madeL d) m i l := rfl
        have hle := fieldsN_le (madeL d) m l i
        by_cases hbit : m / 2 ^ i % 2 = 1
        · have hb1 : (((k : Int) / 6 / 2 ^ i).tmod 2 == 1) = true := by
            rw [hkz, show ((m / 2 ^ i : Nat) : Int).tmod 2 = ((m / 2 ^ i % 2 : Nat) : Int) from rfl, hbit]; rfl
          rw [if_pos hbit] at hfs
          obtain ⟨cnt, hcnt⟩ : ∃ cnt, (fieldsN (madeL d) m i l).1.length = cnt := ⟨_, rfl⟩
          rw [hcnt] at hle HO
          have HFS := Lib.hid (And.intro hfs hcnt)
          have hih := HP.out.1 wr z (fieldsN (madeL d) m i l).2 (Nat.le_trans HP.out.2.2.1 HW.out.size) HB.out (HP.out.2.1.later HW.out)
          unfold MadeC at hih
          rw [← HP.out.2.2.2.2.1] at hih
          have Hih := Lib.hid hih
          obtain ⟨NM, hNM⟩ : ∃ NM, BA (nameL i) = NM := ⟨_, rfl⟩
          have hnc : wr.cell? ⟨1, i, none⟩ = some (.string NM) := by rw [← hNM]; exact bcell HW.out (HP.out.2.1.2 i hi)
          have HNM := Lib.hid (And.intro hNM hnc)
          clear hih hfs hcnt hkz hbit hNM hnc
          go_wp2_with fail
          refine Hih.out.mono ?_
          rintro e w2 ⟨qc, rv, rfl, hx, hrv, hbel⟩
          obtain ⟨q0, q1, q2, q3, q4, q5, q6, q7, q8, rfl⟩ := VAt.shape hx
          obtain ⟨W3, hW3⟩ : ∃ W3, w2.alloc (.cells #[.int .i64 q0, .int .i64 q1, .string q2, .slice q3 q4 q5, .slice q6 q7 q8] 28) = W3 := ⟨_, rfl⟩
          have hs3 : W3.heap.size = w2.heap.size + 1 := by rw [← hW3]; simp
          have hb3 : Below w2.heap.size w2 W3 := by rw [← hW3]; exact (Below.refl _ w2).alloc (Nat.le_refl _) _
          have hk3 : Blk W3 w2.heap.size 28 [.int .i64 q0, .int .i64 q1, .string q2, .slice q3 q4 q5, .slice q6 q7 q8] := by rw [← hW3]; exact heap_alloc_new w2 _
          have HQ := Lib.hid (And.intro hx (And.intro hrv (And.intro hbel (And.intro hW3 hs3))))
          have HV3 := Lib.hid ((HVb.out.below hbel).below hb3)
          have hnew : Blk (W3.drew.alloc (.cells #[.string NM, .int .i64 q0, .int .i64 q1, .string q2, .slice q3 q4 q5, .slice q6 q7 q8] 51)) W3.heap.size 51 [.string NM, .int .i64 q0, .int .i64 q1, .string q2, .slice q3 q4 q5, .slice q6 q7 q8] := heap_alloc_new W3.drew _
          have HNW := Lib.hid (show ∀ (j : Nat) (u : Value), [Value.string NM, .int .i64 q0, .int .i64 q1, .string q2, .slice q3 q4 q5, .slice q6 q7 q8][j]? = some u → (W3.drew.alloc (.cells #[.string NM, .int .i64 q0, .int .i64 q1, .string q2, .slice q3 q4 q5, .slice q6 q7 q8] 51)).cell? ((⟨W3.heap.size, 0, none⟩ : Addr).add j) = some u from fun j u hu => by rw [add_at]; exact (hnew.cell j).trans hu)
          have HO3 := Lib.hid (((own_later HO.out hbel).kept (row := none) ⟨hb3.os, hb3.tape, hb3.output, hb3.size, fun k hk _ => hb3.block k hk⟩ (by rcases hv : ov.ownBlock with _ | k <;> simp)).drew.alloc (.cells #[.string NM, .int .i64 q0, .int .i64 q1, .string q2, .slice q3 q4 q5, .slice q6 q7 q8] 51))
          have hP3 : P + 2 ≤ (W3.drew.alloc (.cells #[.string NM, .int .i64 q0, .int .i64 q1, .string q2, .slice q3 q4 q5, .slice q6 q7 q8] 51)).heap.size := by have := hbel.size; simp [hs3]; omega
          have hc3 : cnt + 1 ≤ maxLen := by unfold maxLen; omega
          have hc4 : (cnt + 1) * 96 ≤ 140737488355328 := by omega
          have HC := Lib.hid (And.intro hc3 (And.intro hc4 hP3))
          have HB3 := Lib.hid (And.intro hk3 (bcell hb3 (bcell hbel HNM.out.2)))
          clear hx hrv hbel hnew hP3 hc3 hc4 hs3 hb3 hk3
          go_wp2_with fail
          (try rw [hW3])
          clear hW3
          have v4 : W3.cell? ⟨P + 1, 4, none⟩ = some ov := HV3.out.cell 4
          have v5 : (W3.alloc (.cells #[.string NM, .int .i64 q0, .int .i64 q1, .string q2, .slice q3 q4 q5, .slice q6 q7 q8] 51)).cell? ⟨P + 1, 4, none⟩ = some ov := (HV3.out.alloc _).cell 4
          have v6 : (W3.drew.alloc (.cells #[.string NM, .int .i64 q0, .int .i64 q1, .string q2, .slice q3 q4 q5, .slice q6 q7 q8] 51)).cell? ⟨P + 1, 4, none⟩ = some ov := (HV3.out.drew.alloc _).cell 4
          have n4 : W3.cell? ⟨1, i, none⟩ = some (.string NM) := HB3.out.2
          have p0 := HB3.out.1.cell 0
          have p1 := HB3.out.1.cell 1
          have p2 := HB3.out.1.cell 2
          have p3 := HB3.out.1.cell 3
          have p4 := HB3.out.1.cell 4
          go_region_law (first
            | (refine step_append_own rfl (.tmp 111) (.tmp 117) 26 rfl (P + 2) 51 i0 _ 6 96 Tryz.underlying26 hi0 hz0 hz1 hz2 rfl (by decide) ov cnt cs (by simp [Act.eval]) HO3.out ⟨W3.heap.size, 0, none⟩ 1 1 [.string NM, .int .i64 q0, .int .i64 q1, .string q2, .slice q3 q4 q5, .slice q6 q7 q8] (by simp [Act.eval]) rfl HNW.out (nm_cells _ _ _ _ _ _ _ _ _ _) HC.out.1 HC.out.2.1 HC.out.2.2 ?_; intro vv w5 hown2 hgr hat; obtain ⟨vp, vc, rfl⟩ := slice_of_own hown2; have hgr2 : ((w2.alloc (.cells #[.int .i64 q0, .int .i64 q1, .string q2, .slice q3 q4 q5, .slice q6 q7 q8] 28)).alloc (.cells #[.string NM, .int .i64 q0, .int .i64 q1, .string q2, .slice q3 q4 q5, .slice q6 q7 q8] 51)).grownBy w5 ov.ownBlock := (by rw [HQ.out.2.2.2.1]; exact ⟨hgr.os, hgr.tape, hgr.output, hgr.size, hgr.block⟩); have hv5 := push_blk HO.out HQ.out.2.2.1 hgr2 (by omega) HVb.out; have t4 := hv5.frozen 4; have u4 := hv5.cell 4; have HV5 := Lib.hid hv5; have HG := Lib.hid hgr2; have HOW := Lib.hid hown2; have HAT := Lib.hid hat; clear hgr2 hv5 hown2 hgr hat))
          all_goals
            clear v4 v5 v6 n4 p0 p1 p2 p3 p4 t4 u4
            have hK := push_keep HO.out HQ.out.2.2.1 HG.out (HAT.out.imp_right (fun h => h.trans (by rw [← HQ.out.2.2.2.1]; simp))) 4 (.slice vp (cnt + 1) vc)
            have hbe := push_below H0.out.1 HW.out HO.out HQ.out.2.2.1 HG.out 4 (.slice vp (cnt + 1) vc)
            have hp5 := push_blk HO.out HQ.out.2.2.1 HG.out (by omega) HRb.out
            have hsz5 : P + 2 ≤ (w5.setCell ⟨P + 1, 4, none⟩ (.slice vp (cnt + 1) vc)).heap.size := by have h1 := HG.out.size; have h2 := HQ.out.2.2.1.size; simp at h1; simp; omega
            have hpf : Blk (w5.setCell ⟨P + 1, 4, none⟩ (.slice vp (cnt + 1) vc)) P 28 _ := hp5.only (Only.set1 w5 (P + 1) 4 (.slice vp (cnt + 1) vc)) (by omega)
            have hvf : Blk (w5.setCell ⟨P + 1, 4, none⟩ (.slice vp (cnt + 1) vc)) (P + 1) 28 [.int .i64 5, .int .i64 0, .string ⟨#[]⟩, .slice none 0 0, (.slice vp (cnt + 1) vc)] := HV5.out.set 4 (.slice vp (cnt + 1) vc)
            have hof := ownsRow_setCell_below HOW.out (a := ⟨P + 1, 4, none⟩) (by show P + 1 < P + 2; omega) (.slice vp (cnt + 1) vc)
            have hbb : Below nb w2 (w5.setCell ⟨P + 1, 4, none⟩ (.slice vp (cnt + 1) vc)) := by
              have hPn : nb ≤ P := by rw [← H0.out.1]; exact HP.out.2.2.1
              have h1 : Below nb w2 w2 := Below.refl _ _
              have h2 := h1.alloc (by have := HQ.out.2.2.1.size; omega) (.cells #[.int .i64 q0, .int .i64 q1, .string q2, .slice q3 q4 q5, .slice q6 q7 q8] 28)
              have h3 := h2.alloc (by have := HQ.out.2.2.1.size; simp; omega) (.cells #[.string NM, .int .i64 q0, .int .i64 q1, .string q2, .slice q3 q4 q5, .slice q6 q7 q8] 51)
              exact (h3.grown HG.out (by have := HQ.out.2.2.1.size; simp; omega) (fun k hk => by have := (HO.out.lt k hk).1; omega)).setCell (p := ⟨P + 1, 4, none⟩) (by show nb ≤ P + 1; omega) _
            have hvs := FsAt.snoc (n := nameL i) (HQ.out.1.keep (hK.2.2.1 hsr) (hK.2.2.2 hsr)) (HVs.out.keep hK.1 hK.2.1)
            rw [HNM.out.1] at hvs
            have hrl := HQ.out.2.1.later hbb
            rw [show (madeL d (fieldsN (madeL d) m i l).2).2 = (fieldsN (madeL d) m (i + 1) l).2 by rw [HFS.out.1]] at hrl
            rw [show (fieldsN (madeL d) m i l).1 ++ [(nameL i, (madeL d (fieldsN (madeL d) m i l).2).1)] = (fieldsN (madeL d) m (i + 1) l).1 by rw [HFS.out.1]] at hvs
            have HCL := Lib.hid (show (fieldsN (madeL d) m (i + 1) l).1.length = cnt + 1 by rw [HFS.out.1, List.length_append, HFS.out.2]; rfl)
            have HN := Lib.hid (And.intro hpf (And.intro hvf (And.intro hof (And.intro hvs (And.intro hbe (And.intro hsz5 hrl))))))
            clear hK hbe hp5 hsz5 hpf hvf hof hbb hvs hrl
            go_wp2
            go_roundg (gk - 1)
            case rel => exact ⟨i + 1, _, _, _, by omega, rfl, rfl, Lib.hid HN.out.2.2.2.2.2.2, Lib.hid HN.out.1, Lib.hid HN.out.2.1, Lib.hid (by rw [HCL.out]; exact HN.out.2.2.1), Lib.hid HN.out.2.2.2.1, Lib.hid HN.out.2.2.2.2.1, HN.out.2.2.2.2.2.1⟩
            case measure => omega
        · have hb1 : (((k : Int) / 6 / 2 ^ i).tmod 2 == 1) = false := by
            rw [hkz, show ((m / 2 ^ i : Nat) : Int).tmod 2 = ((m / 2 ^ i % 2 : Nat) : Int) from rfl, show m / 2 ^ i % 2 = 0 by omega]; rfl
          rw [if_neg hbit] at hfs
          rw [← hfs] at HB HO HVs
          clear hkz hbit hfs
          go_wp2
          go_roundg (gk - 1)
          case rel => exact ⟨i + 1, ov, cs, z, by omega, rfl, rfl, HB, HRb, HVb, HO, HVs, HW, hsr⟩
          case measure => omega
      · have hie : i = 4 := by omega
        subst hie
        have hle := fieldsN_le (madeL d) m l 4
        obtain ⟨CNT, hCNT⟩ : ∃ C, (fieldsN (madeL d) m 4 l).1.length = C := ⟨_, rfl⟩
        rw [hCNT] at HO hle
        have HCN := Lib.hid hCNT
        clear hCNT
        obtain ⟨op, oc, rfl⟩ := slice_of_own HO.out
        have hiz : ¬ ((4 : Nat) : Int) < 4 := by omega
        have v0 := HVb.out.cell 0
        have v1 := HVb.out.cell 1
        have v2 := HVb.out.cell 2
        have v3 := HVb.out.cell 3
        have v4 := HVb.out.cell 4
        have r0 := HRb.out.cell 0
        have r1 := HRb.out.cell 1
        have r2 := HRb.out.cell 2
        have r3 := HRb.out.cell 3
        have r4 := HRb.out.cell 4
        have s0 := HRb.out.frozen 0
        have s1 := HRb.out.frozen 1
        have s2 := HRb.out.frozen 2
        have s3 := HRb.out.frozen 3
        have s4 := HRb.out.frozen 4
        obtain ⟨W5, hW5⟩ : ∃ W5, (((((wr.setCell ⟨P, 0, none⟩ (.int .i64 5)).setCell ⟨P, 1, none⟩ (.int .i64 0)).setCell ⟨P, 2, none⟩ (.string ⟨#[]⟩)).setCell ⟨P, 3, none⟩ (.slice none 0 0)).setCell ⟨P, 4, none⟩ (.slice op CNT oc)) = W5 := ⟨_, rfl⟩
        obtain ⟨hR5, ho5⟩ := five_set HRb.out hW5
        have hsz5 : wr.heap.size ≤ W5.heap.size := ho5.size
        have hbb5 : Below w.heap.size w W5 := HW.out.trans (ho5.below HW.out.size (fun k hk e => by have := H0.out.1; omega))
        have hrv5 : BRead nb W5 z (fieldsN (madeL d) m 4 l).2 := HB.out.later (ho5.below (by have := HP.out.2.2.1; have := HW.out.size; omega) (fun k hk e => by have := H0.out.1; have := HP.out.2.2.1; omega))
        have hvn : VNew w W5 (.obj (fieldsN (madeL d) m 4 l).1) [.int .i64 5, .int .i64 0, .string ⟨#[]⟩, .slice none 0 0, .slice op CNT oc] := by
          refine VAt.obj _ cs _ ((HVs.out.keep (T := fun b => w.heap.size ≤ b ∧ b < W5.heap.size) (fun b hb => ⟨by have := H0.out.1; omega, by omega⟩) (fun b hb k u hu => ho5.cell (by show ¬ b = P; omega) hu))) ?_
          rw [HCN.out]
          refine (row_of_own (S := fun b => w.heap.size ≤ b ∧ b < wr.heap.size ∧ P + 2 ≤ b) HO.out (fun k hk => ?_) (by omega)).keep (fun b hb => ⟨hb.1, by omega⟩) (fun b hb k u hu => ho5.cell (by show ¬ b = P; omega) hu)
          have h := HO.out.lt k hk
          have := H0.out.1
          exact ⟨by omega, h.2, h.1⟩
        have HF := Lib.hid (And.intro hW5 (And.intro hR5 (And.intro hbb5 (And.intro hvn hrv5))))
        clear hW5 hR5 ho5 hsz5 hbb5 hrv5 hvn
        go_wp2
        rw [HF.out.1]
        have z0 := HF.out.2.1.cell 0
        have z1 := HF.out.2.1.cell 1
        have z2 := HF.out.2.1.cell 2
        have z3 := HF.out.2.1.cell 3
        have z4 := HF.out.2.1.cell 4
        (try simp only [Exit.inBlock, Exit.then])
        refine bodyPost_ret (v := .tuple #[.agg #[.int .i64 5, .int .i64 0, .string ⟨#[]⟩, .slice none 0 0, .slice op CNT oc], z]) ?_ rfl ⟨[.int .i64 5, .int .i64 0, .string ⟨#[]⟩, .slice none 0 0, .slice op CNT oc], z, rfl, HF.out.2.2.2.1, HF.out.2.2.2.2, HF.out.2.2.1⟩
        rw [results_cell_tmp rfl]
        go_simp
    )
end Go.Proofs.YtccnfnoonpfdfaaGreatDoor
namespace Go.Proofs.YtccnfnoonpfdfaaGreatDoor
open Go.Shelf Go.RowKit Go.Lib
theorem made_any (nb : Nat) : ∀ (d : Nat), d ≤ 50 → ∀ (w : World) (sv : Value) (l : BL), nb ≤ w.heap.size → BRead nb w sv l → Words w → MadeC d nb w sv l := by
  intro d
  induction d with
  | zero =>
    intro _ w sv l hnb h hW
    cases l with
    | nil => exact made_nil 0 nb w sv h
    | cons c l =>
      by_cases hcap : ∃ a n, sv = .slice a n 1
      · rcases (show c.toNat % 6 = 0 ∨ c.toNat % 6 = 1 ∨ c.toNat % 6 = 2 ∨ c.toNat % 6 = 3 ∨ c.toNat % 6 = 4 ∨ c.toNat % 6 = 5 by omega) with hc | hc | hc | hc | hc | hc
        · exact made_null1 0 nb w sv c l hnb h hcap hc
        · exact made_bool1 0 nb w sv c l hnb h hcap hc
        · exact made_int1 0 nb w sv c l hnb h hcap hc
        · exact made_text1 0 nb w sv c l hnb h hcap hc hW
        · exact made_deep41 nb w sv c l hnb h hcap hc
        · exact made_deep51 nb w sv c l hnb h hcap hc
      · rcases (show c.toNat % 6 = 0 ∨ c.toNat % 6 = 1 ∨ c.toNat % 6 = 2 ∨ c.toNat % 6 = 3 ∨ c.toNat % 6 = 4 ∨ c.toNat % 6 = 5 by omega) with hc | hc | hc | hc | hc | hc
        · exact made_nulln 0 nb w sv c l hnb h hcap hc
        · exact made_booln 0 nb w sv c l hnb h hcap hc
        · exact made_intn 0 nb w sv c l hnb h hcap hc
        · exact made_textn 0 nb w sv c l hnb h hcap hc hW
        · exact made_deep4n nb w sv c l hnb h hcap hc
        · exact made_deep5n nb w sv c l hnb h hcap hc
  | succ d ih =>
    intro hd w sv l hnb h hW
    cases l with
    | nil => exact made_nil (d + 1) nb w sv h
    | cons c l =>
      have ih2 := fun w sv l hnb h hW => ih (by omega) w sv l hnb h hW
      by_cases hcap : ∃ a n, sv = .slice a n 1
      · rcases (show c.toNat % 6 = 0 ∨ c.toNat % 6 = 1 ∨ c.toNat % 6 = 2 ∨ c.toNat % 6 = 3 ∨ c.toNat % 6 = 4 ∨ c.toNat % 6 = 5 by omega) with hc | hc | hc | hc | hc | hc
        · exact made_null1 (d + 1) nb w sv c l hnb h hcap hc
        · exact made_bool1 (d + 1) nb w sv c l hnb h hcap hc
        · exact made_int1 (d + 1) nb w sv c l hnb h hcap hc
        · exact made_text1 (d + 1) nb w sv c l hnb h hcap hc hW
        · exact made_list d nb w sv c l hnb h hc (by omega) hW ih2
        · exact made_obj d nb w sv c l hnb h hc (by omega) hW ih2
      · rcases (show c.toNat % 6 = 0 ∨ c.toNat % 6 = 1 ∨ c.toNat % 6 = 2 ∨ c.toNat % 6 = 3 ∨ c.toNat % 6 = 4 ∨ c.toNat % 6 = 5 by omega) with hc | hc | hc | hc | hc | hc
        · exact made_nulln (d + 1) nb w sv c l hnb h hcap hc
        · exact made_booln (d + 1) nb w sv c l hnb h hcap hc
        · exact made_intn (d + 1) nb w sv c l hnb h hcap hc
        · exact made_textn (d + 1) nb w sv c l hnb h hcap hc hW
        · exact made_list d nb w sv c l hnb h hc (by omega) hW ih2
        · exact made_obj d nb w sv c l hnb h hc (by omega) hW ih2
/-- the value of bytes. -/
def ofL (l : BL) : V := (madeL 3 (l.take 60)).1
theorem BRead.take {n : Nat} {w : World} {a : Option Addr} {k cap : Nat} {l : BL} (m : Nat) (h : BRead n w (.slice a k cap) l) : BRead n w (.slice a (min k m) cap) (l.take m) := by
  obtain ⟨hm, a2, cap2, he, hc, hx⟩ := h
  injection he with e1 e2 e3
  subst e1 e2 e3
  have hl : (l.take m).length = min l.length m := by rw [List.length_take]; omega
  refine ⟨by omega, _, _, by rw [hl], by omega, fun hp => ?_⟩
  obtain ⟨b, off, rfl, hb, hr⟩ := hx (by omega)
  refine ⟨b, off, rfl, hb, fun i u hu => hr i u ?_⟩
  rw [List.getElem?_take] at hu
  split at hu
  · exact hu
  · cases hu
set_option maxHeartbeats 4000000 in
set_option maxRecDepth 100000 in
theorem of_any (nb : Nat) (w : World) (sv : Value) (l : BL) (hnb : nb ≤ w.heap.size) (h : BRead nb w sv l) (hW : Words w) :
    Calls Tryz.prog 11 #[sv] w fun e w' => ∃ c, e = .returned (.agg c.toArray) ∧ VNew w w' (ofL l) c ∧ Below w.heap.size w w' := by
  obtain ⟨W0, hW0⟩ : ∃ W0, w.alloc (.cells #[.int .i64 0, .int .i64 0, .string ⟨#[]⟩, .slice none 0 0, .slice none 0 0] 28) = W0 := ⟨_, rfl⟩
  obtain ⟨P, hP⟩ : ∃ P, w.heap.size = P := ⟨_, rfl⟩
  have hb0 : Below w.heap.size w W0 := by rw [← hW0]; exact (Below.refl _ w).alloc (Nat.le_refl _) _
  have hk0 : Blk W0 P 28 [.int .i64 0, .int .i64 0, .string ⟨#[]⟩, .slice none 0 0, .slice none 0 0] := by rw [← hW0, ← hP]; exact heap_alloc_new w _
  have h2 := h
  obtain ⟨hm, a, cap, rfl, hcap, _⟩ := h2
  have ht := h.take 60
  obtain ⟨n, hn⟩ : ∃ n, l.length = n := ⟨_, rfl⟩
  rw [hn] at ht hm hcap ⊢
  have hmade := made_any nb 3 (by omega) W0 _ _ (Nat.le_trans hnb hb0.size) (ht.later (hb0.mono hnb)) (hW.later hb0)
  unfold MadeC at hmade
  have hmm : (min (n : Int) 60) = ((min n 60 : Nat) : Int) := by omega
  have hmt : (min (n : Int) 60).toNat = min n 60 := by omega
  have H := Lib.hid (And.intro hW0 (And.intro hP (And.intro hb0 (And.intro hk0 hmade))))
  clear hW0 hP hb0 hk0 hmade ht h hW hnb hn hmm
  go_enter Tryz.func11, Tryz.ntmps11
  go_wp2_with fail
  rw [H.out.1, H.out.2.1]
  (try rw [hmt])
  refine H.out.2.2.2.2.mono ?_
  rintro e w2 ⟨qc, rv, rfl, hx, hrv, hbel⟩
  obtain ⟨q0, q1, q2, q3, q4, q5, q6, q7, q8, rfl⟩ := VAt.shape hx
  obtain ⟨W3, hW3⟩ : ∃ W3, w2.alloc (.cells #[.int .i64 q0, .int .i64 q1, .string q2, .slice q3 q4 q5, .slice q6 q7 q8] 28) = W3 := ⟨_, rfl⟩
  have hb3 : Below w2.heap.size w2 W3 := by rw [← hW3]; exact (Below.refl _ w2).alloc (Nat.le_refl _) _
  have hk3 : Blk W3 w2.heap.size 28 [.int .i64 q0, .int .i64 q1, .string q2, .slice q3 q4 q5, .slice q6 q7 q8] := by rw [← hW3]; exact heap_alloc_new w2 _
  have hkP : Blk W3 P 28 [.int .i64 0, .int .i64 0, .string ⟨#[]⟩, .slice none 0 0, .slice none 0 0] := (H.out.2.2.2.1.below hbel).below hb3
  have hP0 : P < W0.heap.size := H.out.2.2.2.1.lt
  have hsz2 := hbel.size
  obtain ⟨W5, hW5⟩ : ∃ W5, (((((W3.setCell ⟨P, 0, none⟩ (.int .i64 q0)).setCell ⟨P, 1, none⟩ (.int .i64 q1)).setCell ⟨P, 2, none⟩ (.string q2)).setCell ⟨P, 3, none⟩ (.slice q3 q4 q5)).setCell ⟨P, 4, none⟩ (.slice q6 q7 q8)) = W5 := ⟨_, rfl⟩
  obtain ⟨hR5, ho5⟩ := five_set hkP hW5
  have hbb3 : Below w.heap.size w W3 := (H.out.2.2.1.trans (hbel.mono H.out.2.2.1.size)).trans (hb3.mono (by have := H.out.2.2.1.size; omega))
  have hbb5 : Below w.heap.size w W5 := hbb3.trans (ho5.below hbb3.size (fun k hk e => by have := H.out.2.1; omega))
  have hvn : VNew w W5 (ofL l) [.int .i64 q0, .int .i64 q1, .string q2, .slice q3 q4 q5, .slice q6 q7 q8] :=
    VAt.keep (S := fun b => W0.heap.size ≤ b ∧ b < w2.heap.size) (fun b hb => ⟨by have := H.out.2.2.1.size; omega, by have := hb3.size; have := ho5.size; omega⟩) (fun b hb k u hu => ho5.cell (by show ¬ b = P; omega) (bcell hb3 hu)) hx
  have HF := Lib.hid (And.intro hW3 (And.intro hW5 (And.intro hR5 (And.intro hvn hbb5))))
  have z3 := hk3
  have v0 := hk3.cell 0
  have v1 := hk3.cell 1
  have v2 := hk3.cell 2
  have v3 := hk3.cell 3
  have v4 := hk3.cell 4
  have r0 := hkP.cell 0
  have r1 := hkP.cell 1
  have r2 := hkP.cell 2
  have r3 := hkP.cell 3
  have r4 := hkP.cell 4
  have s0 := hkP.frozen 0
  have s1 := hkP.frozen 1
  have s2 := hkP.frozen 2
  have s3 := hkP.frozen 3
  have s4 := hkP.frozen 4
  clear hW5 hR5 hvn hbb5 ho5 hbb3 hkP hk3 z3 hb3 hsz2 hP0 hx hrv hbel
  go_wp2
  rw [HF.out.2.1]
  (try simp only [Exit.inBlock, Exit.then])
  refine bodyPost_ret (v := .agg #[.int .i64 q0, .int .i64 q1, .string q2, .slice q3 q4 q5, .slice q6 q7 q8]) ?_ rfl ⟨[.int .i64 q0, .int .i64 q1, .string q2, .slice q3 q4 q5, .slice q6 q7 q8], rfl, HF.out.2.2.2.1, HF.out.2.2.2.2⟩
  exact results_cell_row rfl _ W5 P 28 _ (0, 0) _ rfl HF.out.2.2.1 Tryz.underlying28 rfl (by kernel_rfl)
end Go.Proofs.YtccnfnoonpfdfaaGreatDoor
namespace Go.Proofs.YtccnfnoonpfdfaaGreatDoor
open Go.Shelf Go.RowKit Go.Lib
def lcmp : BL → BL → Ordering
  | [], [] => .eq
  | [], _ :: _ => .lt
  | _ :: _, [] => .gt
  | a :: l, b :: m => if a < b then .lt else if b < a then .gt else lcmp l m
theorem lcmp_cons (a b : UInt8) (l m : BL) : lcmp (a :: l) (b :: m) = if a < b then .lt else if b < a then .gt else lcmp l m := by rw [lcmp]
def icmp (a b : Int) : Ordering := if a < b then .lt else if b < a then .gt else .eq
def sgnO : Ordering → Int
  | .lt => -1
  | .eq => 0
  | .gt => 1
theorem lcmp_same (p s t : BL) : lcmp (p ++ s) (p ++ t) = lcmp s t := by
  induction p with
  | nil => rfl
  | cons a p ih => simp [lcmp, ih]
theorem lcmp_refl (p : BL) : lcmp p p = .eq := by
  have := lcmp_same p [] []
  simpa [lcmp] using this
theorem lcmp_eq : ∀ {l m : BL}, lcmp l m = .eq → l = m
  | [], [], _ => rfl
  | [], _ :: _, h => by simp [lcmp] at h
  | _ :: _, [], h => by simp [lcmp] at h
  | a :: l, b :: m, h => by
    unfold lcmp at h
    by_cases h1 : a < b
    · rw [if_pos h1] at h; cases h
    · rw [if_neg h1] at h
      by_cases h2 : b < a
      · rw [if_pos h2] at h; cases h
      · rw [if_neg h2] at h
        have e : a = b := by
          apply UInt8.toNat_inj.mp
          have h1' : ¬ a.toNat < b.toNat := fun h => h1 (UInt8.lt_iff_toNat_lt.mpr h)
          have h2' : ¬ b.toNat < a.toNat := fun h => h2 (UInt8.lt_iff_toNat_lt.mpr h)
          omega
        rw [e, lcmp_eq h]
theorem lcmp_less : ∀ (l m : BL), Op.bytesLess l m = (lcmp l m == .lt)
  | [], [] => rfl
  | [], _ :: _ => rfl
  | _ :: _, [] => rfl
  | a :: l, b :: m => by
    show (decide (a < b) || (a == b && Op.bytesLess l m)) = _
    rw [lcmp_less l m, lcmp_cons]
    by_cases h1 : a < b
    · simp [h1]
    · by_cases h2 : b < a
      · have e : (a == b) = false := by
          simp
          rintro rfl
          exact h1 h2
        simp [h1, h2, e]
      · have e : a = b := by
          apply UInt8.toNat_inj.mp
          have h1' : ¬ a.toNat < b.toNat := fun h => h1 (UInt8.lt_iff_toNat_lt.mpr h)
          have h2' : ¬ b.toNat < a.toNat := fun h => h2 (UInt8.lt_iff_toNat_lt.mpr h)
          omega
        subst e
        simp [h1]
theorem lcmp_swap : ∀ (l m : BL), lcmp m l = (lcmp l m).swap
  | [], [] => rfl
  | [], _ :: _ => rfl
  | _ :: _, [] => rfl
  | a :: l, b :: m => by
    rw [lcmp_cons, lcmp_cons]
    by_cases h1 : a < b
    · have h2 : ¬ b < a := fun h => by
        have h1' := UInt8.lt_iff_toNat_lt.mp h1
        have h2' := UInt8.lt_iff_toNat_lt.mp h
        omega
      rw [if_pos h1, if_neg h2, if_pos h1]; rfl
    · by_cases h2 : b < a
      · rw [if_pos h2, if_neg h1, if_pos h2]; rfl
      · rw [if_neg h2, if_neg h1, if_neg h1, if_neg h2]
        exact lcmp_swap l m
def kindV : V → Int
  | .null => 0
  | .bool _ => 1
  | .int _ => 2
  | .text _ => 3
  | .list _ => 4
  | .obj _ => 5
mutual
def cmpO : V → V → Ordering
  | .null, .null => .eq
  | .bool a, .bool b => icmp a b
  | .int a, .int b => icmp a b
  | .text a, .text b => lcmp a b
  | .list a, .list b => cmpsO a b
  | .obj a, .obj b => cmpfsO a b
  | x, y => icmp (kindV x) (kindV y)
def cmpsO : List V → List V → Ordering
  | [], [] => .eq
  | [], _ :: _ => .lt
  | _ :: _, [] => .gt
  | x :: l, y :: m => (cmpO x y).then (cmpsO l m)
def cmpfO : BL × V → BL × V → Ordering
  | (n, x), (k, y) => (lcmp n k).then (cmpO x y)
def cmpfsO : List (BL × V) → List (BL × V) → Ordering
  | [], [] => .eq
  | [], _ :: _ => .lt
  | _ :: _, [] => .gt
  | x :: l, y :: m => (cmpfO x y).then (cmpfsO l m)
end
mutual
def okV : V → Prop
  | .bool n => 0 ≤ n ∧ n < 256
  | .int n => -9223372036854775808 ≤ n ∧ n ≤ 9223372036854775807
  | .list l => okVs l
  | .obj l => okFs l
  | _ => True
def okVs : List V → Prop
  | [] => True
  | v :: l => okV v ∧ okVs l
def okF : BL × V → Prop
  | (_, v) => okV v
def okFs : List (BL × V) → Prop
  | [] => True
  | f :: l => okF f ∧ okFs l
end
mutual
theorem VAt.ok {S : Nat → Prop} {w : World} : ∀ {v : V} {c : List Value}, VAt S w v c → okV v
  | _, _, .null => by simp [okV]
  | _, _, .bool n h => by simpa [okV] using h
  | _, _, .int n h => by simpa [okV] using h
  | _, _, .text s => by simp [okV]
  | _, _, .list l cs sl h hr => by rw [okV]; exact VsAt.ok h
  | _, _, .obj l cs sl h hr => by rw [okV]; exact FsAt.ok h
theorem VsAt.ok {S : Nat → Prop} {w : World} : ∀ {l : List V} {cs : List Value}, VsAt S w l cs → okVs l
  | _, _, .nil => by simp [okVs]
  | _, _, .cons v l c0 c1 c2 c3 c4 cs h t => by rw [okVs]; exact ⟨VAt.ok h, VsAt.ok t⟩
theorem FsAt.ok {S : Nat → Prop} {w : World} : ∀ {l : List (BL × V)} {cs : List Value}, FsAt S w l cs → okFs l
  | _, _, .nil => by simp [okFs]
  | _, _, .cons n v l c0 c1 c2 c3 c4 cs h t => by rw [okFs, okF]; exact ⟨VAt.ok h, FsAt.ok t⟩
end
end Go.Proofs.YtccnfnoonpfdfaaGreatDoor
namespace Go.Proofs.YtccnfnoonpfdfaaGreatDoor
open Go.Shelf Go.RowKit Go.Lib
theorem eight (l : BL) (h : l.length = 8) : ∃ a b c d e f g i, l = [a, b, c, d, e, f, g, i] := by
  match l, h with
  | [a, b, c, d, e, f, g, i], _ => exact ⟨a, b, c, d, e, f, g, i, rfl⟩
mutual
def depthV : V → Nat
  | .list l => depthVs l + 1
  | .obj l => depthFs l + 1
  | _ => 1
def depthVs : List V → Nat
  | [] => 0
  | v :: l => max (depthV v) (depthVs l)
def depthF : BL × V → Nat
  | (_, v) => depthV v
def depthFs : List (BL × V) → Nat
  | [] => 0
  | f :: l => max (depthF f) (depthFs l)
end
theorem depthVs_le : ∀ {l : List V} {x : V}, x ∈ l → depthV x ≤ depthVs l
  | v :: l, x, h => by
    rw [depthVs]
    rcases List.mem_cons.mp h with rfl | h
    · omega
    · have := depthVs_le h; omega
theorem depthFs_le : ∀ {l : List (BL × V)} {x : BL × V}, x ∈ l → depthV x.2 ≤ depthFs l
  | (n, v) :: l, x, h => by
    rw [depthFs, depthF]
    rcases List.mem_cons.mp h with rfl | h
    · show depthV v ≤ _; omega
    · have := depthFs_le h; omega
theorem okVs_mem : ∀ {l : List V} {x : V}, okVs l → x ∈ l → okV x
  | v :: l, x, ho, h => by
    rw [okVs] at ho
    rcases List.mem_cons.mp h with rfl | h
    · exact ho.1
    · exact okVs_mem ho.2 h
theorem okFs_mem : ∀ {l : List (BL × V)} {x : BL × V}, okFs l → x ∈ l → okV x.2
  | (n, v) :: l, x, ho, h => by
    rw [okFs, okF] at ho
    rcases List.mem_cons.mp h with rfl | h
    · exact ho.1
    · exact okFs_mem ho.2 h
end Go.Proofs.YtccnfnoonpfdfaaGreatDoor
namespace Go.Proofs.YtccnfnoonpfdfaaGreatDoor
open Go.Shelf Go.RowKit Go.Lib
/-- a world in which all that lay in w lies as it did. -/
structure BelBy (w : World) where
  val : World
  bel : Below w.heap.size w val
instance (w : World) : Inhabited (BelBy w) := ⟨⟨w, Below.refl _ _⟩⟩
theorem wp_region_bel {P : Program} {id : Nat} {Q : Exit → Act → World → Prop} {a : Act} {w : World} {l : List Oper} (hm : P.follows .mixedOrders = true) (hB : Region.lexB .any l.toArray = true)
    (h : wpQuiet P l.toArray (fun w' => ∃ p : BelBy w, w' = p.val) (fun a' => ∀ w', (∃ p : BelBy w, w' = p.val) → Q .normal a' w') l a) : (Code.region id l.toArray true).wp P Q a w :=
  wp_region_quiet (C := fun w' => ∃ p : BelBy w, w' = p.val) hm hB ⟨⟨w.drew, (Below.refl _ w).drew⟩, rfl⟩ (by simpa using h)
theorem calls_bel {P : Program} {f : FuncId} {args : Array Value} {w : World} {p : BelBy w} {v : Value} (h : Calls P f args p.val fun e w' => e = .returned v ∧ Below p.val.heap.size p.val w') :
    Calls P f args p.val fun e w'' => e = .returned v ∧ ∃ q : BelBy w, w'' = q.val :=
  h.mono fun _ _ ⟨he, hb⟩ => ⟨he, ⟨_, p.bel.trans (hb.mono p.bel.size)⟩, rfl⟩
theorem bel_cell {w : World} {a : Addr} {v : Value} (h : w.cell? a = some v) (p : BelBy w) : p.val.cell? a = some v := bcell p.bel h
end Go.Proofs.YtccnfnoonpfdfaaGreatDoor
namespace Go.Proofs.YtccnfnoonpfdfaaGreatDoor
open Go.RowKit
section
variable {P : Program} {ops : Array Oper} {Q : Exit → Act → World → Prop} {md : Region.Mode} {J : Nat → Bool} {S : World → Prop}
/-- whatever order is picked from here on, and S holds behind each operation that J names. -/
def AnyJ (P : Program) (md : Region.Mode) (ops : Array Oper) (Q : Exit → Act → World → Prop) (J : Nat → Bool) (S : World → Prop) : Nat → Array Bool → Act → World → Prop
  | 0, l, a, w => Region.ready md ops l = [] ∧ Q .normal a w
  | n + 1, l, a, w => (Region.ready md ops l = [] → Q .normal a w) ∧ ∀ i ∈ Region.ready md ops l, wpOp P ops Q i (fun a2 w2 => (J i = true → S w2) ∧ AnyJ P md ops Q J S n (l.setIfInBounds i true) a2 w2) a w
theorem AnyJ.any : ∀ {n : Nat} {l : Array Bool} {a : Act} {w : World}, AnyJ P md ops Q J S n l a w → wpAny P md ops Q n l a w
  | 0, _, _, _, h => h
  | _ + 1, _, _, _, h => ⟨h.1, fun i hi => wpOp_mono (fun _ _ x => x.2.any) (h.2 i hi)⟩
/-- operation j does not wait for i, and may be still to come. -/
def Early (md : Region.Mode) (ops : Array Oper) (l : Array Bool) (i j : Nat) (o : Oper) : Prop := ops[j]? = some o ∧ j ≠ i ∧ l.getD j true = false ∧ ∀ e ∈ o.after, Region.binds md e = true → e.on ≠ i
theorem AnyJ.first {i : Nat} {o : Oper} {v : Value} (hi : ops[i]? = some o) (hsel : ∀ (j : Nat) (o : Oper) cs b, ops[j]? = some o → o.op ≠ .select cs b) (hQ : ∀ c a w, Q (.panic c) (a.put o.dst v) w → Q (.panic c) a w) :
    ∀ (n : Nat) (l : Array Bool) (a : Act) (w : World), (∀ j p, Early md ops l i j p → o.apart ops p = true ∧ J j = true) → i ∈ Region.ready md ops l → YieldsIf P ops S o v a → S w →
      AnyJ P md ops Q J S n (l.setIfInBounds i true) (a.put o.dst v) w → AnyJ P md ops Q J S (n + 1) l a w := by
  intro n
  induction n with
  | zero =>
    intro l a w _ hr hy hS h
    refine ⟨fun e => absurd hr (by rw [e]; exact List.not_mem_nil), fun j hj => ?_⟩
    rcases Decidable.em (j = i) with rfl | hne
    · exact hy.wpOp hi hS ⟨fun _ => hS, h⟩
    · exact absurd (ready_mono hj hne) (by rw [h.1]; exact List.not_mem_nil)
  | succ n ih =>
    intro l a w he hr hy hS h
    refine ⟨fun e => absurd hr (by rw [e]; exact List.not_mem_nil), fun j hj => ?_⟩
    rcases Decidable.em (j = i) with rfl | hne
    · exact hy.wpOp hi hS ⟨fun _ => hS, h⟩
    obtain ⟨hj0, p, hp, hall⟩ := mem_ready.1 hj
    have hun : l.getD i true = false := (mem_ready.1 hr).1
    have hE : Early md ops l i j p := ⟨hp, hne, hj0, fun e hm hb hx => by
      have h2 := hall e hm hb
      rw [hx] at h2
      rcases Nat.lt_or_ge i l.size with h3 | h3
      · simp [h3] at hun h2; rw [hun] at h2; cases h2
      · simp [Array.getElem?_eq_none h3] at h2⟩
    obtain ⟨hap, hJ⟩ := he j p hE
    refine wpOp_mono ?_ (wpOp_putIf hp hap (fun cs b => hsel i o cs b hi) (fun cs b => hsel j p cs b hp) hQ hy (h.2 j (ready_mono hj hne)))
    rintro a2 w2 ⟨hy2, hS2, h2⟩
    refine ⟨hS2, ih _ a2 w2 (fun k q hk => he k q ⟨hk.1, hk.2.1, ?_, hk.2.2.2⟩) (ready_mono hr (Ne.symm hne)) hy2 (hS2 hJ) (by rw [Array.setIfInBounds_comm _ _ hne]; exact h2)⟩
    rcases Decidable.em (j = k) with rfl | hjk
    · exact hj0
    · have := hk.2.2.1
      rwa [getD_set_ne true hjk] at this
/-- each operation that may run ahead of i is named by J. -/
def earlyB (md : Region.Mode) (ops : Array Oper) (l : Array Bool) (i : Nat) (J : Nat → Bool) : Bool :=
  (List.range ops.size).all fun j => j == i || l.getD j true || J j || match ops[j]? with
    | some p => p.after.any fun e => Region.binds md e && e.on == i
    | none => true
theorem AnyJ.take {i : Nat} {o : Oper} {v : Value} {n : Nat} {l : Array Bool} {a : Act} {w : World} (hi : ops[i]? = some o) (hs : Region.noSelect ops = true) (hf : Region.free md ops l i = true) (hB : earlyB md ops l i J = true)
    (hr : (Region.ready md ops l).contains i = true) (hQ : ∀ c a w, Q (.panic c) (a.put o.dst v) w → Q (.panic c) a w) (hy : YieldsIf P ops S o v a) (hS : S w)
    (h : AnyJ P md ops Q J S n (l.setIfInBounds i true) (a.put o.dst v) w) : AnyJ P md ops Q J S (n + 1) l a w := by
  refine AnyJ.first hi (Region.noSelect_spec hs) hQ n l a w (fun j p hE => ⟨Region.free_spec hi hf j p hE.1 hE.2.1 hE.2.2.1 hE.2.2.2, ?_⟩) (by simpa using hr) hy hS h
  unfold earlyB at hB
  rw [List.all_eq_true] at hB
  have h1 := hB j (List.mem_range.mpr (Array.getElem?_eq_some_iff.1 hE.1).1)
  simp only [hE.1, hE.2.2.1, Bool.or_eq_true, beq_iff_eq, hE.2.1, false_or, Bool.false_eq_true] at h1
  rcases h1 with h1 | h1
  · exact h1
  · obtain ⟨e, he, hb⟩ := Array.any_eq_true'.1 h1
    rw [Bool.and_eq_true, beq_iff_eq] at hb
    exact absurd hb.2 (hE.2.2.2 e he hb.1)
/-- one operation that comes up. -/
theorem AnyJ.step {n i : Nat} {l : Array Bool} {a : Act} {w : World} {o : Oper} (ho : ops[i]? = some o)
    (h : ∀ K : Act → World → Prop, Shut (∀ a w, (J i = true → S w) → AnyJ P md ops Q J S n (l.setIfInBounds i true) a w → K a w) → if Region.wanted o (yielded ops a.tmps) = true then Oper.wp P o a w K Q else K (a.put o.dst undef) w) :
    wpOp P ops Q i (fun a2 w2 => (J i = true → S w2) ∧ AnyJ P md ops Q J S n (l.setIfInBounds i true) a2 w2) a w :=
  wpOp_step ho (fun K hK => h K (fun a w h1 h2 => hK a w ⟨h1, h2⟩))
theorem AnyJ.one {n i : Nat} {l : Array Bool} {a : Act} {w : World} (hr : Region.ready md ops l = [i])
    (h : wpOp P ops Q i (fun a2 w2 => (J i = true → S w2) ∧ AnyJ P md ops Q J S n (l.setIfInBounds i true) a2 w2) a w) : AnyJ P md ops Q J S (n + 1) l a w :=
  ⟨fun e => absurd (hr.symm.trans e) (by simp), fun j hj => by rw [hr] at hj; obtain rfl := List.mem_singleton.mp hj; exact h⟩
theorem AnyJ.done {n : Nat} {l : Array Bool} {a : Act} {w : World} (hr : Region.ready md ops l = []) (h : Q .normal a w) : AnyJ P md ops Q J S n l a w := by
  cases n with
  | zero => exact ⟨hr, h⟩
  | succ n => exact ⟨fun _ => h, fun j hj => absurd hj (by rw [hr]; exact List.not_mem_nil)⟩
theorem AnyJ.begin {id : Nat} {n : Nat} {l : Array Bool} {a : Act} {w : World} (hm : P.follows .mixedOrders = true) (hn : ops.size = n) (hl : Array.replicate n false = l) (h : AnyJ P .any ops Q J S n l a w.drew) : (Code.region id ops true).wp P Q a w := by
  subst hn hl
  exact wp_region_any hm h.any
/-- the list's entry, laid out by computing. -/
def nthO : List Oper → Nat → Option Oper
  | [], _ => none
  | o :: _, 0 => some o
  | _ :: l, n + 1 => nthO l n
theorem nthO_eq : ∀ (os : List Oper) (i : Nat), os.toArray[i]? = nthO os i
  | [], _ => by simp [nthO]
  | o :: l, 0 => by simp [nthO]
  | o :: l, n + 1 => by
    have h := nthO_eq l n
    rw [List.getElem?_toArray] at h ⊢
    rw [List.getElem?_cons_succ, h, nthO]
theorem AnyJ.takeL {os : List Oper} {i : Nat} {o : Oper} {d : Tmp} {v : Value} {n : Nat} {l : Array Bool} {a : Act} {w : World} (hi : nthO os i = some o) (hd : o.dst = some d) (hs : Region.noSelect os.toArray = true) (hf : Region.free md os.toArray l i = true) (hB : earlyB md os.toArray l i J = true)
    (hr : (Region.ready md os.toArray l).contains i = true) (hQ : ∀ c a w, Q (.panic c) (a.put (some d) v) w → Q (.panic c) a w) (hw : Region.wanted o (yielded os.toArray a.tmps) = true) (hy : ∀ w, S w → (execOp a.eval o).run P w = .ok (.value v) w) (hS : S w)
    (h : AnyJ P md os.toArray Q J S n (l.setIfInBounds i true) (a.put (some d) v) w) : AnyJ P md os.toArray Q J S (n + 1) l a w :=
  AnyJ.take (o := o) (v := v) ((nthO_eq os i).trans hi) hs hf hB hr (by rw [hd]; exact hQ) (.inl ⟨hw, hy⟩) hS (by rw [hd]; exact h)
theorem AnyJ.stepL {os : List Oper} {n i : Nat} {l : Array Bool} {a : Act} {w : World} {o : Oper} (hi : nthO os i = some o)
    (h : ∀ K : Act → World → Prop, Shut (∀ a w, (J i = true → S w) → AnyJ P md os.toArray Q J S n (l.setIfInBounds i true) a w → K a w) → if Region.wanted o (yielded os.toArray a.tmps) = true then Oper.wp P o a w K Q else K (a.put o.dst undef) w) :
    wpOp P os.toArray Q i (fun a2 w2 => (J i = true → S w2) ∧ AnyJ P md os.toArray Q J S n (l.setIfInBounds i true) a2 w2) a w :=
  AnyJ.step ((nthO_eq os i).trans hi) h
theorem AnyJ.oneL {os : List Oper} {n i : Nat} {l : Array Bool} {a : Act} {w : World} {oi : Oper} (hr : Region.ready md os.toArray l = [i]) (hi : nthO os i = some oi)
    (h : (∀ K : Act → World → Prop, Shut (∀ a w, (J i = true → S w) → AnyJ P md os.toArray Q J S n (l.setIfInBounds i true) a w → K a w) → if Region.wanted oi (yielded os.toArray a.tmps) = true then Oper.wp P oi a w K Q else K (a.put oi.dst undef) w)) : AnyJ P md os.toArray Q J S (n + 1) l a w := AnyJ.one hr (AnyJ.stepL hi h)
/-- whatever may run ahead of i is named by J: what J does not name waits for i, or for one that J does not name either. -/
def earlyT (md : Region.Mode) (ops : Array Oper) (l : Array Bool) (i : Nat) (J : Nat → Bool) : Bool :=
  (List.range ops.size).all fun j => j == i || l.getD j true || J j || match ops[j]? with
    | some p => p.after.any fun e => Region.binds md e && (e.on == i || (!(l.getD e.on false) && !(J e.on)))
    | none => true
theorem earlyT_spec {i : Nat} {l : Array Bool} (h : earlyT md ops l i J = true) (j : Nat) (p : Oper) (hp : ops[j]? = some p) (hne : j ≠ i) (hl : l.getD j true = false) (ha : ∀ e ∈ p.after, Region.binds md e = true → e.on ≠ i ∧ (l.getD e.on false = true ∨ J e.on = true)) : J j = true := by
  unfold earlyT at h
  rw [List.all_eq_true] at h
  have h1 := h j (List.mem_range.mpr (Array.getElem?_eq_some_iff.1 hp).1)
  simp only [hp, hl, Bool.or_eq_true, beq_iff_eq, hne, false_or, Bool.false_eq_true] at h1
  rcases h1 with h1 | h1
  · exact h1
  · obtain ⟨e, he, hb⟩ := Array.any_eq_true'.1 h1
    rw [Bool.and_eq_true] at hb
    obtain ⟨h2, h3⟩ := ha e he hb.1
    have h4 := hb.2
    rw [Bool.or_eq_true, beq_iff_eq, Bool.and_eq_true, Bool.not_eq_true', Bool.not_eq_true'] at h4
    rcases h4 with h4 | ⟨h4, h5⟩
    · exact absurd h4 h2
    · rcases h3 with h3 | h3
      · rw [h3] at h4; cases h4
      · rw [h3] at h5; cases h5
theorem AnyJ.firstT {R : Nat → Bool} (hRJ : ∀ j, R j = true → J j = true) {i : Nat} {o : Oper} {v : Value} (hi : ops[i]? = some o) (hsel : ∀ (j : Nat) (o : Oper) cs b, ops[j]? = some o → o.op ≠ .select cs b) (hQ : ∀ c a w, Q (.panic c) (a.put o.dst v) w → Q (.panic c) a w) :
    ∀ (n : Nat) (l : Array Bool) (a : Act) (w : World), (∀ j p, Early md ops l i j p → o.apart ops p = true) → (∀ j p, ops[j]? = some p → j ≠ i → l.getD j true = false → (∀ e ∈ p.after, Region.binds md e = true → e.on ≠ i ∧ (l.getD e.on false = true ∨ R e.on = true)) → R j = true) → i ∈ Region.ready md ops l → YieldsIf P ops S o v a → S w →
      AnyJ P md ops Q J S n (l.setIfInBounds i true) (a.put o.dst v) w → AnyJ P md ops Q J S (n + 1) l a w := by
  intro n
  induction n with
  | zero =>
    intro l a w _ _ hr hy hS h
    refine ⟨fun e => absurd hr (by rw [e]; exact List.not_mem_nil), fun j hj => ?_⟩
    rcases Decidable.em (j = i) with rfl | hne
    · exact hy.wpOp hi hS ⟨fun _ => hS, h⟩
    · exact absurd (ready_mono hj hne) (by rw [h.1]; exact List.not_mem_nil)
  | succ n ih =>
    intro l a w he hcl hr hy hS h
    refine ⟨fun e => absurd hr (by rw [e]; exact List.not_mem_nil), fun j hj => ?_⟩
    rcases Decidable.em (j = i) with rfl | hne
    · exact hy.wpOp hi hS ⟨fun _ => hS, h⟩
    obtain ⟨hj0, p, hp, hall⟩ := mem_ready.1 hj
    have hun : l.getD i true = false := (mem_ready.1 hr).1
    have hE : Early md ops l i j p := ⟨hp, hne, hj0, fun e hm hb hx => by
      have h2 := hall e hm hb
      rw [hx] at h2
      rcases Nat.lt_or_ge i l.size with h3 | h3
      · simp [h3] at hun h2; rw [hun] at h2; cases h2
      · simp [Array.getElem?_eq_none h3] at h2⟩
    have hap := he j p hE
    have hR := hcl j p hp hne hj0 fun e hm hb => ⟨hE.2.2.2 e hm hb, .inl (hall e hm hb)⟩
    refine wpOp_mono ?_ (wpOp_putIf hp hap (fun cs b => hsel i o cs b hi) (fun cs b => hsel j p cs b hp) hQ hy (h.2 j (ready_mono hj hne)))
    rintro a2 w2 ⟨hy2, hS2, h2⟩
    refine ⟨hS2, ih _ a2 w2 (fun k q hk => he k q ⟨hk.1, hk.2.1, ?_, hk.2.2.2⟩) (fun k q hq hki hkl hdep => ?_) (ready_mono hr (Ne.symm hne)) hy2 (hS2 (hRJ j hR)) (by rw [Array.setIfInBounds_comm _ _ hne]; exact h2)⟩
    · rcases Decidable.em (j = k) with rfl | hjk
      · exact hj0
      · have := hk.2.2.1
        rwa [getD_set_ne true hjk] at this
    · rcases Decidable.em (j = k) with rfl | hjk
      · exact hR
      · rw [getD_set_ne true hjk] at hkl
        refine hcl k q hq hki hkl fun e hm hb => ?_
        obtain ⟨h3, h4⟩ := hdep e hm hb
        refine ⟨h3, ?_⟩
        rcases Decidable.em (j = e.on) with hje | hje
        · right; rw [← hje]; exact hR
        · rcases h4 with h4 | h4
          · left; rwa [getD_set_ne false hje] at h4
          · exact .inr h4
theorem AnyJ.takeT (rs : List Nat) (hrs : rs.all J = true) {os : List Oper} {i : Nat} {o : Oper} {d : Tmp} {v : Value} {n : Nat} {l : Array Bool} {a : Act} {w : World} (hi : nthO os i = some o) (hd : o.dst = some d) (hs : Region.noSelect os.toArray = true) (hf : Region.free md os.toArray l i = true) (hB : earlyT md os.toArray l i (fun j => rs.contains j) = true)
    (hr : (Region.ready md os.toArray l).contains i = true) (hQ : ∀ c a w, Q (.panic c) (a.put (some d) v) w → Q (.panic c) a w) (hw : Region.wanted o (yielded os.toArray a.tmps) = true) (hy : ∀ w, S w → (execOp a.eval o).run P w = .ok (.value v) w) (hS : S w)
    (h : AnyJ P md os.toArray Q J S n (l.setIfInBounds i true) (a.put (some d) v) w) : AnyJ P md os.toArray Q J S (n + 1) l a w := by
  have hi2 := (nthO_eq os i).trans hi
  refine AnyJ.firstT (R := fun j => rs.contains j) (fun j hj => List.all_eq_true.1 hrs j (by simpa using hj)) (o := o) (v := v) hi2 (Region.noSelect_spec hs) (by rw [hd]; exact hQ) n l a w (fun j p hE => Region.free_spec hi2 hf j p hE.1 hE.2.1 hE.2.2.1 hE.2.2.2) (earlyT_spec hB) (by simpa using hr) (.inl ⟨hw, hy⟩) hS (by rw [hd]; exact h)
end
end Go.Proofs.YtccnfnoonpfdfaaGreatDoor
namespace Go.Proofs.YtccnfnoonpfdfaaGreatDoor
open Go.RowKit
section
variable {P : Program} {ops : Array Oper} {Q : Exit → Act → World → Prop} {md : Region.Mode} {J : Nat → Bool} {S : World → Prop}
/-- whatever order is picked from here on, and each operation that J names keeps S. -/
def AnyP (P : Program) (md : Region.Mode) (ops : Array Oper) (Q : Exit → Act → World → Prop) (J : Nat → Bool) (S : World → Prop) : Nat → Array Bool → Act → World → Prop
  | 0, l, a, w => Region.ready md ops l = [] ∧ Q .normal a w
  | n + 1, l, a, w => (Region.ready md ops l = [] → Q .normal a w) ∧ ∀ i ∈ Region.ready md ops l, wpOp P ops Q i (fun a2 w2 => (J i = true → S w → S w2) ∧ AnyP P md ops Q J S n (l.setIfInBounds i true) a2 w2) a w
theorem AnyP.any : ∀ {n : Nat} {l : Array Bool} {a : Act} {w : World}, AnyP P md ops Q J S n l a w → wpAny P md ops Q n l a w
  | 0, _, _, _, h => h
  | _ + 1, _, _, _, h => ⟨h.1, fun i hi => wpOp_mono (fun _ _ x => x.2.any) (h.2 i hi)⟩
theorem AnyP.firstT {R : Nat → Bool} (hRJ : ∀ j, R j = true → J j = true) {i : Nat} {o : Oper} {v : Value} (hi : ops[i]? = some o) (hsel : ∀ (j : Nat) (o : Oper) cs b, ops[j]? = some o → o.op ≠ .select cs b) (hQ : ∀ c a w, Q (.panic c) (a.put o.dst v) w → Q (.panic c) a w) :
    ∀ (n : Nat) (l : Array Bool) (a : Act) (w : World), (∀ j p, Early md ops l i j p → o.apart ops p = true) → (∀ j p, ops[j]? = some p → j ≠ i → l.getD j true = false → (∀ e ∈ p.after, Region.binds md e = true → e.on ≠ i ∧ (l.getD e.on false = true ∨ R e.on = true)) → R j = true) → i ∈ Region.ready md ops l → YieldsIf P ops S o v a → S w →
      AnyP P md ops Q J S n (l.setIfInBounds i true) (a.put o.dst v) w → AnyP P md ops Q J S (n + 1) l a w := by
  intro n
  induction n with
  | zero =>
    intro l a w _ _ hr hy hS h
    refine ⟨fun e => absurd hr (by rw [e]; exact List.not_mem_nil), fun j hj => ?_⟩
    rcases Decidable.em (j = i) with rfl | hne
    · exact hy.wpOp hi hS ⟨fun _ _ => hS, h⟩
    · exact absurd (ready_mono hj hne) (by rw [h.1]; exact List.not_mem_nil)
  | succ n ih =>
    intro l a w he hcl hr hy hS h
    refine ⟨fun e => absurd hr (by rw [e]; exact List.not_mem_nil), fun j hj => ?_⟩
    rcases Decidable.em (j = i) with rfl | hne
    · exact hy.wpOp hi hS ⟨fun _ _ => hS, h⟩
    obtain ⟨hj0, p, hp, hall⟩ := mem_ready.1 hj
    have hun : l.getD i true = false := (mem_ready.1 hr).1
    have hE : Early md ops l i j p := ⟨hp, hne, hj0, fun e hm hb hx => by
      have h2 := hall e hm hb
      rw [hx] at h2
      rcases Nat.lt_or_ge i l.size with h3 | h3
      · simp [h3] at hun h2; rw [hun] at h2; cases h2
      · simp [Array.getElem?_eq_none h3] at h2⟩
    have hap := he j p hE
    have hR := hcl j p hp hne hj0 fun e hm hb => ⟨hE.2.2.2 e hm hb, .inl (hall e hm hb)⟩
    refine wpOp_mono ?_ (wpOp_putIf hp hap (fun cs b => hsel i o cs b hi) (fun cs b => hsel j p cs b hp) hQ hy (h.2 j (ready_mono hj hne)))
    rintro a2 w2 ⟨hy2, hS2, h2⟩
    refine ⟨hS2, ih _ a2 w2 (fun k q hk => he k q ⟨hk.1, hk.2.1, ?_, hk.2.2.2⟩) (fun k q hq hki hkl hdep => ?_) (ready_mono hr (Ne.symm hne)) hy2 (hS2 (hRJ j hR) hS) (by rw [Array.setIfInBounds_comm _ _ hne]; exact h2)⟩
    · rcases Decidable.em (j = k) with rfl | hjk
      · exact hj0
      · have := hk.2.2.1
        rwa [getD_set_ne true hjk] at this
    · rcases Decidable.em (j = k) with rfl | hjk
      · exact hR
      · rw [getD_set_ne true hjk] at hkl
        refine hcl k q hq hki hkl fun e hm hb => ?_
        obtain ⟨h3, h4⟩ := hdep e hm hb
        refine ⟨h3, ?_⟩
        rcases Decidable.em (j = e.on) with hje | hje
        · right; rw [← hje]; exact hR
        · rcases h4 with h4 | h4
          · left; rwa [getD_set_ne false hje] at h4
          · exact .inr h4
theorem AnyP.takeT (rs : List Nat) (hrs : rs.all J = true) {os : List Oper} {i : Nat} {o : Oper} {d : Tmp} {v : Value} {n : Nat} {l : Array Bool} {a : Act} {w : World} (hi : nthO os i = some o) (hd : o.dst = some d) (hs : Region.noSelect os.toArray = true) (hf : Region.free md os.toArray l i = true) (hB : earlyT md os.toArray l i (fun j => rs.contains j) = true)
    (hr : (Region.ready md os.toArray l).contains i = true) (hQ : ∀ c a w, Q (.panic c) (a.put (some d) v) w → Q (.panic c) a w) (hw : Region.wanted o (yielded os.toArray a.tmps) = true) (hy : ∀ w, S w → (execOp a.eval o).run P w = .ok (.value v) w) (hS : S w)
    (h : AnyP P md os.toArray Q J S n (l.setIfInBounds i true) (a.put (some d) v) w) : AnyP P md os.toArray Q J S (n + 1) l a w := by
  have hi2 := (nthO_eq os i).trans hi
  refine AnyP.firstT (R := fun j => rs.contains j) (fun j hj => List.all_eq_true.1 hrs j (by simpa using hj)) (o := o) (v := v) hi2 (Region.noSelect_spec hs) (by rw [hd]; exact hQ) n l a w (fun j p hE => Region.free_spec hi2 hf j p hE.1 hE.2.1 hE.2.2.1 hE.2.2.2) (earlyT_spec hB) (by simpa using hr) (.inl ⟨hw, hy⟩) hS (by rw [hd]; exact h)
theorem AnyP.firstP {i : Nat} {o : Oper} {v : Value} (hi : ops[i]? = some o) (hsel : ∀ (j : Nat) (o : Oper) cs b, ops[j]? = some o → o.op ≠ .select cs b) (hQ : ∀ c a w, Q (.panic c) (a.put o.dst v) w → Q (.panic c) a w) :
    ∀ (n : Nat) (l : Array Bool) (a : Act) (w : World), (∀ j p, Early md ops l i j p → o.apart ops p = true) → i ∈ Region.ready md ops l → YieldsIf P ops (fun _ => True) o v a →
      AnyP P md ops Q J S n (l.setIfInBounds i true) (a.put o.dst v) w → AnyP P md ops Q J S (n + 1) l a w := by
  intro n
  induction n with
  | zero =>
    intro l a w _ hr hy h
    refine ⟨fun e => absurd hr (by rw [e]; exact List.not_mem_nil), fun j hj => ?_⟩
    rcases Decidable.em (j = i) with rfl | hne
    · exact hy.wpOp hi trivial ⟨fun _ hs => hs, h⟩
    · exact absurd (ready_mono hj hne) (by rw [h.1]; exact List.not_mem_nil)
  | succ n ih =>
    intro l a w he hr hy h
    refine ⟨fun e => absurd hr (by rw [e]; exact List.not_mem_nil), fun j hj => ?_⟩
    rcases Decidable.em (j = i) with rfl | hne
    · exact hy.wpOp hi trivial ⟨fun _ hs => hs, h⟩
    obtain ⟨hj0, p, hp, hall⟩ := mem_ready.1 hj
    have hun : l.getD i true = false := (mem_ready.1 hr).1
    have hE : Early md ops l i j p := ⟨hp, hne, hj0, fun e hm hb hx => by
      have h2 := hall e hm hb
      rw [hx] at h2
      rcases Nat.lt_or_ge i l.size with h3 | h3
      · simp [h3] at hun h2; rw [hun] at h2; cases h2
      · simp [Array.getElem?_eq_none h3] at h2⟩
    refine wpOp_mono ?_ (wpOp_putIf hp (he j p hE) (fun cs b => hsel i o cs b hi) (fun cs b => hsel j p cs b hp) hQ hy (h.2 j (ready_mono hj hne)))
    rintro a2 w2 ⟨hy2, hS2, h2⟩
    refine ⟨hS2, ih _ a2 w2 (fun k q hk => he k q ⟨hk.1, hk.2.1, ?_, hk.2.2.2⟩) (ready_mono hr (Ne.symm hne)) hy2 (by rw [Array.setIfInBounds_comm _ _ hne]; exact h2)⟩
    rcases Decidable.em (j = k) with rfl | hjk
    · exact hj0
    · have := hk.2.2.1
      rwa [getD_set_ne true hjk] at this
theorem AnyP.takeP {os : List Oper} {i : Nat} {o : Oper} {d : Tmp} {v : Value} {n : Nat} {l : Array Bool} {a : Act} {w : World} (hi : nthO os i = some o) (hd : o.dst = some d) (hs : Region.noSelect os.toArray = true) (hf : Region.free md os.toArray l i = true)
    (hr : (Region.ready md os.toArray l).contains i = true) (hQ : ∀ c a w, Q (.panic c) (a.put (some d) v) w → Q (.panic c) a w) (hw : Region.wanted o (yielded os.toArray a.tmps) = true) (hy : ∀ w, (execOp a.eval o).run P w = .ok (.value v) w)
    (h : AnyP P md os.toArray Q J S n (l.setIfInBounds i true) (a.put (some d) v) w) : AnyP P md os.toArray Q J S (n + 1) l a w := by
  have hi2 := (nthO_eq os i).trans hi
  exact AnyP.firstP (o := o) (v := v) hi2 (Region.noSelect_spec hs) (by rw [hd]; exact hQ) n l a w (fun j p hE => Region.free_spec hi2 hf j p hE.1 hE.2.1 hE.2.2.1 hE.2.2.2) (by simpa using hr) (.inl ⟨hw, fun w _ => hy w⟩) (by rw [hd]; exact h)
theorem AnyP.stepL {os : List Oper} {n i : Nat} {l : Array Bool} {a : Act} {w : World} {o : Oper} (hi : nthO os i = some o)
    (h : ∀ K : Act → World → Prop, Shut (∀ a w2, (J i = true → S w → S w2) → AnyP P md os.toArray Q J S n (l.setIfInBounds i true) a w2 → K a w2) → if Region.wanted o (yielded os.toArray a.tmps) = true then Oper.wp P o a w K Q else K (a.put o.dst undef) w) :
    wpOp P os.toArray Q i (fun a2 w2 => (J i = true → S w → S w2) ∧ AnyP P md os.toArray Q J S n (l.setIfInBounds i true) a2 w2) a w :=
  wpOp_step ((nthO_eq os i).trans hi) (fun K hK => h K (fun a w h1 h2 => hK a w ⟨h1, h2⟩))
theorem AnyP.oneL {os : List Oper} {n i : Nat} {l : Array Bool} {a : Act} {w : World} {oi : Oper} (hr : Region.ready md os.toArray l = [i]) (hi : nthO os i = some oi)
    (h : (∀ K : Act → World → Prop, Shut (∀ a w2, (J i = true → S w → S w2) → AnyP P md os.toArray Q J S n (l.setIfInBounds i true) a w2 → K a w2) → if Region.wanted oi (yielded os.toArray a.tmps) = true then Oper.wp P oi a w K Q else K (a.put oi.dst undef) w)) : AnyP P md os.toArray Q J S (n + 1) l a w :=
  ⟨fun e => absurd (hr.symm.trans e) (by simp), fun j hj => by rw [hr] at hj; obtain rfl := List.mem_singleton.mp hj; exact AnyP.stepL hi h⟩
theorem AnyP.done {n : Nat} {l : Array Bool} {a : Act} {w : World} (hr : Region.ready md ops l = []) (h : Q .normal a w) : AnyP P md ops Q J S n l a w := by
  cases n with
  | zero => exact ⟨hr, h⟩
  | succ n => exact ⟨fun _ => h, fun j hj => absurd hj (by rw [hr]; exact List.not_mem_nil)⟩
theorem AnyP.begin {id : Nat} {n : Nat} {l : Array Bool} {a : Act} {w : World} (hm : P.follows .mixedOrders = true) (hn : ops.size = n) (hl : Array.replicate n false = l) (h : AnyP P .any ops Q J S n l a w.drew) : (Code.region id ops true).wp P Q a w := by
  subst hn hl
  exact wp_region_any hm h.any
end
end Go.Proofs.YtccnfnoonpfdfaaGreatDoor
namespace Go.Proofs.YtccnfnoonpfdfaaGreatDoor
open Go.Shelf Go.RowKit Go.Lib
mutual
def validV : V → Bool
  | .null => true
  | .bool n => n == 0 || n == 1
  | .int _ => true
  | .text s => Lib.validD s
  | .list l => validVs l
  | .obj l => risesL none l
def validVs : List V → Bool
  | [] => true
  | v :: l => validV v && validVs l
def validF : BL × V → Bool
  | (n, v) => Lib.validD n && validV v
def risesL : Option BL → List (BL × V) → Bool
  | _, [] => true
  | p, f :: l => (validF f && (match p with | none => true | some q => lcmp q f.1 == .lt)) && risesL (some f.1) l
end
def ValidC (w : World) (v : V) (c : List Value) : Prop := Calls Tryz.prog 22 #[.agg c.toArray] w fun e w' => e = .returned (.bool (validV v)) ∧ Below w.heap.size w w'
def ValidH (v : V) : Prop := ∀ (S : Nat → Prop) (w : World) (c : List Value), VAt S w v c → Tabs w → (keyL v).length ≤ 1000000 → ValidC w v c
set_option maxHeartbeats 4000000 in
set_option maxRecDepth 100000 in
theorem bare_v {S : Nat → Prop} {w0 : World} {v : V} {c : List Value} (h : VAt S w0 v c) (w : World) : Calls Tryz.prog 40 #[.agg c.toArray] w fun e w' => e = .returned (.bool true) ∧ Below w.heap.size w w' := by
  cases h with
  | list l cs sl h hr =>
    obtain ⟨p, k, rfl⟩ : ∃ p k, sl = .slice p l.length k := by
      rcases hr.2 with ⟨h0, rfl⟩ | ⟨b, cap, rfl, _⟩
      · exact ⟨none, 0, by rw [h0]⟩
      · exact ⟨_, _, rfl⟩
    go_enter Tryz.func40, Tryz.ntmps40
    go_wp2
    go_ret
    exact ⟨rfl, (Below.refl _ w).alloc (Nat.le_refl _) _⟩
  | obj l cs sl h hr =>
    obtain ⟨p, k, rfl⟩ : ∃ p k, sl = .slice p l.length k := by
      rcases hr.2 with ⟨h0, rfl⟩ | ⟨b, cap, rfl, _⟩
      · exact ⟨none, 0, by rw [h0]⟩
      · exact ⟨_, _, rfl⟩
    go_enter Tryz.func40, Tryz.ntmps40
    go_wp2
    go_ret
    exact ⟨rfl, (Below.refl _ w).alloc (Nat.le_refl _) _⟩
  | _ =>
    go_enter Tryz.func40, Tryz.ntmps40
    go_wp2
    go_ret
    exact ⟨rfl, (Below.refl _ w).alloc (Nat.le_refl _) _⟩
theorem vs_drop (l : List V) (i : Nat) (h : i < l.length) : validVs (l.drop i) = (validV l[i] && validVs (l.drop (i + 1))) := by
  rw [List.drop_eq_getElem_cons h, validVs]
theorem key_mem {l : List V} {x : V} (h : x ∈ l) : (keyL x).length ≤ (keysL l).length := by
  induction l with
  | nil => cases h
  | cons y l ih =>
    rw [keysL, List.length_append]
    rcases List.mem_cons.mp h with rfl | h
    · omega
    · have := ih h; omega
theorem keyf_mem {l : List (BL × V)} {x : BL × V} (h : x ∈ l) : (keyL x.2).length + x.1.length ≤ (fieldsL l).length := by
  induction l with
  | nil => cases h
  | cons y l ih =>
    rw [fieldsL, List.length_append]
    rcases List.mem_cons.mp h with rfl | h
    · rw [fieldL_eq]
      have := (escK_le x.1).1
      simp [writtenK]
      omega
    · have := ih h; omega
set_option maxHeartbeats 4000000 in
set_option maxRecDepth 100000 in
theorem vvalid_null (w : World) (hT : Tabs w) : ValidC w .null [.int .i64 0, .int .i64 0, .string ⟨#[]⟩, .slice none 0 0, .slice none 0 0] := by
  have HT := Lib.hid hT
  clear hT
  unfold ValidC
  have hbr := Lib.hid (fun (W : World) => bare_v (S := fun _ => True) (w0 := w) (v := .null) .null W)
  obtain ⟨W, hW⟩ : ∃ W, w.alloc (.cells #[.int .i64 0, .int .i64 0, .string ⟨#[]⟩, .slice none 0 0, .slice none 0 0] 28) = W := ⟨_, rfl⟩
  have hblk : Blk W w.heap.size 28 [.int .i64 0, .int .i64 0, .string ⟨#[]⟩, .slice none 0 0, .slice none 0 0] := by rw [← hW]; exact heap_alloc_new w _
  have hbW : Below w.heap.size w W := by rw [← hW]; exact (Below.refl _ w).alloc (Nat.le_refl _) _
  have H0 := Lib.hid (And.intro hW (And.intro hblk hbW))
  clear hblk hbW hW
  go_enter Tryz.func22, Tryz.ntmps22
  go_wp2_with fail
  refine (hbr.out _).mono ?_
  rintro e w2 ⟨rfl, hb2⟩
  rw [H0.out.1] at hb2
  have hk2 := H0.out.2.1.below hb2
  have H2 := Lib.hid (And.intro hk2 (H0.out.2.2.trans (hb2.mono H0.out.2.2.size)))
  have c0 := hk2.cell 0
  have c1 := hk2.cell 1
  have c2 := hk2.cell 2
  have c3 := hk2.cell 3
  have c4 := hk2.cell 4
  clear hk2 hb2
  go_wp2
  refine wp_loop_rounds 1 ?_
  rw [rounds_succ]
  go_wp2_with fail
  refine (valid_any ⟨#[]⟩ _ (by decide) (HT.out.below H2.out.2)).mono ?_
  rintro e w3 ⟨rfl, hb3⟩
  rw [show (⟨#[]⟩ : ByteArray).data.toList = [] from rfl, valid_nil]
  have hk3 := H2.out.1.below hb3
  have H3 := Lib.hid (And.intro hk3 (H2.out.2.trans (hb3.mono H2.out.2.size)))
  clear c0 c1 c2 c3 c4
  have c0 := hk3.cell 0
  have c1 := hk3.cell 1
  have c4 := hk3.cell 4
  clear hk3 hb3
  go_wp2_with fail
  refine (rises_none _).mono ?_
  rintro e w4 ⟨rfl, hb4⟩
  have hk4 := H3.out.1.below hb4
  have H4 := Lib.hid (H3.out.2.trans (hb4.mono H3.out.2.size))
  clear c0 c1 c4
  have c0 := hk4.cell 0
  have c1 := hk4.cell 1
  clear hk4 hb4
  go_wp2
  go_ret
  exact ⟨by rw [validV]; try rfl, H4.out⟩
set_option maxHeartbeats 4000000 in
set_option maxRecDepth 100000 in
theorem vvalid_int (n : Int) (hn : -9223372036854775808 ≤ n ∧ n ≤ 9223372036854775807) (w : World) (hT : Tabs w) : ValidC w (.int n) [.int .i64 2, .int .i64 n, .string ⟨#[]⟩, .slice none 0 0, .slice none 0 0] := by
  have HT := Lib.hid hT
  clear hT
  unfold ValidC
  have hbr := Lib.hid (fun (W : World) => bare_v (S := fun _ => True) (w0 := w) (v := (.int n)) (.int n hn) W)
  clear hn
  obtain ⟨W, hW⟩ : ∃ W, w.alloc (.cells #[.int .i64 2, .int .i64 n, .string ⟨#[]⟩, .slice none 0 0, .slice none 0 0] 28) = W := ⟨_, rfl⟩
  have hblk : Blk W w.heap.size 28 [.int .i64 2, .int .i64 n, .string ⟨#[]⟩, .slice none 0 0, .slice none 0 0] := by rw [← hW]; exact heap_alloc_new w _
  have hbW : Below w.heap.size w W := by rw [← hW]; exact (Below.refl _ w).alloc (Nat.le_refl _) _
  have H0 := Lib.hid (And.intro hW (And.intro hblk hbW))
  clear hblk hbW hW
  go_enter Tryz.func22, Tryz.ntmps22
  go_wp2_with fail
  refine (hbr.out _).mono ?_
  rintro e w2 ⟨rfl, hb2⟩
  rw [H0.out.1] at hb2
  have hk2 := H0.out.2.1.below hb2
  have H2 := Lib.hid (And.intro hk2 (H0.out.2.2.trans (hb2.mono H0.out.2.2.size)))
  have c0 := hk2.cell 0
  have c1 := hk2.cell 1
  have c2 := hk2.cell 2
  have c3 := hk2.cell 3
  have c4 := hk2.cell 4
  clear hk2 hb2
  go_wp2
  refine wp_loop_rounds 1 ?_
  rw [rounds_succ]
  go_wp2_with fail
  refine (valid_any ⟨#[]⟩ _ (by decide) (HT.out.below H2.out.2)).mono ?_
  rintro e w3 ⟨rfl, hb3⟩
  rw [show (⟨#[]⟩ : ByteArray).data.toList = [] from rfl, valid_nil]
  have hk3 := H2.out.1.below hb3
  have H3 := Lib.hid (And.intro hk3 (H2.out.2.trans (hb3.mono H2.out.2.size)))
  clear c0 c1 c2 c3 c4
  have c0 := hk3.cell 0
  have c1 := hk3.cell 1
  have c4 := hk3.cell 4
  clear hk3 hb3
  go_wp2_with fail
  refine (rises_none _).mono ?_
  rintro e w4 ⟨rfl, hb4⟩
  have hk4 := H3.out.1.below hb4
  have H4 := Lib.hid (H3.out.2.trans (hb4.mono H3.out.2.size))
  clear c0 c1 c4
  have c0 := hk4.cell 0
  have c1 := hk4.cell 1
  clear hk4 hb4
  go_wp2
  go_ret
  exact ⟨by rw [validV]; try rfl, H4.out⟩
set_option maxHeartbeats 4000000 in
set_option maxRecDepth 100000 in
theorem vvalid_bool (n : Int) (hn : 0 ≤ n ∧ n < 256) (w : World) (hT : Tabs w) : ValidC w (.bool n) [.int .i64 1, .int .i64 n, .string ⟨#[]⟩, .slice none 0 0, .slice none 0 0] := by
  have HT := Lib.hid hT
  clear hT
  unfold ValidC
  have hbr := Lib.hid (fun (W : World) => bare_v (S := fun _ => True) (w0 := w) (v := (.bool n)) (.bool n hn) W)
  obtain ⟨W, hW⟩ : ∃ W, w.alloc (.cells #[.int .i64 1, .int .i64 n, .string ⟨#[]⟩, .slice none 0 0, .slice none 0 0] 28) = W := ⟨_, rfl⟩
  have hblk : Blk W w.heap.size 28 [.int .i64 1, .int .i64 n, .string ⟨#[]⟩, .slice none 0 0, .slice none 0 0] := by rw [← hW]; exact heap_alloc_new w _
  have hbW : Below w.heap.size w W := by rw [← hW]; exact (Below.refl _ w).alloc (Nat.le_refl _) _
  have H0 := Lib.hid (And.intro hW (And.intro hblk hbW))
  clear hblk hbW hW
  go_enter Tryz.func22, Tryz.ntmps22
  go_wp2_with fail
  refine (hbr.out _).mono ?_
  rintro e w2 ⟨rfl, hb2⟩
  rw [H0.out.1] at hb2
  have hk2 := H0.out.2.1.below hb2
  have H2 := Lib.hid (And.intro hk2 (H0.out.2.2.trans (hb2.mono H0.out.2.2.size)))
  have c0 := hk2.cell 0
  have c1 := hk2.cell 1
  have c2 := hk2.cell 2
  have c3 := hk2.cell 3
  have c4 := hk2.cell 4
  clear hk2 hb2
  go_wp2
  refine wp_loop_rounds 1 ?_
  rw [rounds_succ]
  go_wp2_with fail
  refine (valid_any ⟨#[]⟩ _ (by decide) (HT.out.below H2.out.2)).mono ?_
  rintro e w3 ⟨rfl, hb3⟩
  rw [show (⟨#[]⟩ : ByteArray).data.toList = [] from rfl, valid_nil]
  have hk3 := H2.out.1.below hb3
  have H3 := Lib.hid (And.intro hk3 (H2.out.2.trans (hb3.mono H2.out.2.size)))
  clear c0 c1 c2 c3 c4
  have c0 := hk3.cell 0
  have c1 := hk3.cell 1
  have c4 := hk3.cell 4
  clear hk3 hb3
  go_wp2_with fail
  refine (rises_none _).mono ?_
  rintro e w4 ⟨rfl, hb4⟩
  have hk4 := H3.out.1.below hb4
  have H4 := Lib.hid (H3.out.2.trans (hb4.mono H3.out.2.size))
  clear c0 c1 c4
  have c0 := hk4.cell 0
  have c1 := hk4.cell 1
  clear hk4 hb4
  by_cases h0 : n = 0
  · subst h0
    go_wp2
    go_ret
    exact ⟨rfl, H4.out⟩
  · have h0b : (n == 0) = false := by simpa using h0
    by_cases h1 : n = 1
    · subst h1
      go_wp2
      go_ret
      exact ⟨rfl, H4.out⟩
    · have h1b : (n == 1) = false := by simpa using h1
      have hv : validV (.bool n) = false := by rw [validV, h0b, h1b]; rfl
      have HVv := Lib.hid hv
      clear hv hn
      go_wp2
      go_ret
      exact ⟨by rw [HVv.out]; try rfl, H4.out⟩
set_option maxHeartbeats 4000000 in
set_option maxRecDepth 100000 in
theorem vvalid_text (s : BL) (hs : s.length ≤ 1000000) (w : World) (hT : Tabs w) : ValidC w (.text s) [.int .i64 3, .int .i64 0, .string (BA s), .slice none 0 0, .slice none 0 0] := by
  have HT := Lib.hid hT
  clear hT
  unfold ValidC
  obtain ⟨X, hX⟩ : ∃ X, BA s = X := ⟨_, rfl⟩
  have hXs : X.size ≤ 1099511627776 := by rw [← hX, ba_size]; omega
  have hvv : validV (.text s) = Lib.validD X.data.toList := by rw [← hX, validV]
  have hbr := Lib.hid (fun (W : World) => bare_v (S := fun _ => True) (w0 := w) (v := .text s) (.text s) W)
  rw [hX] at hbr ⊢
  have HX := Lib.hid (And.intro hXs hvv)
  clear hXs hvv hX hs
  obtain ⟨W, hW⟩ : ∃ W, w.alloc (.cells #[.int .i64 3, .int .i64 0, .string X, .slice none 0 0, .slice none 0 0] 28) = W := ⟨_, rfl⟩
  have hblk : Blk W w.heap.size 28 [.int .i64 3, .int .i64 0, .string X, .slice none 0 0, .slice none 0 0] := by rw [← hW]; exact heap_alloc_new w _
  have hbW : Below w.heap.size w W := by rw [← hW]; exact (Below.refl _ w).alloc (Nat.le_refl _) _
  have H0 := Lib.hid (And.intro hW (And.intro hblk hbW))
  clear hblk hbW hW
  go_enter Tryz.func22, Tryz.ntmps22
  go_wp2_with fail
  refine (hbr.out _).mono ?_
  rintro e w2 ⟨rfl, hb2⟩
  rw [H0.out.1] at hb2
  have hk2 := H0.out.2.1.below hb2
  have H2 := Lib.hid (And.intro hk2 (H0.out.2.2.trans (hb2.mono H0.out.2.2.size)))
  have c0 := hk2.cell 0
  have c1 := hk2.cell 1
  have c2 := hk2.cell 2
  have c3 := hk2.cell 3
  have c4 := hk2.cell 4
  clear hk2 hb2
  go_wp2
  refine wp_loop_rounds 1 ?_
  rw [rounds_succ]
  go_wp2_with fail
  refine (valid_any X _ HX.out.1 (HT.out.below H2.out.2)).mono ?_
  rintro e w3 ⟨rfl, hb3⟩
  have hk3 := H2.out.1.below hb3
  have H3 := Lib.hid (And.intro hk3 (H2.out.2.trans (hb3.mono H2.out.2.size)))
  clear c0 c1 c2 c3 c4
  have c0 := hk3.cell 0
  have c1 := hk3.cell 1
  have c4 := hk3.cell 4
  clear hk3 hb3
  cases htv : Lib.validD X.data.toList with
  | false =>
    go_wp2
    go_ret
    exact ⟨by rw [HX.out.2, htv]; try rfl, H3.out.2⟩
  | true =>
    go_wp2_with fail
    refine (rises_none _).mono ?_
    rintro e w4 ⟨rfl, hb4⟩
    have hk4 := H3.out.1.below hb4
    have H4 := Lib.hid (H3.out.2.trans (hb4.mono H3.out.2.size))
    clear c0 c1 c4
    have c0 := hk4.cell 0
    have c1 := hk4.cell 1
    clear hk4 hb4
    go_wp2
    go_ret
    exact ⟨by rw [HX.out.2, htv]; try rfl, H4.out⟩
end Go.Proofs.YtccnfnoonpfdfaaGreatDoor
namespace Go.Proofs.YtccnfnoonpfdfaaGreatDoor
open Go.Shelf Go.RowKit Go.Lib
def prevOf (l : List (BL × V)) (i : Nat) : Option BL := if i = 0 then none else (l[i - 1]?).map (·.1)
theorem ba_tl4 (l : BL) : (BA l).toList = l := by rw [Lib.toList_data]
theorem risesL_cons (p : Option BL) (f : BL × V) (l : List (BL × V)) : risesL p (f :: l) = ((validF f && (match p with | none => true | some q => lcmp q f.1 == .lt)) && risesL (some f.1) l) := by
  cases p <;> simp [risesL]
theorem rises_drop (l : List (BL × V)) (i : Nat) (h : i < l.length) : risesL (prevOf l i) (l.drop i) = ((validF l[i] && (match prevOf l i with | none => true | some q => lcmp q l[i].1 == .lt)) && risesL (prevOf l (i + 1)) (l.drop (i + 1))) := by
  rw [List.drop_eq_getElem_cons h, risesL_cons]
  congr 2
  unfold prevOf
  rw [if_neg (by omega), Nat.add_sub_cancel, List.getElem?_eq_getElem h]
  rfl
set_option maxHeartbeats 16000000 in
set_option maxRecDepth 100000 in
theorem rises_any (l : List (BL × V)) (cs : List Value) (b cap : Nat) (S : Nat → Prop) (w : World) (hV : FsAt S w l cs) (hr : ∀ k u, cs[k]? = some u → w.cell? ⟨b, k, none⟩ = some u) (hT : Tabs w) (hlen : (fieldsL l).length ≤ 1000000) (hl : l.length ≤ 1000000)
    (ih : ∀ x ∈ l, ValidH x.2) : Calls Tryz.prog 42 #[.slice (some ⟨b, 0, none⟩) l.length cap] w fun e w' => e = .returned (.bool (risesL none l)) ∧ Below w.heap.size w w' := by
  have HV := Lib.hid (And.intro hV (And.intro hr (And.intro ih hlen)))
  have HT := Lib.hid hT
  obtain ⟨N1, hN1⟩ : ∃ n, l.length = n := ⟨_, rfl⟩
  rw [hN1] at hl ⊢
  have HN1 := Lib.hid hN1
  clear hV hr ih hlen hT hN1
  go_enter Tryz.func42, Tryz.ntmps42
  go_wp2_with fail
  go_loopg [7] N1 (fun gk iv wr => ∃ i : Nat, gk + i = N1 ∧ iv = .int .i64 i ∧ Hid (risesL none l = risesL (prevOf l i) (l.drop i)) ∧ Hid (Below w.heap.size w wr))
  case atStart => exact ⟨0, Nat.add_zero _, rfl, Lib.hid rfl, Lib.hid (Below.refl _ _)⟩
  case round =>
    obtain ⟨i, hg, rfl, HC, HW⟩ := hrel
    by_cases hi : i < N1
    · have hiz : (i : Int) < (N1 : Int) := by omega
      have hwK : IntKind.i64.wrap ((i : Int) + 1) = ((i + 1 : Nat) : Int) := by rw [IntWalk.i64_in _ (by omega)]; omega
      have hx1 : i < l.length := by rw [HN1.out]; exact hi
      obtain ⟨d0, d1, d2, d3, d4, hx, e5, e0, e1, e2, e3, e4⟩ := HV.out.1.get i hx1
      obtain ⟨q0, q1, q2, q3, q4, q5, q6, q7, q8, hq⟩ := hx.shape
      simp only [List.cons.injEq, and_true] at hq
      obtain ⟨rfl, rfl, rfl, rfl, rfl⟩ := hq
      have hdrop := rises_drop l i hx1
      obtain ⟨nx, hnx⟩ : ∃ n, l[i].1 = n := ⟨_, rfl⟩
      obtain ⟨x, hxe⟩ : ∃ x, l[i].2 = x := ⟨_, rfl⟩
      have hkm := keyf_mem (List.getElem_mem hx1)
      rw [hnx, hxe] at hkm
      have hvf : validF l[i] = (Lib.validD nx && validV x) := by rw [← hnx, ← hxe]; rw [show l[i] = (l[i].1, l[i].2) from rfl, validF]
      rw [hvf, hnx] at hdrop
      rw [hnx] at e5
      rw [hxe] at hx
      obtain ⟨NX, hNX⟩ : ∃ n, BA nx = n := ⟨_, rfl⟩
      rw [hNX] at e5
      obtain ⟨vv, hvv⟩ : ∃ v, validV x = v := ⟨_, rfl⟩
      rw [hvv] at hdrop
      have a5 := bcell HW.out (HV.out.2.1 _ _ e5)
      have a0 := bcell HW.out (HV.out.2.1 _ _ e0)
      have a1 := bcell HW.out (HV.out.2.1 _ _ e1)
      have a2 := bcell HW.out (HV.out.2.1 _ _ e2)
      have a3 := bcell HW.out (HV.out.2.1 _ _ e3)
      have a4 := bcell HW.out (HV.out.2.1 _ _ e4)
      obtain ⟨W3, hW3⟩ : ∃ W, wr.alloc (.cells #[.string NX, .int .i64 q0, .int .i64 q1, .string q2, .slice q3 q4 q5, .slice q6 q7 q8] 51) = W := ⟨_, rfl⟩
      obtain ⟨B, hBe⟩ : ∃ B, wr.heap.size = B := ⟨_, rfl⟩
      have hB3 : Blk W3 B 51 [.string NX, .int .i64 q0, .int .i64 q1, .string q2, .slice q3 q4 q5, .slice q6 q7 q8] := by rw [← hW3, ← hBe]; exact heap_alloc_new wr _
      have hb13 : Below wr.heap.size wr W3 := by rw [← hW3]; exact (Below.refl _ wr).alloc (Nat.le_refl _) _
      have HB3 := Lib.hid (And.intro hB3 (And.intro (HW.out.trans (hb13.mono HW.out.size)) (HW.out.trans (hb13.mono HW.out.size))))
      have HN := Lib.hid (And.intro (show NX.size ≤ 1099511627776 by rw [← hNX, ba_size]; have := HV.out.2.2.2; omega) hNX)
      have hih := HV.out.2.2.1 l[i] (List.getElem_mem hx1)
      rw [hxe] at hih
      have HX := Lib.hid (fun (W : World) (hb : Below w.heap.size w W) => show Calls _ _ _ _ (fun e w' => e = .returned (.bool vv) ∧ Below W.heap.size W w') by rw [← hvv]; exact hih S W _ (hx.later hb) (HT.out.below hb) (by have := HV.out.2.2.2; omega))
      have hvd : Lib.validD NX.data.toList = Lib.validD nx := by rw [← hNX]
      clear hx e0 e1 e2 e3 e4 e5 hnx hxe hkm hvf hNX hih hvv hb13
      go_wp2_with fail
      (try rw [hW3]); (try rw [hBe])
      clear a0 a1 a2 a3 a4 a5 hW3 hBe
      have k0 := bel_cell (hB3.cell 0)
      have k1 := bel_cell (hB3.cell 1)
      have k2 := bel_cell (hB3.cell 2)
      have k3 := bel_cell (hB3.cell 3)
      have k4 := bel_cell (hB3.cell 4)
      have k5 := bel_cell (hB3.cell 5)
      clear hB3
      cases hd : Lib.validD nx with
      | false =>
        rw [hd] at hvd hdrop
        have HTV := Lib.hid (fun (W : World) (hb : Below w.heap.size w W) => show Calls Tryz.prog 41 #[.string NX] W (fun e w' => e = .returned (.bool false) ∧ Below W.heap.size W w') by rw [← hvd]; exact valid_any NX W HN.out.1 (HT.out.below hb))
        have HF := Lib.hid (show risesL none l = false by rw [HC.out, hdrop]; rfl)
        clear hvd hd hdrop
        refine wp_region_bel (by kernel_rfl) (by kernel_rfl) ?_
        repeat (go_big_quiet_step ((first
          | (go_at_call 41; exact calls_bel (show Calls _ _ _ _ _ from HTV.out _ (HB3.out.2.2.trans ((BelBy.bel _).mono HB3.out.2.2.size))))
          | (go_at_call 22; exact calls_bel (show Calls _ _ _ _ _ from HX.out _ (HB3.out.2.2.trans ((BelBy.bel _).mono HB3.out.2.2.size)))))))
        refine wpQuiet_nil ?_
        rintro _ ⟨pq, rfl⟩
        clear k0 k1 k2 k3 k4 k5
        go_wp2
        go_ret
        exact ⟨by rw [HF.out]; try rfl, HB3.out.2.2.trans (pq.bel.mono HB3.out.2.2.size)⟩
      | true =>
        rw [hd] at hvd hdrop
        have HTV := Lib.hid (fun (W : World) (hb : Below w.heap.size w W) => show Calls Tryz.prog 41 #[.string NX] W (fun e w' => e = .returned (.bool true) ∧ Below W.heap.size W w') by rw [← hvd]; exact valid_any NX W HN.out.1 (HT.out.below hb))
        clear hvd hd
        by_cases hi0 : i = 0
        · subst hi0
          have hp0 : prevOf l 0 = none := rfl
          rw [hp0] at hdrop
          have HFx : risesL none l = (vv && risesL (prevOf l (0 + 1)) (l.drop (0 + 1))) := by rw [HC.out, hp0, hdrop]; simp
          clear hp0 hdrop
          refine wp_region_bel (by kernel_rfl) (by kernel_rfl) ?_
          repeat (go_big_quiet_step ((first
            | (go_at_call 41; exact calls_bel (show Calls _ _ _ _ _ from HTV.out _ (HB3.out.2.2.trans ((BelBy.bel _).mono HB3.out.2.2.size))))
            | (go_at_call 22; exact calls_bel (show Calls _ _ _ _ _ from HX.out _ (HB3.out.2.2.trans ((BelBy.bel _).mono HB3.out.2.2.size)))))))
          refine wpQuiet_nil ?_
          rintro _ ⟨pq, rfl⟩
          clear k0 k1 k2 k3 k4 k5
          have HW5 := Lib.hid (HB3.out.2.2.trans (pq.bel.mono HB3.out.2.2.size))
          have HF := Lib.hid HFx
          clear HFx
          cases vv with
          | false =>
            go_wp2
            go_ret
            exact ⟨by rw [HF.out]; try rfl, HW5.out⟩
          | true =>
            go_wp2
            go_roundg (gk - 1)
            case rel => exact ⟨0 + 1, by omega, rfl, Lib.hid (HF.out.trans (by simp)), HW5⟩
            case measure => omega
        · obtain ⟨np, hnp⟩ : ∃ n, l[i - 1].1 = n := ⟨_, rfl⟩
          have hpi : prevOf l i = some np := by unfold prevOf; rw [if_neg hi0, List.getElem?_eq_getElem (by omega), ← hnp]; rfl
          obtain ⟨_, _, _, _, _, _, e5, _⟩ := HV.out.1.get (i - 1) (by omega)
          rw [hnp] at e5
          obtain ⟨NP, hNP⟩ : ∃ n, BA np = n := ⟨_, rfl⟩
          rw [hNP] at e5
          have hprev := HV.out.2.1 _ _ e5
          have hdo : decide (0 < i) = true := by simpa using (by omega : 0 < i)
          have hio : (0 : Int) < (i : Int) := by omega
          have hwm : IntKind.i64.wrap ((i : Int) - 1) = ((i - 1 : Nat) : Int) := by rw [IntWalk.i64_in _ (by omega)]; omega
          have hwn : ((i : Int) - 1).toNat = i - 1 := by omega
          have hbl : Op.bytesLess NP.toList NX.toList = (lcmp np nx == .lt) := by rw [lcmp_less, ← hNP, ← HN.out.2, ba_tl4, ba_tl4]
          rw [hpi] at hdrop
          simp only [] at hdrop
          cases ho : (lcmp np nx == .lt) with
          | false =>
            rw [ho] at hbl hdrop
            have HF := Lib.hid (show risesL none l = false by rw [HC.out, hpi, hdrop]; simp)
            clear hpi hdrop ho hnp hNP e5
            have j0 := bel_cell (bcell HB3.out.2.1 hprev)
            refine wp_region_bel (by kernel_rfl) (by kernel_rfl) ?_
            repeat (go_big_quiet_step ((first
              | (go_at_call 41; exact calls_bel (show Calls _ _ _ _ _ from HTV.out _ (HB3.out.2.2.trans ((BelBy.bel _).mono HB3.out.2.2.size))))
              | (go_at_call 22; exact calls_bel (show Calls _ _ _ _ _ from HX.out _ (HB3.out.2.2.trans ((BelBy.bel _).mono HB3.out.2.2.size)))))))
            refine wpQuiet_nil ?_
            rintro _ ⟨pq, rfl⟩
            clear k0 k1 k2 k3 k4 k5 j0
            go_wp2
            go_ret
            exact ⟨by rw [HF.out]; try rfl, HB3.out.2.2.trans (pq.bel.mono HB3.out.2.2.size)⟩
          | true =>
            rw [ho] at hbl hdrop
            have HFx : risesL none l = (vv && risesL (prevOf l (i + 1)) (l.drop (i + 1))) := by rw [HC.out, hpi, hdrop]; simp
            clear hpi hdrop ho hnp hNP e5
            have j0 := bel_cell (bcell HB3.out.2.1 hprev)
            refine wp_region_bel (by kernel_rfl) (by kernel_rfl) ?_
            repeat (go_big_quiet_step ((first
              | (go_at_call 41; exact calls_bel (show Calls _ _ _ _ _ from HTV.out _ (HB3.out.2.2.trans ((BelBy.bel _).mono HB3.out.2.2.size))))
              | (go_at_call 22; exact calls_bel (show Calls _ _ _ _ _ from HX.out _ (HB3.out.2.2.trans ((BelBy.bel _).mono HB3.out.2.2.size)))))))
            refine wpQuiet_nil ?_
            rintro _ ⟨pq, rfl⟩
            clear k0 k1 k2 k3 k4 k5 j0
            have HW5 := Lib.hid (HB3.out.2.2.trans (pq.bel.mono HB3.out.2.2.size))
            have HF := Lib.hid HFx
            clear HFx
            cases vv with
            | false =>
              go_wp2
              go_ret
              exact ⟨by rw [HF.out]; try rfl, HW5.out⟩
            | true =>
              go_wp2
              go_roundg (gk - 1)
              case rel => exact ⟨i + 1, by omega, rfl, Lib.hid (HF.out.trans (by simp)), HW5⟩
              case measure => omega
    · have hiz : ¬ (i : Int) < (N1 : Int) := by omega
      have HF := Lib.hid (show risesL none l = true by rw [HC.out, List.drop_eq_nil_of_le (by rw [HN1.out]; omega), risesL])
      go_wp2
      go_ret
      exact ⟨by rw [HF.out]; try rfl, HW.out⟩
end Go.Proofs.YtccnfnoonpfdfaaGreatDoor
namespace Go.Proofs.YtccnfnoonpfdfaaGreatDoor
open Go.Shelf Go.RowKit Go.Lib
set_option maxHeartbeats 8000000 in
set_option maxRecDepth 100000 in
theorem vvalid_list (l : List V) (cs : List Value) (sl : Value) (S : Nat → Prop) (w : World) (hV : VsAt S w l cs) (hrow : RowAt S w sl l.length cs) (hT : Tabs w) (hlen : (keysL l).length ≤ 1000000) (ih : ∀ x ∈ l, ValidH x) :
    ValidC w (.list l) [.int .i64 4, .int .i64 0, .string ⟨#[]⟩, sl, .slice none 0 0] := by
  unfold ValidC
  rw [validV]
  obtain ⟨p, cap, rfl, hcell⟩ : ∃ p cap, sl = .slice p l.length cap ∧ (0 < l.length → ∃ b, p = some ⟨b, 0, none⟩ ∧ ∀ k u, cs[k]? = some u → w.cell? ⟨b, k, none⟩ = some u) := by
    rcases hrow.2 with ⟨h0, rfl⟩ | ⟨b, cap, rfl, _, hc⟩
    · exact ⟨none, 0, by rw [h0], fun h => by omega⟩
    · exact ⟨_, _, rfl, fun _ => ⟨b, rfl, hc⟩⟩
  have hbr := Lib.hid (fun (W : World) => bare_v (VAt.list l cs _ hV hrow) W)
  have hN : l.length ≤ 1000000 := Nat.le_trans (keysL_long l) hlen
  obtain ⟨N1, hN1⟩ : ∃ n, l.length = n := ⟨_, rfl⟩
  rw [hN1] at hbr hN ⊢
  have HT := Lib.hid hT
  have HV := Lib.hid (And.intro hV (And.intro hcell (And.intro hlen (And.intro ih hN1))))
  clear hT hV hrow hcell hlen ih hN1
  obtain ⟨W, hW⟩ : ∃ W, w.alloc (.cells #[.int .i64 4, .int .i64 0, .string ⟨#[]⟩, .slice p N1 cap, .slice none 0 0] 28) = W := ⟨_, rfl⟩
  have hblk : Blk W w.heap.size 28 [.int .i64 4, .int .i64 0, .string ⟨#[]⟩, .slice p N1 cap, .slice none 0 0] := by rw [← hW]; exact heap_alloc_new w _
  have hbW : Below w.heap.size w W := by rw [← hW]; exact (Below.refl _ w).alloc (Nat.le_refl _) _
  have H0 := Lib.hid (And.intro hW (And.intro hblk hbW))
  clear hblk hbW hW
  go_enter Tryz.func22, Tryz.ntmps22
  go_wp2_with fail
  refine (hbr.out _).mono ?_
  rintro e w2 ⟨rfl, hb2⟩
  rw [H0.out.1] at hb2
  have hk2 := H0.out.2.1.below hb2
  have H2 := Lib.hid (And.intro hk2 (H0.out.2.2.trans (hb2.mono H0.out.2.2.size)))
  have c0 := hk2.cell 0
  have c1 := hk2.cell 1
  have c2 := hk2.cell 2
  have c3 := hk2.cell 3
  have c4 := hk2.cell 4
  clear hk2 hb2
  go_wp2_with fail
  clear c0 c1 c2 c3 c4
  go_loopg [21] N1 (fun gk iv wr => ∃ i : Nat, gk + i = N1 ∧ iv = .int .i64 i ∧ Hid (validVs l = validVs (l.drop i)) ∧ Hid (Below w2.heap.size w2 wr))
  case atStart => exact ⟨0, Nat.add_zero _, rfl, Lib.hid rfl, Lib.hid (Below.refl _ _)⟩
  case round =>
    obtain ⟨i, hg, rfl, HC, HB⟩ := hrel
    by_cases hi : i < N1
    · have hiz : (i : Int) < (N1 : Int) := by omega
      have hwK : IntKind.i64.wrap ((i : Int) + 1) = ((i + 1 : Nat) : Int) := by rw [IntWalk.i64_in _ (by omega)]; omega
      have hx1 : i < l.length := by rw [HV.out.2.2.2.2]; exact hi
      obtain ⟨b, hpe, hr⟩ := HV.out.2.1 (by omega)
      subst hpe
      have hbw : Below w.heap.size w wr := H2.out.2.trans (HB.out.mono H2.out.2.size)
      obtain ⟨d0, d1, d2, d3, d4, hx, e0, e1, e2, e3, e4⟩ := HV.out.1.get i hx1
      obtain ⟨q0, q1, q2, q3, q4, q5, q6, q7, q8, hq⟩ := hx.shape
      simp only [List.cons.injEq, and_true] at hq
      obtain ⟨rfl, rfl, rfl, rfl, rfl⟩ := hq
      have a0 := bcell hbw (hr _ _ e0)
      have a1 := bcell hbw (hr _ _ e1)
      have a2 := bcell hbw (hr _ _ e2)
      have a3 := bcell hbw (hr _ _ e3)
      have a4 := bcell hbw (hr _ _ e4)
      obtain ⟨vv, hvv⟩ : ∃ v, validV l[i] = v := ⟨_, rfl⟩
      have hdrop := vs_drop l i hx1
      rw [hvv] at hdrop
      have HF := Lib.hid (HC.out.trans hdrop)
      obtain ⟨W3, hW3⟩ : ∃ W, wr.alloc (.cells #[.int .i64 q0, .int .i64 q1, .string q2, .slice q3 q4 q5, .slice q6 q7 q8] 28) = W := ⟨_, rfl⟩
      have hb13 : Below wr.heap.size wr W3 := by rw [← hW3]; exact (Below.refl _ wr).alloc (Nat.le_refl _) _
      have hbw3 : Below w.heap.size w W3 := hbw.trans (hb13.mono hbw.size)
      have hc := HV.out.2.2.2.1 l[i] (List.getElem_mem hx1) S W3 _ (hx.later hbw3) (HT.out.below hbw3) (by have := key_mem (List.getElem_mem hx1); have := HV.out.2.2.1; omega)
      unfold ValidC at hc
      rw [hvv] at hc
      have HX := Lib.hid (And.intro hc (And.intro (HB.out.trans (hb13.mono HB.out.size)) hW3))
      clear hx e0 e1 e2 e3 e4 hr hvv hdrop hc hb13 hbw3 hbw hW3
      go_wp2_with fail
      rw [HX.out.2.2]
      refine HX.out.1.mono ?_
      rintro e w4 ⟨rfl, hb4⟩
      have HB4 := Lib.hid (HX.out.2.1.trans (hb4.mono HX.out.2.1.size))
      clear hb4 a0 a1 a2 a3 a4
      cases vv with
      | false =>
        go_wp2
        go_ret
        exact ⟨by rw [HF.out]; try rfl, H2.out.2.trans (HB4.out.mono H2.out.2.size)⟩
      | true =>
        go_wp2
        go_roundg (gk - 1)
        case rel => exact ⟨i + 1, by omega, rfl, Lib.hid (HF.out.trans (by simp)), HB4⟩
        case measure => omega
    · have hiz : ¬ (i : Int) < (N1 : Int) := by omega
      have HF := Lib.hid (show validVs l = true by rw [HC.out, List.drop_eq_nil_of_le (by rw [HV.out.2.2.2.2]; omega), validVs])
      have hk2 := H2.out.1.below HB.out
      have c0 := hk2.cell 0
      have c1 := hk2.cell 1
      have c2 := hk2.cell 2
      have c4 := hk2.cell 4
      have hbw := H2.out.2.trans (HB.out.mono H2.out.2.size)
      have HK := Lib.hid (And.intro hk2 hbw)
      clear hk2 hbw
      go_wp2_with fail
      refine (valid_any ⟨#[]⟩ _ (by decide) (HT.out.below HK.out.2)).mono ?_
      rintro e w3 ⟨rfl, hb3⟩
      rw [show (⟨#[]⟩ : ByteArray).data.toList = [] from rfl, valid_nil]
      have hk3 := HK.out.1.below hb3
      have H3 := Lib.hid (And.intro hk3 (HK.out.2.trans (hb3.mono HK.out.2.size)))
      clear c0 c1 c2 c4
      have c0 := hk3.cell 0
      have c1 := hk3.cell 1
      have c4 := hk3.cell 4
      clear hk3 hb3
      go_wp2_with fail
      refine (rises_none _).mono ?_
      rintro e w4 ⟨rfl, hb4⟩
      have hk4 := H3.out.1.below hb4
      have H4 := Lib.hid (H3.out.2.trans (hb4.mono H3.out.2.size))
      clear c0 c1 c4
      have c0 := hk4.cell 0
      have c1 := hk4.cell 1
      clear hk4 hb4
      go_wp2
      go_ret
      exact ⟨by rw [HF.out]; try rfl, H4.out⟩
set_option maxHeartbeats 8000000 in
set_option maxRecDepth 100000 in
theorem vvalid_obj (l : List (BL × V)) (cs : List Value) (sl : Value) (S : Nat → Prop) (w : World) (hV : FsAt S w l cs) (hrow : RowAt S w sl l.length cs) (hT : Tabs w) (hlen : (fieldsL l).length ≤ 1000000) (ih : ∀ x ∈ l, ValidH x.2) :
    ValidC w (.obj l) [.int .i64 5, .int .i64 0, .string ⟨#[]⟩, .slice none 0 0, sl] := by
  unfold ValidC
  rw [validV]
  have hris : ∀ (W : World), Below w.heap.size w W → Calls Tryz.prog 42 #[sl] W fun e w' => e = .returned (.bool (risesL none l)) ∧ Below W.heap.size W w' := by
    intro W hb
    rcases hrow.2 with ⟨h0, rfl⟩ | ⟨b, cap, rfl, _, hc⟩
    · obtain rfl : l = [] := List.eq_nil_of_length_eq_zero h0
      rw [risesL]
      exact rises_none W
    · exact rises_any l cs b cap S W (hV.later hb) (fun k u hu => bcell hb (hc k u hu)) (hT.below hb) hlen (Nat.le_trans (fieldsL_long l) hlen) ih
  obtain ⟨p, cap, rfl⟩ : ∃ p cap, sl = .slice p l.length cap := by
    rcases hrow.2 with ⟨h0, rfl⟩ | ⟨b, cap, rfl, _, hc⟩
    · exact ⟨none, 0, by rw [h0]⟩
    · exact ⟨_, _, rfl⟩
  have hbr := Lib.hid (fun (W : World) => bare_v (VAt.obj l cs _ hV hrow) W)
  obtain ⟨N1, hN1⟩ : ∃ n, l.length = n := ⟨_, rfl⟩
  rw [hN1] at hbr hris ⊢
  have HT := Lib.hid hT
  have HR := Lib.hid hris
  clear hT hV hrow hlen ih hN1 hris
  obtain ⟨W, hW⟩ : ∃ W, w.alloc (.cells #[.int .i64 5, .int .i64 0, .string ⟨#[]⟩, .slice none 0 0, .slice p N1 cap] 28) = W := ⟨_, rfl⟩
  have hblk : Blk W w.heap.size 28 [.int .i64 5, .int .i64 0, .string ⟨#[]⟩, .slice none 0 0, .slice p N1 cap] := by rw [← hW]; exact heap_alloc_new w _
  have hbW : Below w.heap.size w W := by rw [← hW]; exact (Below.refl _ w).alloc (Nat.le_refl _) _
  have H0 := Lib.hid (And.intro hW (And.intro hblk hbW))
  clear hblk hbW hW
  go_enter Tryz.func22, Tryz.ntmps22
  go_wp2_with fail
  refine (hbr.out _).mono ?_
  rintro e w2 ⟨rfl, hb2⟩
  rw [H0.out.1] at hb2
  have hk2 := H0.out.2.1.below hb2
  have H2 := Lib.hid (And.intro hk2 (H0.out.2.2.trans (hb2.mono H0.out.2.2.size)))
  have c0 := hk2.cell 0
  have c1 := hk2.cell 1
  have c2 := hk2.cell 2
  have c3 := hk2.cell 3
  have c4 := hk2.cell 4
  clear hk2 hb2
  go_wp2
  refine wp_loop_rounds 1 ?_
  rw [rounds_succ]
  go_wp2_with fail
  refine (valid_any ⟨#[]⟩ _ (by decide) (HT.out.below H2.out.2)).mono ?_
  rintro e w3 ⟨rfl, hb3⟩
  rw [show (⟨#[]⟩ : ByteArray).data.toList = [] from rfl, valid_nil]
  have hk3 := H2.out.1.below hb3
  have H3 := Lib.hid (And.intro hk3 (H2.out.2.trans (hb3.mono H2.out.2.size)))
  clear c0 c1 c2 c3 c4
  have c0 := hk3.cell 0
  have c1 := hk3.cell 1
  have c4 := hk3.cell 4
  clear hk3 hb3
  go_wp2_with fail
  refine (HR.out _ H3.out.2).mono ?_
  rintro e w4 ⟨rfl, hb4⟩
  have hk4 := H3.out.1.below hb4
  have H4 := Lib.hid (H3.out.2.trans (hb4.mono H3.out.2.size))
  clear c0 c1 c4
  have c0 := hk4.cell 0
  have c1 := hk4.cell 1
  clear hk4 hb4
  obtain ⟨vv, hvv⟩ : ∃ v, risesL none l = v := ⟨_, rfl⟩
  have HVV := Lib.hid hvv
  rw [hvv]
  clear hvv
  cases vv with
  | false =>
    go_wp2
    go_ret
    exact ⟨by rw [HVV.out]; try rfl, H4.out⟩
  | true =>
    go_wp2
    go_ret
    exact ⟨by rw [HVV.out]; try rfl, H4.out⟩
/-- value.Valid tells of any value whether it may be. -/
theorem vvalid_any (v : V) : ValidH v := by
  refine V_kids ?_ ?_ ?_ ?_ ?_ ?_ v
  · intro l ih S w c hv hT hlen
    cases hv with
    | list l cs sl h hr => exact vvalid_list l cs sl S w h hr hT (by unfold keyL at hlen; simp at hlen; omega) ih
  · intro l ih S w c hv hT hlen
    cases hv with
    | obj l cs sl h hr => exact vvalid_obj l cs sl S w h hr hT (by unfold keyL at hlen; simp at hlen; omega) ih
  · intro S w c hv hT hlen
    cases hv
    exact vvalid_null w hT
  · intro n S w c hv hT hlen
    cases hv with
    | bool n hn => exact vvalid_bool n hn w hT
  · intro n S w c hv hT hlen
    cases hv with
    | int n hn => exact vvalid_int n hn w hT
  · intro s S w c hv hT hlen
    cases hv with
    | text s =>
      refine vvalid_text s ?_ w hT
      unfold keyL at hlen
      have := (escK_le s).1
      simp [writtenK] at hlen
      omega
end Go.Proofs.YtccnfnoonpfdfaaGreatDoor
namespace Go.Proofs.YtccnfnoonpfdfaaGreatDoor
open Go.Shelf Go.RowKit Go.Lib
end Go.Proofs.YtccnfnoonpfdfaaGreatDoor
namespace Go.Proofs.YtccnfnoonpfdfaaGreatDoor
open Go.Shelf Go.RowKit Go.Lib
theorem blk_new2 (w : World) (o : Obj) (cs : List Value) (e : TypeId) : Blk ((w.alloc o).alloc (.cells cs.toArray e)) (w.heap.size + 1) e cs := by
  have h := heap_alloc_new (w.alloc o) (.cells cs.toArray e)
  rw [show (w.alloc o).heap.size = w.heap.size + 1 by simp] at h
  exact h
def CmpC (f : FuncId) (w : World) (r : Ordering) (c d : List Value) : Prop := Calls Tryz.prog f #[.agg c.toArray, .agg d.toArray] w fun e w' => e = .returned (.int .i64 (sgnO r)) ∧ Below w.heap.size w w'
theorem cmps_nil (l m : List V) (h : l.length = 0 ∨ m.length = 0) : cmpsO l m = icmp l.length m.length := by
  cases l with
  | nil => cases m <;> simp [cmpsO, icmp] <;> omega
  | cons x l => cases m with
    | nil => simp [cmpsO, icmp]; omega
    | cons y m => simp at h
theorem cmpfs_nil (l m : List (BL × V)) (h : l.length = 0 ∨ m.length = 0) : cmpfsO l m = icmp l.length m.length := by
  cases l with
  | nil => cases m <;> simp [cmpfsO, icmp] <;> omega
  | cons x l => cases m with
    | nil => simp [cmpfsO, icmp]; omega
    | cons y m => simp at h
end Go.Proofs.YtccnfnoonpfdfaaGreatDoor
namespace Go.Proofs.YtccnfnoonpfdfaaGreatDoor
open Go.Shelf Go.RowKit Go.Lib
def CmpH (f : FuncId) (x : V) : Prop := ∀ (y : V) (S T : Nat → Prop) (w : World) (c d : List Value), VAt S w x c → VAt T w y d → CmpC f w (cmpO x y) c d
theorem cmps_drop (l m : List V) (i : Nat) (h1 : i < l.length) (h2 : i < m.length) : cmpsO (l.drop i) (m.drop i) = (cmpO l[i] m[i]).then (cmpsO (l.drop (i + 1)) (m.drop (i + 1))) := by
  rw [List.drop_eq_getElem_cons h1, List.drop_eq_getElem_cons h2, cmpsO]
theorem cmps_end (l m : List V) (i : Nat) (h0 : i ≤ l.length) (h3 : i ≤ m.length) (h : ¬ (i < l.length ∧ i < m.length)) : cmpsO (l.drop i) (m.drop i) = icmp l.length m.length := by
  rw [cmps_nil _ _ (by simp only [List.length_drop]; omega)]
  simp only [List.length_drop]
  unfold icmp
  by_cases h1 : l.length < m.length
  · rw [if_pos (by omega), if_pos (by omega)]
  · rw [if_neg (by omega)]
    by_cases h2 : m.length < l.length
    · rw [if_pos (by omega), if_neg (by omega), if_pos (by omega)]
    · rw [if_neg (by omega), if_neg (by omega), if_neg (by omega)]
theorem sgn_zero {o : Ordering} (h : sgnO o = 0) : o = .eq := by cases o <;> first | rfl | cases h
end Go.Proofs.YtccnfnoonpfdfaaGreatDoor
namespace Go.Proofs.YtccnfnoonpfdfaaGreatDoor
open Go.Shelf Go.RowKit Go.Lib
theorem cmpfO_eq (f g : BL × V) : cmpfO f g = (lcmp f.1 g.1).then (cmpO f.2 g.2) := by
  obtain ⟨n, x⟩ := f
  obtain ⟨k, y⟩ := g
  rw [cmpfO]
theorem cmpfs_drop (l m : List (BL × V)) (i : Nat) (h1 : i < l.length) (h2 : i < m.length) : cmpfsO (l.drop i) (m.drop i) = (cmpfO l[i] m[i]).then (cmpfsO (l.drop (i + 1)) (m.drop (i + 1))) := by
  rw [List.drop_eq_getElem_cons h1, List.drop_eq_getElem_cons h2, cmpfsO]
theorem cmpfs_end (l m : List (BL × V)) (i : Nat) (h0 : i ≤ l.length) (h3 : i ≤ m.length) (h : ¬ (i < l.length ∧ i < m.length)) : cmpfsO (l.drop i) (m.drop i) = icmp l.length m.length := by
  rw [cmpfs_nil _ _ (by simp only [List.length_drop]; omega)]
  simp only [List.length_drop]
  unfold icmp
  by_cases h1 : l.length < m.length
  · rw [if_pos (by omega), if_pos (by omega)]
  · rw [if_neg (by omega)]
    by_cases h2 : m.length < l.length
    · rw [if_pos (by omega), if_neg (by omega), if_pos (by omega)]
    · rw [if_neg (by omega), if_neg (by omega), if_neg (by omega)]
theorem VAt.kind {S : Nat → Prop} {w : World} {v : V} {c : List Value} (h : VAt S w v c) : ∃ n s p1 l1 c1 p2 l2 c2, c = [.int .i64 (kindV v), .int .i64 n, .string s, .slice p1 l1 c1, .slice p2 l2 c2] := by
  obtain ⟨k, n, s, p1, l1, c1, p2, l2, c2, rfl⟩ := h.shape
  have hk : k = kindV v := by cases h <;> rfl
  rw [hk]
  exact ⟨n, s, p1, l1, c1, p2, l2, c2, rfl⟩
theorem cmpO_kind (x y : V) (h : kindV x ≠ kindV y) : cmpO x y = icmp (kindV x) (kindV y) := by
  cases x <;> cases y <;> first | (exact absurd rfl h) | simp [cmpO]
end Go.Proofs.YtccnfnoonpfdfaaGreatDoor
namespace Go.Proofs.YtccnfnoonpfdfaaGreatDoor
open Go.Shelf Go.RowKit Go.Lib Go.Sort
theorem lcmp_trans : ∀ {l m n : BL}, lcmp l m = .lt → lcmp m n = .lt → lcmp l n = .lt
  | [], _, [], h1, h2 => by
    rename_i m
    cases m with
    | nil => simp [lcmp] at h1
    | cons => simp [lcmp] at h2
  | [], _, _ :: _, _, _ => rfl
  | _ :: _, [], _, h1, _ => by simp [lcmp] at h1
  | _ :: _, _ :: _, [], _, h2 => by simp [lcmp] at h2
  | a :: l, b :: m, c :: n, h1, h2 => by
    rw [lcmp_cons] at h1 h2 ⊢
    by_cases ab : a < b
    · by_cases bc : b < c
      · rw [if_pos (show a < c from UInt8.lt_trans ab bc)]
      · rw [if_neg bc] at h2
        by_cases cb : c < b
        · rw [if_pos cb] at h2; cases h2
        · have e : b = c := by
            apply UInt8.toNat_inj.mp
            have h3 : ¬ b.toNat < c.toNat := fun h => bc (UInt8.lt_iff_toNat_lt.mpr h)
            have h4 : ¬ c.toNat < b.toNat := fun h => cb (UInt8.lt_iff_toNat_lt.mpr h)
            omega
          rw [← e, if_pos ab]
    · rw [if_neg ab] at h1
      by_cases ba : b < a
      · rw [if_pos ba] at h1; cases h1
      · rw [if_neg ba] at h1
        have e : a = b := by
          apply UInt8.toNat_inj.mp
          have h3 : ¬ a.toNat < b.toNat := fun h => ab (UInt8.lt_iff_toNat_lt.mpr h)
          have h4 : ¬ b.toNat < a.toNat := fun h => ba (UInt8.lt_iff_toNat_lt.mpr h)
          omega
        rw [e]
        by_cases bc : b < c
        · rw [if_pos bc]
        · rw [if_neg bc] at h2 ⊢
          by_cases cb : c < b
          · rw [if_pos cb] at h2; cases h2
          · rw [if_neg cb] at h2 ⊢
            exact lcmp_trans h1 h2
end Go.Proofs.YtccnfnoonpfdfaaGreatDoor
namespace Go.Proofs.YtccnfnoonpfdfaaGreatDoor
open Go.Shelf Go.RowKit Go.Lib
theorem word_valid (k : Nat) : Lib.validD (wordL k) = true := by
  rcases (show k = 0 ∨ k = 1 ∨ k = 2 ∨ k = 3 ∨ k = 4 ∨ k = 5 ∨ k = 6 ∨ k = 7 ∨ 8 ≤ k by omega) with rfl | rfl | rfl | rfl | rfl | rfl | rfl | rfl | h
  iterate 8 (· decide)
  · unfold wordL
    rw [List.getD_eq_getElem?_getD, List.getElem?_eq_none (by simpa using h)]
    rfl
theorem name_valid (k : Nat) : Lib.validD (nameL k) = true := by
  rcases (show k = 0 ∨ k = 1 ∨ k = 2 ∨ k = 3 ∨ 4 ≤ k by omega) with rfl | rfl | rfl | rfl | h
  iterate 4 (· decide)
  · unfold nameL
    rw [List.getD_eq_getElem?_getD, List.getElem?_eq_none (by simpa using h)]
    rfl
theorem name_lt (j k : Nat) (h : j < k) (h4 : k < 4) : lcmp (nameL j) (nameL k) = .lt := by
  rcases (show (j = 0 ∧ k = 1) ∨ (j = 0 ∧ k = 2) ∨ (j = 0 ∧ k = 3) ∨ (j = 1 ∧ k = 2) ∨ (j = 1 ∧ k = 3) ∨ (j = 2 ∧ k = 3) by omega) with ⟨rfl, rfl⟩ | ⟨rfl, rfl⟩ | ⟨rfl, rfl⟩ | ⟨rfl, rfl⟩ | ⟨rfl, rfl⟩ | ⟨rfl, rfl⟩
  iterate 6 (· decide)
theorem leaf_valid (c : Nat) : validV (leafL c) = true := by
  unfold leafL
  split
  · rw [validV]
    rcases (show c / 6 % 2 = 0 ∨ c / 6 % 2 = 1 by omega) with h | h <;> rw [h] <;> rfl
  · split
    · rw [validV]
    · split
      · rw [validV]; exact word_valid _
      · rw [validV]
theorem validVs_app : ∀ (l : List V) (x : V), validVs l = true → validV x = true → validVs (l ++ [x]) = true
  | [], x, _, h => by rw [List.nil_append, validVs, h]; rfl
  | y :: l, x, hl, h => by
    rw [validVs, Bool.and_eq_true] at hl
    rw [List.cons_append, validVs, hl.1, validVs_app l x hl.2 h]; rfl
theorem rises_app : ∀ (l : List (BL × V)) (p : Option BL) (f : BL × V), risesL p l = true → validF f = true → (∀ q, p = some q → lcmp q f.1 = .lt) → (∀ g ∈ l, lcmp g.1 f.1 = .lt) → risesL p (l ++ [f]) = true
  | [], p, f, _, hf, hp, _ => by
    rw [List.nil_append, risesL_cons, hf]
    cases p with
    | none => simp [risesL]
    | some q => simp [risesL, hp q rfl]
  | g :: l, p, f, hl, hf, hp, hg => by
    rw [risesL_cons, Bool.and_eq_true] at hl
    rw [List.cons_append, risesL_cons, hl.1, rises_app l (some g.1) f hl.2 hf (fun q e => by cases e; exact hg g (List.mem_cons_self ..)) (fun h hh => hg h (List.mem_cons_of_mem _ hh))]
    rfl
theorem times_valid {rec : BL → V × BL} (hv : ∀ b, validV (rec b).1 = true) (b : BL) : ∀ k, validVs (timesL rec k b).1 = true
  | 0 => by rw [timesL, validVs]
  | k + 1 => by
    rw [timesL_succ]
    exact validVs_app _ _ (times_valid hv b k) (hv _)
theorem fields_names (rec : BL → V × BL) (n : Nat) (b : BL) : ∀ k, ∀ g ∈ (fieldsN rec n k b).1, ∃ j, j < k ∧ g.1 = nameL j
  | 0, g, h => by simp [fieldsN] at h
  | k + 1, g, h => by
    rw [fieldsN] at h
    split at h
    · rcases List.mem_append.mp h with h | h
      · obtain ⟨j, hj, e⟩ := fields_names rec n b k g h
        exact ⟨j, by omega, e⟩
      · rw [List.mem_singleton] at h
        exact ⟨k, by omega, by rw [h]⟩
    · obtain ⟨j, hj, e⟩ := fields_names rec n b k g h
      exact ⟨j, by omega, e⟩
theorem fields_valid {rec : BL → V × BL} (hv : ∀ b, validV (rec b).1 = true) (n : Nat) (b : BL) : ∀ k, k ≤ 4 → risesL none (fieldsN rec n k b).1 = true
  | 0, _ => by rw [fieldsN, risesL]
  | k + 1, h => by
    have ih := fields_valid hv n b k (by omega)
    rw [fieldsN]
    split
    · refine rises_app _ _ _ ih ?_ (fun q e => by cases e) ?_
      · rw [validF, name_valid, hv]; rfl
      · intro g hg
        obtain ⟨j, hj, e⟩ := fields_names rec n b k g hg
        rw [e]
        exact name_lt j k hj (by omega)
    · exact ih
theorem made_valid : ∀ (d : Nat) (b : BL), validV (madeL d b).1 = true
  | d, [] => by rw [madeL_nil, validV]
  | 0, c :: b => by
    have := leaf_valid c.toNat
    simpa [madeL] using this
  | d + 1, c :: b => by
    have ih : ∀ b, validV (madeL d b).1 = true := made_valid d
    unfold madeL
    split
    · rw [validV]; exact times_valid ih b _
    · split
      · rw [validV]; exact fields_valid ih _ b 4 (by omega)
      · exact leaf_valid _
theorem of_valid (l : BL) : validV (ofL l) = true := made_valid 3 _
theorem leaf_depth (c : Nat) : depthV (leafL c) = 1 := by
  unfold leafL
  split
  · simp [depthV]
  · split
    · simp [depthV]
    · split
      · simp [depthV]
      · simp [depthV]
theorem depthVs_of (d : Nat) : ∀ (l : List V), (∀ x ∈ l, depthV x ≤ d) → depthVs l ≤ d
  | [], _ => by rw [depthVs]; omega
  | x :: l, h => by
    have h1 := h x (List.mem_cons_self ..)
    have h2 := depthVs_of d l (fun y hy => h y (List.mem_cons_of_mem _ hy))
    rw [depthVs]; omega
theorem depthFs_of (d : Nat) : ∀ (l : List (BL × V)), (∀ x ∈ l, depthV x.2 ≤ d) → depthFs l ≤ d
  | [], _ => by rw [depthFs]; omega
  | (n, x) :: l, h => by
    have h1 := h (n, x) (List.mem_cons_self ..)
    have h2 := depthFs_of d l (fun y hy => h y (List.mem_cons_of_mem _ hy))
    rw [depthFs, depthF]
    simp only [] at h1
    omega
theorem times_all {rec : BL → V × BL} {P : V → Prop} (hv : ∀ b, P (rec b).1) (b : BL) : ∀ k, ∀ x ∈ (timesL rec k b).1, P x
  | 0, x, h => by simp [timesL] at h
  | k + 1, x, h => by
    rw [timesL_succ] at h
    rcases List.mem_append.mp h with h | h
    · exact times_all hv b k x h
    · rw [List.mem_singleton] at h
      rw [h]; exact hv _
theorem fields_all {rec : BL → V × BL} {P : V → Prop} (hv : ∀ b, P (rec b).1) (n : Nat) (b : BL) : ∀ k, ∀ x ∈ (fieldsN rec n k b).1, P x.2
  | 0, x, h => by simp [fieldsN] at h
  | k + 1, x, h => by
    rw [fieldsN] at h
    split at h
    · rcases List.mem_append.mp h with h | h
      · exact fields_all hv n b k x h
      · rw [List.mem_singleton] at h
        rw [h]; exact hv _
    · exact fields_all hv n b k x h
theorem made_depth : ∀ (d : Nat) (b : BL), depthV (madeL d b).1 ≤ d + 1
  | d, [] => by
    rw [madeL_nil]
    show depthV .null ≤ _
    simp [depthV]
  | 0, c :: b => by
    have := leaf_depth c.toNat
    simp [madeL, this]
  | d + 1, c :: b => by
    have ih : ∀ b, depthV (madeL d b).1 ≤ d + 1 := made_depth d
    unfold madeL
    split
    · have := depthVs_of (d + 1) _ (times_all (P := fun x => depthV x ≤ d + 1) ih b (c.toNat / 6 % 4))
      rw [depthV]; omega
    · split
      · have := depthFs_of (d + 1) _ (fields_all (P := fun x => depthV x ≤ d + 1) ih (c.toNat / 6) b 4)
        rw [depthV]; omega
      · have := leaf_depth c.toNat
        simp only []
        omega
theorem of_depth (l : BL) : depthV (ofL l) ≤ 4 := made_depth 3 _
theorem sgn_eq0 (o : Ordering) : (sgnO o == 0) = (o == .eq) := by cases o <;> rfl
end Go.Proofs.YtccnfnoonpfdfaaGreatDoor
namespace Go.Proofs.YtccnfnoonpfdfaaGreatDoor
open Go.Shelf Go.RowKit Go.Lib
set_option maxRecDepth 100000 in
theorem nan_kind (n : Int) (w : World) : Calls Tryz.prog 104 #[.int .i64 n] w fun e w' => e = .returned (.bool false) ∧ w' = w := by
  go_enter Tryz.func104, Tryz.ntmps104
  go_wp2
  go_ret
  exact ⟨by simp, rfl⟩
set_option maxHeartbeats 4000000 in
set_option maxRecDepth 100000 in
theorem ccmp_num (a b : Int) (w : World) : Calls Tryz.prog 72 #[.int .i64 a, .int .i64 b] w fun e w' => e = .returned (.int .i64 (sgnO (icmp a b))) ∧ w' = w := by
  unfold icmp
  by_cases h1 : a < b
  · rw [if_pos h1]
    go_enter Tryz.func72, Tryz.ntmps72
    go_wp2_with fail
    refine (nan_no _ _).mono ?_
    rintro e w2 ⟨rfl, rfl⟩
    go_wp2_with fail
    refine (nan_no _ _).mono ?_
    rintro e w3 ⟨rfl, rfl⟩
    go_wp2
    go_ret
    exact ⟨rfl, rfl⟩
  · rw [if_neg h1]
    by_cases h2 : b < a
    · rw [if_pos h2]
      go_enter Tryz.func72, Tryz.ntmps72
      go_wp2_with fail
      refine (nan_no _ _).mono ?_
      rintro e w2 ⟨rfl, rfl⟩
      go_wp2_with fail
      refine (nan_no _ _).mono ?_
      rintro e w3 ⟨rfl, rfl⟩
      go_wp2
      go_ret
      exact ⟨rfl, rfl⟩
    · rw [if_neg h2]
      go_enter Tryz.func72, Tryz.ntmps72
      go_wp2_with fail
      refine (nan_no _ _).mono ?_
      rintro e w2 ⟨rfl, rfl⟩
      go_wp2_with fail
      refine (nan_no _ _).mono ?_
      rintro e w3 ⟨rfl, rfl⟩
      go_wp2
      go_ret
      exact ⟨rfl, rfl⟩
set_option maxHeartbeats 4000000 in
set_option maxRecDepth 100000 in
theorem ccmp_kind (a b : Int) (w : World) : Calls Tryz.prog 71 #[.int .i64 a, .int .i64 b] w fun e w' => e = .returned (.int .i64 (sgnO (icmp a b))) ∧ w' = w := by
  unfold icmp
  by_cases h1 : a < b
  · rw [if_pos h1]
    go_enter Tryz.func71, Tryz.ntmps71
    go_wp2_with fail
    refine (nan_kind _ _).mono ?_
    rintro e w2 ⟨rfl, rfl⟩
    go_wp2_with fail
    refine (nan_kind _ _).mono ?_
    rintro e w3 ⟨rfl, rfl⟩
    go_wp2
    go_ret
    exact ⟨rfl, rfl⟩
  · rw [if_neg h1]
    by_cases h2 : b < a
    · rw [if_pos h2]
      go_enter Tryz.func71, Tryz.ntmps71
      go_wp2_with fail
      refine (nan_kind _ _).mono ?_
      rintro e w2 ⟨rfl, rfl⟩
      go_wp2_with fail
      refine (nan_kind _ _).mono ?_
      rintro e w3 ⟨rfl, rfl⟩
      go_wp2
      go_ret
      exact ⟨rfl, rfl⟩
    · rw [if_neg h2]
      go_enter Tryz.func71, Tryz.ntmps71
      go_wp2_with fail
      refine (nan_kind _ _).mono ?_
      rintro e w2 ⟨rfl, rfl⟩
      go_wp2_with fail
      refine (nan_kind _ _).mono ?_
      rintro e w3 ⟨rfl, rfl⟩
      go_wp2
      go_ret
      exact ⟨rfl, rfl⟩
theorem cb_lcmp : ∀ a b : BL, Lib.compareBytes a b = sgnO (lcmp a b)
  | [], [] => rfl
  | [], _ :: _ => rfl
  | _ :: _, [] => rfl
  | a :: l, b :: m => by
    rw [Lib.compareBytes, lcmp_cons, cb_lcmp l m]
    split
    · rfl
    · split <;> rfl
theorem scmp_any (a b : BL) (w : World) : Calls Tryz.prog 73 #[.string (BA a), .string (BA b)] w fun e w' => e = .returned (.int .i64 (sgnO (lcmp a b))) ∧ w' = w := by
  rw [← cb_lcmp]
  exact Tryz.strings_Compare (BA a) (BA b) w
end Go.Proofs.YtccnfnoonpfdfaaGreatDoor
namespace Go.Proofs.YtccnfnoonpfdfaaGreatDoor
open Go.Shelf Go.RowKit Go.Lib
set_option maxHeartbeats 8000000 in
set_option maxRecDepth 100000 in
theorem cf_list (l m : List V) (cs ds : List Value) (p q : Option Addr) (cap cad : Nat) (S T : Nat → Prop) (w : World) (hV : VsAt S w l cs) (hr : 0 < l.length → ∃ b, p = some ⟨b, 0, none⟩ ∧ ∀ k u, cs[k]? = some u → w.cell? ⟨b, k, none⟩ = some u)
    (hU : VsAt T w m ds) (hs : 0 < m.length → ∃ b, q = some ⟨b, 0, none⟩ ∧ ∀ k u, ds[k]? = some u → w.cell? ⟨b, k, none⟩ = some u)
    (hln : l.length ≤ 9223372036854775807) (hmn : m.length ≤ 9223372036854775807) (ih : ∀ x ∈ l, CmpH 39 x) :
    Calls Tryz.prog 74 #[.slice p l.length cap, .slice q m.length cad, .func (.func 39) #[] #[]] w fun e w' => e = .returned (.int .i64 (sgnO (cmpsO l m))) ∧ Below w.heap.size w w' := by
  have HV := Lib.hid (And.intro hV (And.intro hr (And.intro hU (And.intro hs ih))))
  clear hV hr hU hs ih
  obtain ⟨N1, hN1⟩ : ∃ N, l.length = N := ⟨_, rfl⟩
  obtain ⟨N2, hN2⟩ : ∃ N, m.length = N := ⟨_, rfl⟩
  rw [hN1] at hln
  rw [hN2] at hmn
  rw [hN1, hN2]
  have H0 := Lib.hid (And.intro hN1 hN2)
  clear hN1 hN2
  go_enter Tryz.func74, Tryz.ntmps74
  go_wp2_with fail
  go_loopg [13] N1 (fun gk iv wr => ∃ (i : Nat), gk + i = N1 ∧ i ≤ N2 ∧ iv = .int .i64 i ∧ Hid (cmpsO l m = cmpsO (l.drop i) (m.drop i)) ∧ Hid (Below w.heap.size w wr))
  case atStart => exact ⟨0, Nat.add_zero _, Nat.zero_le _, rfl, Lib.hid rfl, Lib.hid (Below.refl _ _)⟩
  case round =>
    obtain ⟨i, hg, hi2, rfl, HC, HB⟩ := hrel
    by_cases hi1 : i < N1
    · have hiz : (i : Int) < (N1 : Int) := by omega
      have hwK : IntKind.i64.wrap ((i : Int) + 1) = ((i + 1 : Nat) : Int) := by rw [IntWalk.i64_in _ (by omega)]; omega
      have hx1 : i < l.length := by rw [H0.out.1]; exact hi1
      obtain ⟨b, hpe, hrb⟩ := HV.out.2.1 (by omega)
      subst hpe
      obtain ⟨d0, d1, d2, d3, d4, hx, e0, e1, e2, e3, e4⟩ := HV.out.1.get i hx1
      obtain ⟨q0, q1, q2, q3, q4, q5, q6, q7, q8, hq⟩ := hx.shape
      simp only [List.cons.injEq, and_true] at hq
      obtain ⟨rfl, rfl, rfl, rfl, rfl⟩ := hq
      have a0 := bcell HB.out (hrb _ _ e0)
      have a1 := bcell HB.out (hrb _ _ e1)
      have a2 := bcell HB.out (hrb _ _ e2)
      have a3 := bcell HB.out (hrb _ _ e3)
      have a4 := bcell HB.out (hrb _ _ e4)
      by_cases hi3 : i < N2
      · have hiy : ¬ (N2 : Int) ≤ (i : Int) := by omega
        have hiw : (i : Int) < (N2 : Int) := by omega
        have hx2 : i < m.length := by rw [H0.out.2]; exact hi3
        obtain ⟨c, hqe, hsb⟩ := HV.out.2.2.2.1 (by omega)
        subst hqe
        obtain ⟨d0, d1, d2, d3, d4, hy, f0, f1, f2, f3, f4⟩ := HV.out.2.2.1.get i hx2
        obtain ⟨r0, r1, r2, r3, r4, r5, r6, r7, r8, hq⟩ := hy.shape
        simp only [List.cons.injEq, and_true] at hq
        obtain ⟨rfl, rfl, rfl, rfl, rfl⟩ := hq
        obtain ⟨W3, hW3⟩ : ∃ W, wr.alloc (.cells #[.int .i64 q0, .int .i64 q1, .string q2, .slice q3 q4 q5, .slice q6 q7 q8] 28) = W := ⟨_, rfl⟩
        have hb13 : Below wr.heap.size wr W3 := by rw [← hW3]; exact (Below.refl _ wr).alloc (Nat.le_refl _) _
        obtain ⟨W4, hW4⟩ : ∃ W, W3.alloc (.cells #[.int .i64 r0, .int .i64 r1, .string r2, .slice r3 r4 r5, .slice r6 r7 r8] 28) = W := ⟨_, rfl⟩
        have hb14 : Below wr.heap.size wr W4 := by rw [← hW4]; exact hb13.alloc hb13.size _
        have g0 := bcell (HB.out.trans (hb13.mono HB.out.size)) (hsb _ _ f0)
        have g1 := bcell (HB.out.trans (hb13.mono HB.out.size)) (hsb _ _ f1)
        have g2 := bcell (HB.out.trans (hb13.mono HB.out.size)) (hsb _ _ f2)
        have g3 := bcell (HB.out.trans (hb13.mono HB.out.size)) (hsb _ _ f3)
        have g4 := bcell (HB.out.trans (hb13.mono HB.out.size)) (hsb _ _ f4)
        rw [← hW3] at g0 g1 g2 g3 g4
        have hbw4 : Below w.heap.size w W4 := HB.out.trans (hb14.mono HB.out.size)
        obtain ⟨r, hre⟩ : ∃ r, cmpO l[i] m[i] = r := ⟨_, rfl⟩
        have hnext := cmps_drop l m i hx1 hx2
        rw [hre] at hnext
        have hih := HV.out.2.2.2.2 l[i] (List.getElem_mem hx1) m[i] S T W4 _ _ (hx.later hbw4) (hy.later hbw4)
        rw [hre] at hih
        have HX := Lib.hid (And.intro hih (And.intro hbw4 (And.intro hW3 hW4)))
        have HN := Lib.hid (HC.out.trans hnext)
        clear hx hy e0 e1 e2 e3 e4 f0 f1 f2 f3 f4 hre hnext hih hb13 hb14 hbw4 hrb hsb hW3 hW4
        go_wp2_with fail
        rw [HX.out.2.2.1, HX.out.2.2.2]
        refine (show Calls _ _ _ _ _ from HX.out.1).mono ?_
        rintro e w4 ⟨rfl, hb4⟩
        have HB4 := Lib.hid (HX.out.2.1.trans (hb4.mono HX.out.2.1.size))
        clear hb4 a0 a1 a2 a3 a4 g0 g1 g2 g3 g4
        obtain ⟨z, hz⟩ : ∃ z, sgnO r = z := ⟨_, rfl⟩
        rw [hz]
        by_cases hz0 : z = 0
        · have hre : r = .eq := sgn_zero (hz.trans hz0)
          have HE := Lib.hid (show cmpsO l m = cmpsO (l.drop (i + 1)) (m.drop (i + 1)) by rw [HN.out, hre]; rfl)
          subst hz0
          clear hz hre
          go_wp2
          go_roundg (gk - 1)
          case rel => exact ⟨i + 1, by omega, by omega, rfl, HE, HB4⟩
          case measure => omega
        · have HE := Lib.hid (show sgnO (cmpsO l m) = z by
            rw [HN.out, ← hz]
            cases r with
            | eq => exact absurd hz.symm hz0
            | lt => rfl
            | gt => rfl)
          clear hz
          go_wp2
          go_ret
          exact ⟨by rw [HE.out]; try rfl, HB4.out⟩
      · have hiy : (N2 : Int) ≤ (i : Int) := by omega
        have HE := Lib.hid (show sgnO (cmpsO l m) = 1 by
          rw [HC.out, cmps_end l m i (by rw [H0.out.1]; omega) (by rw [H0.out.2]; omega) (by rw [H0.out.1, H0.out.2]; omega), H0.out.1, H0.out.2]
          unfold icmp
          rw [if_neg (by omega), if_pos (by omega)]; rfl)
        have HB4 := Lib.hid (HB.out.alloc (o := .cells #[.int .i64 q0, .int .i64 q1, .string q2, .slice q3 q4 q5, .slice q6 q7 q8] 28) HB.out.size)
        clear hx e0 e1 e2 e3 e4 hrb
        go_wp2
        go_ret
        exact ⟨by rw [HE.out]; try rfl, HB4.out⟩
    · have hiz : ¬ (i : Int) < (N1 : Int) := by omega
      have hE := cmps_end l m i (by rw [H0.out.1]; omega) (by rw [H0.out.2]; omega) (by rw [H0.out.1, H0.out.2]; omega)
      rw [← HC.out, H0.out.1, H0.out.2] at hE
      by_cases hi3 : N1 < N2
      · have hiy : (N1 : Int) < (N2 : Int) := by omega
        have HE := Lib.hid (show sgnO (cmpsO l m) = -1 by
          rw [hE]
          unfold icmp
          rw [if_pos (by omega)]; rfl)
        clear hE
        go_wp2
        go_ret
        exact ⟨by rw [HE.out]; try rfl, HB.out⟩
      · have hiy : ¬ (N1 : Int) < (N2 : Int) := by omega
        have HE := Lib.hid (show sgnO (cmpsO l m) = 0 by
          rw [hE]
          unfold icmp
          rw [if_neg (by omega), if_neg (by omega)]; rfl)
        clear hE
        go_wp2
        go_ret
        exact ⟨by rw [HE.out]; try rfl, HB.out⟩
end Go.Proofs.YtccnfnoonpfdfaaGreatDoor
namespace Go.Proofs.YtccnfnoonpfdfaaGreatDoor
open Go.Shelf Go.RowKit Go.Lib
set_option maxHeartbeats 4000000 in
set_option maxRecDepth 100000 in
theorem or_two (a b : Int) (B : Nat) (w : World) (h0 : w.cell? ⟨B, 0, none⟩ = some (.int .i64 a)) (h1 : w.cell? ⟨B, 1, none⟩ = some (.int .i64 b)) :
    Calls Tryz.prog 107 #[.slice (some ⟨B, 0, none⟩) 2 2] w fun e w' => e = .returned (.int .i64 (if a = 0 then b else a)) ∧ w' = w := by
  by_cases ha : a = 0
  · subst ha
    rw [if_pos rfl]
    by_cases hb : b = 0
    · subst hb
      go_enter Tryz.func107, Tryz.ntmps107
      go_wp2_with fail
      refine wp_loop_rounds 3 ?_
      rw [rounds_succ]
      go_wp2_with fail
      rw [rounds_succ]
      go_wp2_with fail
      rw [rounds_succ]
      go_wp2
      go_ret
      exact ⟨rfl, rfl⟩
    · go_enter Tryz.func107, Tryz.ntmps107
      go_wp2_with fail
      refine wp_loop_rounds 3 ?_
      rw [rounds_succ]
      go_wp2_with fail
      rw [rounds_succ]
      go_wp2
      go_ret
      exact ⟨rfl, rfl⟩
  · rw [if_neg ha]
    go_enter Tryz.func107, Tryz.ntmps107
    go_wp2_with fail
    refine wp_loop_rounds 3 ?_
    rw [rounds_succ]
    go_wp2
    go_ret
    exact ⟨rfl, rfl⟩
theorem sgn_then (a b : Ordering) : sgnO (a.then b) = if sgnO a = 0 then sgnO b else sgnO a := by cases a <;> rfl
set_option maxHeartbeats 8000000 in
set_option maxRecDepth 100000 in
theorem byf_any (NX NY : ByteArray) (nx ny : BL) (hNX : BA nx = NX) (hNY : BA ny = NY) (q0 q1 : Int) (q2 : ByteArray) (q3 : Option Addr) (q4 q5 : Nat) (q6 : Option Addr) (q7 q8 : Nat) (r0 r1 : Int) (r2 : ByteArray) (r3 : Option Addr) (r4 r5 : Nat) (r6 : Option Addr) (r7 r8 : Nat) (z : Ordering) (w : World)
    (ih : ∀ W, Below w.heap.size w W → Calls Tryz.prog 39 #[.agg #[.int .i64 q0, .int .i64 q1, .string q2, .slice q3 q4 q5, .slice q6 q7 q8], .agg #[.int .i64 r0, .int .i64 r1, .string r2, .slice r3 r4 r5, .slice r6 r7 r8]] W fun e w' => e = .returned (.int .i64 (sgnO z)) ∧ Below W.heap.size W w') :
    Calls Tryz.prog 76 #[.agg #[.string NX, .int .i64 q0, .int .i64 q1, .string q2, .slice q3 q4 q5, .slice q6 q7 q8], .agg #[.string NY, .int .i64 r0, .int .i64 r1, .string r2, .slice r3 r4 r5, .slice r6 r7 r8]] w fun e w' => e = .returned (.int .i64 (sgnO ((lcmp nx ny).then z))) ∧ Below w.heap.size w w' := by
  obtain ⟨P, hP⟩ : ∃ P, w.heap.size = P := ⟨_, rfl⟩
  obtain ⟨W0, hW0⟩ : ∃ W0, (w.alloc (.cells #[.string NX, .int .i64 q0, .int .i64 q1, .string q2, .slice q3 q4 q5, .slice q6 q7 q8] 51)).alloc (.cells #[.string NY, .int .i64 r0, .int .i64 r1, .string r2, .slice r3 r4 r5, .slice r6 r7 r8] 51) = W0 := ⟨_, rfl⟩
  have hb0 : Below w.heap.size w W0 := by rw [← hW0]; exact ((Below.refl _ w).alloc (Nat.le_refl _) _).alloc (by simp) _
  have hk1 : Blk W0 P 51 [.string NX, .int .i64 q0, .int .i64 q1, .string q2, .slice q3 q4 q5, .slice q6 q7 q8] := by
    rw [← hW0, ← hP]; exact Blk.alloc (g := w.heap.size) (heap_alloc_new w _) _
  have hk2 : Blk W0 (P + 1) 51 [.string NY, .int .i64 r0, .int .i64 r1, .string r2, .slice r3 r4 r5, .slice r6 r7 r8] := by
    rw [← hW0, ← hP]; exact blk_new2 w _ _ _
  have H0 := Lib.hid (And.intro hW0 (And.intro hP (And.intro hb0 (And.intro ih (And.intro hNX hNY)))))
  have HS := Lib.hid (And.intro (show Blk W0.drew P 51 [.string NX, .int .i64 q0, .int .i64 q1, .string q2, .slice q3 q4 q5, .slice q6 q7 q8] from hk1) (show Blk W0.drew (P + 1) 51 [.string NY, .int .i64 r0, .int .i64 r1, .string r2, .slice r3 r4 r5, .slice r6 r7 r8] from hk2))
  obtain ⟨r, hr⟩ : ∃ r, lcmp nx ny = r := ⟨_, rfl⟩
  have HL := Lib.hid (show ∀ W, Calls Tryz.prog 73 #[.string NX, .string NY] W fun e w' => e = .returned (.int .i64 (sgnO r)) ∧ W = w' by
    intro W
    rw [← hr, ← hNX, ← hNY]
    exact (scmp_any nx ny W).mono fun e w' h => ⟨h.1, h.2.symm⟩)
  rw [hr]
  clear hW0 hP hb0 hk1 hk2 ih hNX hNY hr
  go_enter Tryz.func76, Tryz.ntmps76
  go_wp2_with fail
  rw [H0.out.1, H0.out.2.1]
  refine AnyJ.begin (J := fun j => Nat.ble j 12) (S := fun W => Blk W P 51 [.string NX, .int .i64 q0, .int .i64 q1, .string q2, .slice q3 q4 q5, .slice q6 q7 q8] ∧ Blk W (P + 1) 51 [.string NY, .int .i64 r0, .int .i64 r1, .string r2, .slice r3 r4 r5, .slice r6 r7 r8]) (by kernel_rfl) rfl rfl ?_
  refine AnyJ.takeL (i := 0) (v := .pointer (some ⟨P, 0, none⟩)) rfl rfl (by kernel_rfl) (by kernel_rfl) (by kernel_rfl) (by kernel_rfl) (fun _ _ _ h => h) (by rfl) ?_ HS.out ?_
  · intro W hW
    obtain ⟨s1, s2⟩ := hW
    go_simp
    try (with_reducible rfl)
  simp only [Act.put, List.setIfInBounds_toArray, List.set_cons_zero, List.set_cons_succ]
  refine AnyJ.takeL (i := 1) (v := .string NX) rfl rfl (by kernel_rfl) (by kernel_rfl) (by kernel_rfl) (by kernel_rfl) (fun _ _ _ h => h) (by rfl) ?_ HS.out ?_
  · intro W hW
    obtain ⟨s1, s2⟩ := hW
    have u0 := s1.cell 0
    go_simp
    try (with_reducible rfl)
  simp only [Act.put, List.setIfInBounds_toArray, List.set_cons_zero, List.set_cons_succ]
  refine AnyJ.takeL (i := 2) (v := .pointer (some ⟨P + 1, 0, none⟩)) rfl rfl (by kernel_rfl) (by kernel_rfl) (by kernel_rfl) (by kernel_rfl) (fun _ _ _ h => h) (by rfl) ?_ HS.out ?_
  · intro W hW
    obtain ⟨s1, s2⟩ := hW
    go_simp
    try (with_reducible rfl)
  simp only [Act.put, List.setIfInBounds_toArray, List.set_cons_zero, List.set_cons_succ]
  refine AnyJ.takeL (i := 3) (v := .string NY) rfl rfl (by kernel_rfl) (by kernel_rfl) (by kernel_rfl) (by kernel_rfl) (fun _ _ _ h => h) (by rfl) ?_ HS.out ?_
  · intro W hW
    obtain ⟨s1, s2⟩ := hW
    have u0 := s2.cell 0
    go_simp
    try (with_reducible rfl)
  simp only [Act.put, List.setIfInBounds_toArray, List.set_cons_zero, List.set_cons_succ]
  refine AnyJ.takeL (i := 5) (v := .pointer (some ⟨P, 1, none⟩)) rfl rfl (by kernel_rfl) (by kernel_rfl) (by kernel_rfl) (by kernel_rfl) (fun _ _ _ h => h) (by rfl) ?_ HS.out ?_
  · intro W hW
    obtain ⟨s1, s2⟩ := hW
    go_simp
    try (with_reducible rfl)
  simp only [Act.put, List.setIfInBounds_toArray, List.set_cons_zero, List.set_cons_succ]
  refine AnyJ.takeL (i := 6) (v := .agg #[.int .i64 q0, .int .i64 q1, .string q2, .slice q3 q4 q5, .slice q6 q7 q8]) rfl rfl (by kernel_rfl) (by kernel_rfl) (by kernel_rfl) (by kernel_rfl) (fun _ _ _ h => h) (by rfl) ?_ HS.out ?_
  · intro W hW
    obtain ⟨s1, s2⟩ := hW
    have u0 := s1.cell 0
    have u1 := s1.cell 1
    have u2 := s1.cell 2
    have u3 := s1.cell 3
    have u4 := s1.cell 4
    have u5 := s1.cell 5
    go_simp
    try (with_reducible rfl)
  simp only [Act.put, List.setIfInBounds_toArray, List.set_cons_zero, List.set_cons_succ]
  refine AnyJ.takeL (i := 7) (v := .pointer (some ⟨P + 1, 1, none⟩)) rfl rfl (by kernel_rfl) (by kernel_rfl) (by kernel_rfl) (by kernel_rfl) (fun _ _ _ h => h) (by rfl) ?_ HS.out ?_
  · intro W hW
    obtain ⟨s1, s2⟩ := hW
    go_simp
    try (with_reducible rfl)
  simp only [Act.put, List.setIfInBounds_toArray, List.set_cons_zero, List.set_cons_succ]
  refine AnyJ.takeL (i := 8) (v := .agg #[.int .i64 r0, .int .i64 r1, .string r2, .slice r3 r4 r5, .slice r6 r7 r8]) rfl rfl (by kernel_rfl) (by kernel_rfl) (by kernel_rfl) (by kernel_rfl) (fun _ _ _ h => h) (by rfl) ?_ HS.out ?_
  · intro W hW
    obtain ⟨s1, s2⟩ := hW
    have u0 := s2.cell 0
    have u1 := s2.cell 1
    have u2 := s2.cell 2
    have u3 := s2.cell 3
    have u4 := s2.cell 4
    have u5 := s2.cell 5
    go_simp
    try (with_reducible rfl)
  simp only [Act.put, List.setIfInBounds_toArray, List.set_cons_zero, List.set_cons_succ]
  refine AnyJ.oneL (i := 4) (by kernel_rfl) rfl (fun K hK => ?_)
  go_simp
  go_at_call 73
  refine (HL.out _).mono ?_
  rintro e w4 ⟨rfl, rfl⟩
  refine hK.out _ _ (fun _ => HS.out) ?_
  clear hK K
  (try simp only [Act.put, List.setIfInBounds_toArray, List.set_cons_zero, List.set_cons_succ])
  refine AnyJ.oneL (i := 9) (by kernel_rfl) rfl (fun K hK => ?_)
  go_simp
  go_at_call 39
  refine (H0.out.2.2.2.1 _ H0.out.2.2.1.drew).mono ?_
  rintro e w5 ⟨rfl, hb5⟩
  have HB5 := Lib.hid hb5
  have H5 := Lib.hid (H0.out.2.2.1.drew.trans (hb5.mono H0.out.2.2.1.size))
  refine hK.out _ _ (fun _ => ⟨HS.out.1.below hb5, HS.out.2.below hb5⟩) ?_
  clear hK K hb5
  (try simp only [Act.put, List.setIfInBounds_toArray, List.set_cons_zero, List.set_cons_succ])
  obtain ⟨a, ha⟩ : ∃ a, sgnO r = a := ⟨_, rfl⟩
  obtain ⟨b, hb⟩ : ∃ b, sgnO z = b := ⟨_, rfl⟩
  have HA := Lib.hid (And.intro ha hb)
  rw [ha, hb]
  clear ha hb
  refine AnyJ.oneL (i := 10) (by kernel_rfl) rfl (fun K hK => ?_)
  go_simp
  refine hK.out _ _ (fun _ => ⟨(HS.out.1.below HB5.out).alloc _, (HS.out.2.below HB5.out).alloc _⟩) ?_
  clear hK K
  (try simp only [Act.put, List.setIfInBounds_toArray, List.set_cons_zero, List.set_cons_succ])
  refine AnyJ.oneL (i := 11) (by kernel_rfl) rfl (fun K hK => ?_)
  go_simp
  go_at_call 107
  refine (or_two a b _ _ (by simp) (by simp)).mono ?_
  rintro e w6 ⟨rfl, rfl⟩
  obtain ⟨y, hy⟩ : ∃ y, (if a = 0 then b else a) = y := ⟨_, rfl⟩
  have HY := Lib.hid hy
  rw [hy]
  clear hy
  refine hK.out _ _ (fun _ => ⟨(HS.out.1.below HB5.out).alloc _, (HS.out.2.below HB5.out).alloc _⟩) ?_
  clear hK K
  (try simp only [Act.put, List.setIfInBounds_toArray, List.set_cons_zero, List.set_cons_succ])
  refine AnyJ.oneL (i := 12) (by kernel_rfl) rfl (fun K hK => ?_)
  go_simp
  refine hK.out _ _ (fun _ => ⟨(HS.out.1.below HB5.out).alloc _, (HS.out.2.below HB5.out).alloc _⟩) ?_
  clear hK K
  (try simp only [Act.put, List.setIfInBounds_toArray, List.set_cons_zero, List.set_cons_succ])
  refine AnyJ.done (by kernel_rfl) ?_
  go_wp2
  go_ret
  exact ⟨by rw [sgn_then, HA.out.1, HA.out.2, HY.out]; try rfl, H5.out.alloc H5.out.size _⟩
end Go.Proofs.YtccnfnoonpfdfaaGreatDoor
namespace Go.Proofs.YtccnfnoonpfdfaaGreatDoor
open Go.Shelf Go.RowKit Go.Lib
set_option maxHeartbeats 8000000 in
set_option maxRecDepth 100000 in
theorem cf_obj (l m : List (BL × V)) (cs ds : List Value) (p q : Option Addr) (cap cad : Nat) (S T : Nat → Prop) (w : World) (hV : FsAt S w l cs) (hr : 0 < l.length → ∃ b, p = some ⟨b, 0, none⟩ ∧ ∀ k u, cs[k]? = some u → w.cell? ⟨b, k, none⟩ = some u)
    (hU : FsAt T w m ds) (hs : 0 < m.length → ∃ b, q = some ⟨b, 0, none⟩ ∧ ∀ k u, ds[k]? = some u → w.cell? ⟨b, k, none⟩ = some u)
    (hln : l.length ≤ 9223372036854775807) (hmn : m.length ≤ 9223372036854775807) (ih : ∀ x ∈ l, CmpH 39 x.2) :
    Calls Tryz.prog 75 #[.slice p l.length cap, .slice q m.length cad, .func (.func 76) #[] #[]] w fun e w' => e = .returned (.int .i64 (sgnO (cmpfsO l m))) ∧ Below w.heap.size w w' := by
  have HV := Lib.hid (And.intro hV (And.intro hr (And.intro hU (And.intro hs ih))))
  clear hV hr hU hs ih
  obtain ⟨N1, hN1⟩ : ∃ N, l.length = N := ⟨_, rfl⟩
  obtain ⟨N2, hN2⟩ : ∃ N, m.length = N := ⟨_, rfl⟩
  rw [hN1] at hln
  rw [hN2] at hmn
  rw [hN1, hN2]
  have H0 := Lib.hid (And.intro hN1 hN2)
  clear hN1 hN2
  go_enter Tryz.func75, Tryz.ntmps75
  go_wp2_with fail
  go_loopg [13] N1 (fun gk iv wr => ∃ (i : Nat), gk + i = N1 ∧ i ≤ N2 ∧ iv = .int .i64 i ∧ Hid (cmpfsO l m = cmpfsO (l.drop i) (m.drop i)) ∧ Hid (Below w.heap.size w wr))
  case atStart => exact ⟨0, Nat.add_zero _, Nat.zero_le _, rfl, Lib.hid rfl, Lib.hid (Below.refl _ _)⟩
  case round =>
    obtain ⟨i, hg, hi2, rfl, HC, HB⟩ := hrel
    by_cases hi1 : i < N1
    · have hiz : (i : Int) < (N1 : Int) := by omega
      have hwK : IntKind.i64.wrap ((i : Int) + 1) = ((i + 1 : Nat) : Int) := by rw [IntWalk.i64_in _ (by omega)]; omega
      have hx1 : i < l.length := by rw [H0.out.1]; exact hi1
      obtain ⟨b, hpe, hrb⟩ := HV.out.2.1 (by omega)
      subst hpe
      obtain ⟨d0, d1, d2, d3, d4, hx, e5, e0, e1, e2, e3, e4⟩ := HV.out.1.get i hx1
      obtain ⟨q0, q1, q2, q3, q4, q5, q6, q7, q8, hq⟩ := hx.shape
      simp only [List.cons.injEq, and_true] at hq
      obtain ⟨rfl, rfl, rfl, rfl, rfl⟩ := hq
      obtain ⟨nx, hnx⟩ : ∃ n, l[i].1 = n := ⟨_, rfl⟩
      obtain ⟨NX, hNX⟩ : ∃ n, BA nx = n := ⟨_, rfl⟩
      rw [hnx, hNX] at e5
      have a5 := bcell HB.out (hrb _ _ e5)
      have a0 := bcell HB.out (hrb _ _ e0)
      have a1 := bcell HB.out (hrb _ _ e1)
      have a2 := bcell HB.out (hrb _ _ e2)
      have a3 := bcell HB.out (hrb _ _ e3)
      have a4 := bcell HB.out (hrb _ _ e4)
      by_cases hi3 : i < N2
      · have hiy : ¬ (N2 : Int) ≤ (i : Int) := by omega
        have hiw : (i : Int) < (N2 : Int) := by omega
        have hx2 : i < m.length := by rw [H0.out.2]; exact hi3
        obtain ⟨c, hqe, hsb⟩ := HV.out.2.2.2.1 (by omega)
        subst hqe
        obtain ⟨d0, d1, d2, d3, d4, hy, f5, f0, f1, f2, f3, f4⟩ := HV.out.2.2.1.get i hx2
        obtain ⟨r0, r1, r2, r3, r4, r5, r6, r7, r8, hq⟩ := hy.shape
        simp only [List.cons.injEq, and_true] at hq
        obtain ⟨rfl, rfl, rfl, rfl, rfl⟩ := hq
        obtain ⟨ny, hny⟩ : ∃ n, m[i].1 = n := ⟨_, rfl⟩
        obtain ⟨NY, hNY⟩ : ∃ n, BA ny = n := ⟨_, rfl⟩
        rw [hny, hNY] at f5
        obtain ⟨W3, hW3⟩ : ∃ W, wr.alloc (.cells #[.string NX, .int .i64 q0, .int .i64 q1, .string q2, .slice q3 q4 q5, .slice q6 q7 q8] 51) = W := ⟨_, rfl⟩
        have hb13 : Below wr.heap.size wr W3 := by rw [← hW3]; exact (Below.refl _ wr).alloc (Nat.le_refl _) _
        obtain ⟨W4, hW4⟩ : ∃ W, W3.alloc (.cells #[.string NY, .int .i64 r0, .int .i64 r1, .string r2, .slice r3 r4 r5, .slice r6 r7 r8] 51) = W := ⟨_, rfl⟩
        have hb14 : Below wr.heap.size wr W4 := by rw [← hW4]; exact hb13.alloc hb13.size _
        have g5 := bcell (HB.out.trans (hb13.mono HB.out.size)) (hsb _ _ f5)
        have g0 := bcell (HB.out.trans (hb13.mono HB.out.size)) (hsb _ _ f0)
        have g1 := bcell (HB.out.trans (hb13.mono HB.out.size)) (hsb _ _ f1)
        have g2 := bcell (HB.out.trans (hb13.mono HB.out.size)) (hsb _ _ f2)
        have g3 := bcell (HB.out.trans (hb13.mono HB.out.size)) (hsb _ _ f3)
        have g4 := bcell (HB.out.trans (hb13.mono HB.out.size)) (hsb _ _ f4)
        rw [← hW3] at g5 g0 g1 g2 g3 g4
        have hbw4 : Below w.heap.size w W4 := HB.out.trans (hb14.mono HB.out.size)
        have hnext := cmpfs_drop l m i hx1 hx2
        obtain ⟨u, hue⟩ : ∃ u, cmpO l[i].2 m[i].2 = u := ⟨_, rfl⟩
        rw [cmpfO_eq, hue, hnx, hny] at hnext
        have hih0 := fun (W : World) (hb : Below W4.heap.size W4 W) => HV.out.2.2.2.2 l[i] (List.getElem_mem hx1) m[i].2 S T W _ _ (hx.later (hbw4.trans (hb.mono hbw4.size))) (hy.later (hbw4.trans (hb.mono hbw4.size)))
        rw [hue] at hih0
        have hih := byf_any NX NY nx ny hNX hNY _ _ _ _ _ _ _ _ _ _ _ _ _ _ _ _ _ _ u W4 hih0
        obtain ⟨r, hre⟩ : ∃ r, (lcmp nx ny).then u = r := ⟨_, rfl⟩
        rw [hre] at hnext hih
        clear hih0 hue hnx hny hNX hNY
        have HX := Lib.hid (And.intro hih (And.intro hbw4 (And.intro hW3 hW4)))
        have HN := Lib.hid (HC.out.trans hnext)
        clear hx hy e5 e0 e1 e2 e3 e4 f5 f0 f1 f2 f3 f4 hre hnext hih hb13 hb14 hbw4 hrb hsb hW3 hW4
        go_wp2_with fail
        rw [HX.out.2.2.1, HX.out.2.2.2]
        refine (show Calls _ _ _ _ _ from HX.out.1).mono ?_
        rintro e w4 ⟨rfl, hb4⟩
        have HB4 := Lib.hid (HX.out.2.1.trans (hb4.mono HX.out.2.1.size))
        clear hb4 a5 a0 a1 a2 a3 a4 g5 g0 g1 g2 g3 g4
        obtain ⟨z, hz⟩ : ∃ z, sgnO r = z := ⟨_, rfl⟩
        rw [hz]
        by_cases hz0 : z = 0
        · have hre : r = .eq := sgn_zero (hz.trans hz0)
          have HE := Lib.hid (show cmpfsO l m = cmpfsO (l.drop (i + 1)) (m.drop (i + 1)) by rw [HN.out, hre]; rfl)
          subst hz0
          clear hz hre
          go_wp2
          go_roundg (gk - 1)
          case rel => exact ⟨i + 1, by omega, by omega, rfl, HE, HB4⟩
          case measure => omega
        · have HE := Lib.hid (show sgnO (cmpfsO l m) = z by
            rw [HN.out, ← hz]
            cases r with
            | eq => exact absurd hz.symm hz0
            | lt => rfl
            | gt => rfl)
          clear hz
          go_wp2
          go_ret
          exact ⟨by rw [HE.out]; try rfl, HB4.out⟩
      · have hiy : (N2 : Int) ≤ (i : Int) := by omega
        have HE := Lib.hid (show sgnO (cmpfsO l m) = 1 by
          rw [HC.out, cmpfs_end l m i (by rw [H0.out.1]; omega) (by rw [H0.out.2]; omega) (by rw [H0.out.1, H0.out.2]; omega), H0.out.1, H0.out.2]
          unfold icmp
          rw [if_neg (by omega), if_pos (by omega)]; rfl)
        have HB4 := Lib.hid (HB.out.alloc (o := .cells #[.string NX, .int .i64 q0, .int .i64 q1, .string q2, .slice q3 q4 q5, .slice q6 q7 q8] 51) HB.out.size)
        clear hx e5 e0 e1 e2 e3 e4 hrb hnx hNX
        go_wp2
        go_ret
        exact ⟨by rw [HE.out]; try rfl, HB4.out⟩
    · have hiz : ¬ (i : Int) < (N1 : Int) := by omega
      have hE := cmpfs_end l m i (by rw [H0.out.1]; omega) (by rw [H0.out.2]; omega) (by rw [H0.out.1, H0.out.2]; omega)
      rw [← HC.out, H0.out.1, H0.out.2] at hE
      by_cases hi3 : N1 < N2
      · have hiy : (N1 : Int) < (N2 : Int) := by omega
        have HE := Lib.hid (show sgnO (cmpfsO l m) = -1 by
          rw [hE]
          unfold icmp
          rw [if_pos (by omega)]; rfl)
        clear hE
        go_wp2
        go_ret
        exact ⟨by rw [HE.out]; try rfl, HB.out⟩
      · have hiy : ¬ (N1 : Int) < (N2 : Int) := by omega
        have HE := Lib.hid (show sgnO (cmpfsO l m) = 0 by
          rw [hE]
          unfold icmp
          rw [if_neg (by omega), if_neg (by omega)]; rfl)
        clear hE
        go_wp2
        go_ret
        exact ⟨by rw [HE.out]; try rfl, HB.out⟩
end Go.Proofs.YtccnfnoonpfdfaaGreatDoor
namespace Go.Proofs.YtccnfnoonpfdfaaGreatDoor
open Go.Shelf Go.RowKit Go.Lib
set_option maxHeartbeats 4000000 in
set_option maxRecDepth 100000 in
theorem vc_diff (k1 k2 n1 n2 : Int) (s1 s2 : ByteArray) (p1 q1 p2 q2 : Option Addr) (l1 l2 m1 m2 c1 c2 d1 d2 : Nat) (hk : k1 < k2 ∨ k2 < k1) (w : World) :
    CmpC 39 w (icmp k1 k2) [.int .i64 k1, .int .i64 n1, .string s1, .slice p1 l1 c1, .slice q1 m1 d1] [.int .i64 k2, .int .i64 n2, .string s2, .slice p2 l2 c2, .slice q2 m2 d2] := by
  unfold CmpC
  have hne1 : (k1 == k2) = false := by simp; omega
  have hne2 : (k1 != k2) = true := by simp; omega
  have hne3 : ¬ k1 = k2 := by omega
  clear hk
  go_enter Tryz.func39, Tryz.ntmps39
  go_wp2_with fail
  refine (ccmp_kind _ _ _).mono ?_
  rintro e w2 ⟨rfl, rfl⟩
  go_wp2
  go_ret
  exact ⟨rfl, ((Below.refl _ w).alloc (Nat.le_refl _) _).alloc (by simp; try omega) _⟩
set_option maxHeartbeats 4000000 in
set_option maxRecDepth 100000 in
theorem vc_null (w : World) : CmpC 39 w .eq [.int .i64 0, .int .i64 0, .string ⟨#[]⟩, .slice none 0 0, .slice none 0 0] [.int .i64 0, .int .i64 0, .string ⟨#[]⟩, .slice none 0 0, .slice none 0 0] := by
  unfold CmpC
  go_enter Tryz.func39, Tryz.ntmps39
  go_wp2_with fail
  go_ret
  exact ⟨rfl, ((Below.refl _ w).alloc (Nat.le_refl _) _).alloc (by simp; try omega) _⟩
set_option maxHeartbeats 4000000 in
set_option maxRecDepth 100000 in
theorem vc_num (k n m : Int) (hk : k = 1 ∨ k = 2) (w : World) : CmpC 39 w (icmp n m) [.int .i64 k, .int .i64 n, .string ⟨#[]⟩, .slice none 0 0, .slice none 0 0] [.int .i64 k, .int .i64 m, .string ⟨#[]⟩, .slice none 0 0, .slice none 0 0] := by
  unfold CmpC
  rcases hk with rfl | rfl <;> (
    go_enter Tryz.func39, Tryz.ntmps39
    go_wp2_with fail
    refine (ccmp_num _ _ _).mono ?_
    rintro e w2 ⟨rfl, rfl⟩
    go_wp2
    go_ret
    exact ⟨rfl, ((Below.refl _ w).alloc (Nat.le_refl _) _).alloc (by simp; try omega) _⟩)
set_option maxHeartbeats 4000000 in
set_option maxRecDepth 100000 in
theorem vc_text (a b : BL) (w : World) : CmpC 39 w (lcmp a b) [.int .i64 3, .int .i64 0, .string (BA a), .slice none 0 0, .slice none 0 0] [.int .i64 3, .int .i64 0, .string (BA b), .slice none 0 0, .slice none 0 0] := by
  unfold CmpC
  have HC := Lib.hid (scmp_any a b)
  obtain ⟨A, hA⟩ : ∃ A, BA a = A := ⟨_, rfl⟩
  obtain ⟨B, hB⟩ : ∃ B, BA b = B := ⟨_, rfl⟩
  rw [hA, hB] at HC ⊢
  clear hA hB
  go_enter Tryz.func39, Tryz.ntmps39
  go_wp2_with fail
  refine (HC.out _).mono ?_
  rintro e w2 ⟨rfl, rfl⟩
  go_wp2
  go_ret
  exact ⟨rfl, ((Below.refl _ w).alloc (Nat.le_refl _) _).alloc (by simp; try omega) _⟩
set_option maxHeartbeats 4000000 in
set_option maxRecDepth 100000 in
theorem vc_list (r : Ordering) (p q : Option Addr) (l m c d : Nat) (w : World)
    (hc : ∀ W, Below w.heap.size w W → Calls Tryz.prog 74 #[.slice p l c, .slice q m d, .func (.func 39) #[] #[]] W fun e w' => e = .returned (.int .i64 (sgnO r)) ∧ Below W.heap.size W w') :
    CmpC 39 w r [.int .i64 4, .int .i64 0, .string ⟨#[]⟩, .slice p l c, .slice none 0 0] [.int .i64 4, .int .i64 0, .string ⟨#[]⟩, .slice q m d, .slice none 0 0] := by
  unfold CmpC
  have HC := Lib.hid hc
  clear hc
  obtain ⟨W0, hW0⟩ : ∃ W0, (w.alloc (.cells #[.int .i64 4, .int .i64 0, .string ⟨#[]⟩, .slice p l c, .slice none 0 0] 28)).alloc (.cells #[.int .i64 4, .int .i64 0, .string ⟨#[]⟩, .slice q m d, .slice none 0 0] 28) = W0 := ⟨_, rfl⟩
  have H0 := Lib.hid (And.intro hW0 (show Below w.heap.size w W0 by rw [← hW0]; exact ((Below.refl _ w).alloc (Nat.le_refl _) _).alloc (by simp; try omega) _))
  clear hW0
  go_enter Tryz.func39, Tryz.ntmps39
  go_wp2_with fail
  rw [H0.out.1]
  refine (HC.out _ H0.out.2).mono ?_
  rintro e w2 ⟨rfl, hb2⟩
  have H2 := Lib.hid (H0.out.2.trans (hb2.mono H0.out.2.size))
  clear hb2
  go_wp2
  go_ret
  exact ⟨rfl, H2.out⟩
set_option maxHeartbeats 4000000 in
set_option maxRecDepth 100000 in
theorem vc_obj (r : Ordering) (p q : Option Addr) (l m c d : Nat) (w : World)
    (hc : ∀ W, Below w.heap.size w W → Calls Tryz.prog 75 #[.slice p l c, .slice q m d, .func (.func 76) #[] #[]] W fun e w' => e = .returned (.int .i64 (sgnO r)) ∧ Below W.heap.size W w') :
    CmpC 39 w r [.int .i64 5, .int .i64 0, .string ⟨#[]⟩, .slice none 0 0, .slice p l c] [.int .i64 5, .int .i64 0, .string ⟨#[]⟩, .slice none 0 0, .slice q m d] := by
  unfold CmpC
  have HC := Lib.hid hc
  clear hc
  obtain ⟨W0, hW0⟩ : ∃ W0, (w.alloc (.cells #[.int .i64 5, .int .i64 0, .string ⟨#[]⟩, .slice none 0 0, .slice p l c] 28)).alloc (.cells #[.int .i64 5, .int .i64 0, .string ⟨#[]⟩, .slice none 0 0, .slice q m d] 28) = W0 := ⟨_, rfl⟩
  have H0 := Lib.hid (And.intro hW0 (show Below w.heap.size w W0 by rw [← hW0]; exact ((Below.refl _ w).alloc (Nat.le_refl _) _).alloc (by simp; try omega) _))
  clear hW0
  go_enter Tryz.func39, Tryz.ntmps39
  go_wp2_with fail
  rw [H0.out.1]
  refine (HC.out _ H0.out.2).mono ?_
  rintro e w2 ⟨rfl, hb2⟩
  have H2 := Lib.hid (H0.out.2.trans (hb2.mono H0.out.2.size))
  clear hb2
  go_wp2
  go_ret
  exact ⟨rfl, H2.out⟩
theorem vc_kinds (x y : V) (S T : Nat → Prop) (w : World) (c d : List Value) (hx : VAt S w x c) (hy : VAt T w y d) (h : kindV x ≠ kindV y) : CmpC 39 w (cmpO x y) c d := by
  obtain ⟨n, s, p1, l1, c1, p2, l2, c2, rfl⟩ := hx.kind
  obtain ⟨n', s', p1', l1', c1', p2', l2', c2', rfl⟩ := hy.kind
  rw [cmpO_kind x y h]
  exact vc_diff _ _ _ _ _ _ _ _ _ _ _ _ _ _ _ _ _ _ (by omega) w
theorem row_form {S : Nat → Prop} {w : World} {sl : Value} {n : Nat} {cs : List Value} (h : RowAt S w sl n cs) : ∃ p cap, sl = .slice p n cap ∧ (0 < n → ∃ b, p = some ⟨b, 0, none⟩ ∧ ∀ k u, cs[k]? = some u → w.cell? ⟨b, k, none⟩ = some u) := by
  rcases h.2 with ⟨h0, rfl⟩ | ⟨b, cap, rfl, _, hc⟩
  · exact ⟨none, 0, by rw [h0], fun h => by omega⟩
  · exact ⟨_, _, rfl, fun _ => ⟨b, rfl, hc⟩⟩
/-- value.Cmp tells how any two values stand. -/
theorem vcmp_any (x : V) : CmpH 39 x := by
  refine V_kids ?_ ?_ ?_ ?_ ?_ ?_ x
  · intro l ih y S T w c d hx hy
    by_cases hk : kindV (V.list l) = kindV y
    · cases y with
      | list m =>
        cases hx with
        | list l cs sl hV hr => cases hy with
          | list m ds sm hU hs =>
            rw [show cmpO (V.list l) (V.list m) = cmpsO l m by rw [cmpO]]
            obtain ⟨p, cap, rfl, hp⟩ := row_form hr
            obtain ⟨q, cad, rfl, hq⟩ := row_form hs
            refine vc_list _ _ _ _ _ _ _ w fun W hb => ?_
            exact cf_list l m cs ds p q cap cad S T W (hV.later hb) (fun h => by obtain ⟨b, e, h2⟩ := hp h; exact ⟨b, e, fun k u hu => bcell hb (h2 k u hu)⟩) (hU.later hb) (fun h => by obtain ⟨b, e, h2⟩ := hq h; exact ⟨b, e, fun k u hu => bcell hb (h2 k u hu)⟩) hr.1 hs.1 ih
      | _ => simp [kindV] at hk
    · exact vc_kinds _ _ S T w c d hx hy hk
  · intro l ih y S T w c d hx hy
    by_cases hk : kindV (V.obj l) = kindV y
    · cases y with
      | obj m =>
        cases hx with
        | obj l cs sl hV hr => cases hy with
          | obj m ds sm hU hs =>
            rw [show cmpO (V.obj l) (V.obj m) = cmpfsO l m by rw [cmpO]]
            obtain ⟨p, cap, rfl, hp⟩ := row_form hr
            obtain ⟨q, cad, rfl, hq⟩ := row_form hs
            refine vc_obj _ _ _ _ _ _ _ w fun W hb => ?_
            exact cf_obj l m cs ds p q cap cad S T W (hV.later hb) (fun h => by obtain ⟨b, e, h2⟩ := hp h; exact ⟨b, e, fun k u hu => bcell hb (h2 k u hu)⟩) (hU.later hb) (fun h => by obtain ⟨b, e, h2⟩ := hq h; exact ⟨b, e, fun k u hu => bcell hb (h2 k u hu)⟩) hr.1 hs.1 ih
      | _ => simp [kindV] at hk
    · exact vc_kinds _ _ S T w c d hx hy hk
  · intro y S T w c d hx hy
    by_cases hk : kindV V.null = kindV y
    · cases y with
      | null => cases hx; cases hy; rw [show cmpO V.null V.null = .eq by rw [cmpO]]; exact vc_null w
      | _ => simp [kindV] at hk
    · exact vc_kinds _ _ S T w c d hx hy hk
  · intro n y S T w c d hx hy
    by_cases hk : kindV (V.bool n) = kindV y
    · cases y with
      | bool m => cases hx; cases hy; rw [show cmpO (V.bool n) (V.bool m) = icmp n m by rw [cmpO]]; exact vc_num 1 n m (.inl rfl) w
      | _ => simp [kindV] at hk
    · exact vc_kinds _ _ S T w c d hx hy hk
  · intro n y S T w c d hx hy
    by_cases hk : kindV (V.int n) = kindV y
    · cases y with
      | int m => cases hx; cases hy; rw [show cmpO (V.int n) (V.int m) = icmp n m by rw [cmpO]]; exact vc_num 2 n m (.inr rfl) w
      | _ => simp [kindV] at hk
    · exact vc_kinds _ _ S T w c d hx hy hk
  · intro s y S T w c d hx hy
    by_cases hk : kindV (V.text s) = kindV y
    · cases y with
      | text t => cases hx; cases hy; rw [show cmpO (V.text s) (V.text t) = lcmp s t by rw [cmpO]]; exact vc_text s t w
      | _ => simp [kindV] at hk
    · exact vc_kinds _ _ S T w c d hx hy hk
set_option maxHeartbeats 4000000 in
set_option maxRecDepth 100000 in
/-- value.Same tells whether two values do not differ. -/
theorem vsame_any (x y : V) (S T : Nat → Prop) (w : World) (c d : List Value) (hx : VAt S w x c) (hy : VAt T w y d) :
    Calls Tryz.prog 20 #[.agg c.toArray, .agg d.toArray] w fun e w' => e = .returned (.bool (cmpO x y == .eq)) ∧ Below w.heap.size w w' := by
  rw [← sgn_eq0]
  obtain ⟨q0, q1, q2, q3, q4, q5, q6, q7, q8, rfl⟩ := hx.shape
  obtain ⟨r0, r1, r2, r3, r4, r5, r6, r7, r8, rfl⟩ := hy.shape
  obtain ⟨W0, hW0⟩ : ∃ W0, (w.alloc (.cells #[.int .i64 q0, .int .i64 q1, .string q2, .slice q3 q4 q5, .slice q6 q7 q8] 28)).alloc (.cells #[.int .i64 r0, .int .i64 r1, .string r2, .slice r3 r4 r5, .slice r6 r7 r8] 28) = W0 := ⟨_, rfl⟩
  have hb0 : Below w.heap.size w W0 := by rw [← hW0]; exact ((Below.refl _ w).alloc (Nat.le_refl _) _).alloc (by simp; try omega) _
  have hC := vcmp_any x y S T W0 _ _ (hx.later hb0) (hy.later hb0)
  unfold CmpC at hC
  obtain ⟨z, hz⟩ : ∃ z, sgnO (cmpO x y) = z := ⟨_, rfl⟩
  rw [hz] at hC ⊢
  have H0 := Lib.hid (And.intro hW0 (And.intro hb0 hC))
  clear hW0 hb0 hC hx hy hz
  go_enter Tryz.func20, Tryz.ntmps20
  go_wp2_with fail
  rw [H0.out.1]
  refine (show Calls _ _ _ _ _ from H0.out.2.2).mono ?_
  rintro e w2 ⟨rfl, hb2⟩
  have H2 := Lib.hid (H0.out.2.1.trans (hb2.mono H0.out.2.1.size))
  clear hb2
  go_wp2
  go_ret
  exact ⟨rfl, H2.out⟩
end Go.Proofs.YtccnfnoonpfdfaaGreatDoor
namespace Go.Proofs.YtccnfnoonpfdfaaGreatDoor
open Go.Shelf Go.RowKit Go.Lib
set_option maxHeartbeats 2000000 in
set_option maxRecDepth 100000 in
theorem bend_any (s : ByteArray) (at_ c : Nat) (w : World) (hs : s.size ≤ 1099511627000) (ha : at_ < 65536) (hc : c < 256) :
    Calls Tryz.prog 18 #[.string s, .int .u16 at_, .int .u8 c] w fun e w' => (∃ Z : ByteArray, e = .returned (.string Z) ∧ Z.size = s.size) ∧ Below w.heap.size w w' := by
  by_cases h0 : s.size = 0
  · have hs0 : s = ⟨#[]⟩ := by
      have hn : s.data.toList = [] := List.eq_nil_of_length_eq_zero (by rw [← size_eq]; exact h0)
      rw [← ba_list s, hn]
    clear h0 hs
    subst hs0
    go_enter Tryz.func18, Tryz.ntmps18
    go_wp2
    go_ret
    exact ⟨⟨_, rfl, rfl⟩, Below.refl _ _⟩
  have h1 : 0 < s.size := by omega
  have hLne : s.toList.isEmpty = false := by
    rw [Lib.toList_data]
    cases h : s.data.toList with
    | nil => rw [size_eq, h] at h1; simp at h1
    | cons _ _ => rfl
  obtain ⟨cap, hcap⟩ : ∃ cap, grownCap w s.size 0 5 = cap := ⟨_, rfl⟩
  have hconv := run_bytes_of_string w 9 22 5 s Tryz.underlying9 Tryz.underlying22 Tryz.underlying5
  rw [hcap] at hconv
  obtain ⟨row, hrow⟩ : ∃ row, bytesRow s cap = row := ⟨_, rfl⟩
  rw [hrow] at hconv
  have hrs : s.size ≤ row.size := by rw [← hrow]; unfold bytesRow; simp
  have hat : ∀ j (hj : j < s.size), row[j]? = some (.int .u8 (s.data[j].toNat : Int)) := fun j hj => by rw [← hrow]; exact bytesRow_at s cap j hj
  obtain ⟨W, hW⟩ : ∃ W, w.drew.alloc (.cells row 5 (row.size, row.size + 1)) = W := ⟨_, rfl⟩
  rw [hW] at hconv
  have hblk : W.heap[w.heap.size]? = some (.cells row 5 (row.size, row.size + 1)) := by rw [← hW]; exact heap_alloc_new w.drew _
  have hbl : Below w.heap.size w W := by rw [← hW]; exact ((Below.refl _ w).drew).alloc (Nat.le_refl _) _
  obtain ⟨k, hk⟩ : ∃ k, at_ % s.size = k := ⟨_, rfl⟩
  have hks : k < s.size := by rw [← hk]; exact Nat.mod_lt _ h1
  obtain ⟨x, hx⟩ : ∃ x, s.data[k]'hks = x := ⟨_, rfl⟩
  have hcell : W.cell? ⟨w.heap.size, k, none⟩ = some (.int .u8 (x.toNat : Int)) := by rw [Go.Joins.cell_of_block hblk, hat k hks, hx]
  have hfz : W.frozen? ⟨w.heap.size, k, none⟩ = false := by
    simp [World.frozen?, hblk]
    omega
  obtain ⟨y, hy⟩ : ∃ y : Nat, x.toNat ^^^ c = y := ⟨_, rfl⟩
  have hy8 : y < 256 := by rw [← hy]; exact Nat.xor_lt_two_pow (n := 8) x.toNat_lt (by omega)
  have hxor : bits .xor .u8 (x.toNat : Int) (c : Int) = (y : Int) := by rw [u8_xor_nat _ _ x.toNat_lt hc, hy]
  have hwr : IntKind.i64.wrap (at_ : Int) = (at_ : Int) := IntWalk.i64_in _ (by omega)
  have hkz : (at_ : Int) % (s.size : Int) = (k : Int) := by omega
  have hkz2 : (k : Int) < (s.size : Int) := by omega
  have hq0 : ¬ (s.size : Int) = 0 := by omega
  have hq0' : ((s.size : Int) == 0) = false := beq_eq_false_iff_ne.2 hq0
  have hqn : ¬ s.size = 0 := h0
  obtain ⟨l, hl⟩ : ∃ l : BL, s.data.toList.set k (UInt8.ofNat y) = l := ⟨_, rfl⟩
  have hll : l.length = s.size := by rw [← hl, List.length_set, ← size_eq]
  have hback : (convert 22 9 (.slice (some ⟨w.heap.size, 0, none⟩) s.size cap)).run Tryz.prog (W.setCell ⟨w.heap.size, k, none⟩ (.int .u8 (y : Int))) = .ok (.string (BA l)) (W.setCell ⟨w.heap.size, k, none⟩ (.int .u8 (y : Int))) := by
    have hset := Go.Joins.block_setCell (i := k) hblk (.int .u8 (y : Int))
    have := run_convert_bytes_back (P := Tryz.prog) (W.setCell ⟨w.heap.size, k, none⟩ (.int .u8 (y : Int))) 22 9 5 ⟨w.heap.size, 0, none⟩ cap l Tryz.underlying22 Tryz.underlying5 Tryz.underlying9 (fun j hj => by
      have hj2 : j < s.size := by omega
      rw [show (⟨w.heap.size, 0, none⟩ : Addr).add j = ⟨w.heap.size, j, none⟩ by unfold Addr.add; split <;> simp_all]
      rw [Go.Joins.cell_of_block hset]
      subst hl
      by_cases hjk : j = k
      · subst hjk
        have hsz : j < row.size := by omega
        rw [Array.getElem?_setIfInBounds_self_of_lt hsz]
        rw [List.getElem_set_self, UInt8.toNat_ofNat']
        rw [show y % 2 ^ 8 = y by omega]
      · rw [Array.getElem?_setIfInBounds_ne (fun e => hjk e.symm), hat j hj2, List.getElem_set_ne (fun e => hjk e.symm)]
        rfl)
    rw [hll] at this
    exact this
  have HF := Lib.hid (And.intro hbl (And.intro hll hblk))
  clear hl hll hbl hblk hat hx hy hy8 hrs hrow hcap hW hk h0
  go_enter Tryz.func18, Tryz.ntmps18
  go_wp2
  go_ret
  exact ⟨⟨_, rfl, by rw [ba_size, HF.out.2.1]⟩, HF.out.1.setCell (p := ⟨w.heap.size, k, none⟩) (Nat.le_refl _) _⟩
end Go.Proofs.YtccnfnoonpfdfaaGreatDoor
namespace Go.Proofs.YtccnfnoonpfdfaaGreatDoor
open Go.Shelf Go.RowKit Go.Lib
/-- the field of a name. -/
def fieldP : List (BL × V) → BL → Option V
  | [], _ => none
  | f :: l, p => if f.1 = p then some f.2 else fieldP l p
end Go.Proofs.YtccnfnoonpfdfaaGreatDoor
namespace Go.Proofs.YtccnfnoonpfdfaaGreatDoor
open Go.Shelf Go.RowKit Go.Lib
def idxP : List (BL × V) → BL → Nat → Option Nat
  | [], _, _ => none
  | f :: l, p, i => if f.1 = p then some i else idxP l p (i + 1)
theorem idxP_field : ∀ (l : List (BL × V)) (p : BL) (i : Nat), fieldP l p = (idxP l p i).bind fun k => (l[k - i]?).map (·.2)
  | [], p, i => rfl
  | f :: l, p, i => by
    unfold fieldP idxP
    by_cases h : f.1 = p
    · simp [h]
    · rw [if_neg h, if_neg h, idxP_field l p (i + 1)]
      cases hk : idxP l p (i + 1) with
      | none => rfl
      | some k =>
        have hle : i + 1 ≤ k := by
          clear h
          revert hk
          generalize i + 1 = j
          intro hk
          induction l generalizing j with
          | nil => simp [idxP] at hk
          | cons g l ih =>
            unfold idxP at hk
            split at hk
            · have := Option.some.inj hk; omega
            · have := ih (j + 1) hk; omega
        simp only [Option.bind_some]
        rw [show k - i = (k - (i + 1)) + 1 by omega, List.getElem?_cons_succ]
theorem idxP_drop (l : List (BL × V)) (p : BL) (i : Nat) (h : i < l.length) : idxP (l.drop i) p i = if l[i].1 = p then some i else idxP (l.drop (i + 1)) p (i + 1) := by
  rw [List.drop_eq_getElem_cons h, idxP]
theorem idxP_lt : ∀ (l : List (BL × V)) (p : BL) (i k : Nat), idxP l p i = some k → i ≤ k ∧ k < i + l.length
  | [], p, i, k, h => by simp [idxP] at h
  | f :: l, p, i, k, h => by
    unfold idxP at h
    split at h
    · have := Option.some.inj h; simp; omega
    · have := idxP_lt l p (i + 1) k h; simp; omega
def idxI : Option Nat → Int
  | some k => k
  | none => -1
set_option maxHeartbeats 1000000 in
set_option maxRecDepth 100000 in
theorem isname_any (NX NM : ByteArray) (q0 q1 : Int) (q2 : ByteArray) (q3 : Option Addr) (q4 q5 : Nat) (q6 : Option Addr) (q7 q8 : Nat) (pb : Nat) (w : World) (hp : w.cell? ⟨pb, 0, none⟩ = some (.string NM)) :
    Calls Tryz.prog 130 #[.agg #[.string NX, .int .i64 q0, .int .i64 q1, .string q2, .slice q3 q4 q5, .slice q6 q7 q8], .pointer (some ⟨pb, 0, none⟩)] w fun e w' => e = .returned (.bool (NX.toList == NM.toList)) ∧ Below w.heap.size w w' := by
  have hp2 := bcell ((Below.refl w.heap.size w).alloc (Nat.le_refl _) (.cells #[.string NX, .int .i64 q0, .int .i64 q1, .string q2, .slice q3 q4 q5, .slice q6 q7 q8] 51)) hp
  go_enter Tryz.func130, Tryz.ntmps130
  go_wp2
  go_ret
  exact ⟨by first | rfl | simp, (Below.refl _ w).alloc (Nat.le_refl _) _⟩
theorem bytes_eq (a b : BL) : ((BA a).toList == (BA b).toList) = decide (a = b) := by
  rw [Lib.toList_data, Lib.toList_data]
  by_cases h : a = b
  · simp [h]
  · simp [h]
set_option maxHeartbeats 4000000 in
set_option maxRecDepth 100000 in
theorem fidx_any (l : List (BL × V)) (cs : List Value) (p : Option Addr) (cap pb : Nat) (nm : BL) (S : Nat → Prop) (w : World) (hV : FsAt S w l cs) (hr : 0 < l.length → ∃ b, p = some ⟨b, 0, none⟩ ∧ ∀ k u, cs[k]? = some u → w.cell? ⟨b, k, none⟩ = some u) (hln : l.length ≤ 9223372036854775807) (hp : w.cell? ⟨pb, 0, none⟩ = some (.string (BA nm))) :
    Calls Tryz.prog 119 #[.slice p l.length cap, .func (.func 130) #[] #[.pointer (some ⟨pb, 0, none⟩)]] w fun e w' => e = .returned (.int .i64 (idxI (idxP l nm 0))) ∧ Below w.heap.size w w' := by
  have HV := Lib.hid (And.intro hV (And.intro hr hp))
  clear hV hr hp
  obtain ⟨N1, hN1⟩ : ∃ N, l.length = N := ⟨_, rfl⟩
  rw [hN1] at hln
  rw [hN1]
  have H0 := Lib.hid hN1
  clear hN1
  go_enter Tryz.func119, Tryz.ntmps119
  go_wp2_with fail
  go_loopg [8] N1 (fun gk iv wr => ∃ (i : Nat), gk + i = N1 ∧ iv = .int .i64 i ∧ Hid (idxP l nm 0 = idxP (l.drop i) nm i) ∧ Hid (Below w.heap.size w wr))
  case atStart => exact ⟨0, Nat.add_zero _, rfl, Lib.hid rfl, Lib.hid (Below.refl _ _)⟩
  case round =>
    obtain ⟨i, hg, rfl, HC, HB⟩ := hrel
    by_cases hi : i < N1
    · have hiz : (i : Int) < (N1 : Int) := by omega
      have hwK : IntKind.i64.wrap ((i : Int) + 1) = ((i + 1 : Nat) : Int) := by rw [IntWalk.i64_in _ (by omega)]; omega
      have hx1 : i < l.length := by rw [H0.out]; exact hi
      obtain ⟨b, hpe, hrb⟩ := HV.out.2.1 (by omega)
      subst hpe
      obtain ⟨d0, d1, d2, d3, d4, hx, e5, e0, e1, e2, e3, e4⟩ := HV.out.1.get i hx1
      obtain ⟨q0, q1, q2, q3, q4, q5, q6, q7, q8, hq⟩ := hx.shape
      simp only [List.cons.injEq, and_true] at hq
      obtain ⟨rfl, rfl, rfl, rfl, rfl⟩ := hq
      obtain ⟨nx, hnx⟩ : ∃ n, l[i].1 = n := ⟨_, rfl⟩
      obtain ⟨NX, hNX⟩ : ∃ n, BA nx = n := ⟨_, rfl⟩
      rw [hnx, hNX] at e5
      have a5 := bcell HB.out (hrb _ _ e5)
      have a0 := bcell HB.out (hrb _ _ e0)
      have a1 := bcell HB.out (hrb _ _ e1)
      have a2 := bcell HB.out (hrb _ _ e2)
      have a3 := bcell HB.out (hrb _ _ e3)
      have a4 := bcell HB.out (hrb _ _ e4)
      have hnext := idxP_drop l nm i hx1
      rw [hnx] at hnext
      have HN := Lib.hid (And.intro (HC.out.trans hnext) hNX)
      clear hx e5 e0 e1 e2 e3 e4 hrb hnext hnx hNX
      go_wp2_with fail
      have hcall := isname_any NX (BA nm) q0 q1 q2 q3 q4 q5 q6 q7 q8 pb _ (bcell HB.out HV.out.2.2)
      rw [← HN.out.2, bytes_eq] at hcall
      rw [← HN.out.2]
      refine (show Calls _ _ _ _ _ from hcall).mono ?_
      rintro e w4 ⟨rfl, hb4⟩
      have HB4 := Lib.hid (HB.out.trans (hb4.mono HB.out.size))
      clear hcall hb4 a5 a0 a1 a2 a3 a4
      by_cases hne : nx = nm
      · have HE := Lib.hid (show idxI (idxP l nm 0) = (i : Int) by rw [HN.out.1, if_pos hne]; rfl)
        rw [decide_eq_true hne]
        go_wp2
        go_ret
        exact ⟨by rw [HE.out]; try rfl, HB4.out⟩
      · have HE := Lib.hid (show idxP l nm 0 = idxP (l.drop (i + 1)) nm (i + 1) by rw [HN.out.1, if_neg hne])
        rw [decide_eq_false hne]
        go_wp2
        go_roundg (gk - 1)
        case rel => exact ⟨i + 1, by omega, rfl, HE, HB4⟩
        case measure => omega
    · have hiz : ¬ (i : Int) < (N1 : Int) := by omega
      have HE := Lib.hid (show idxI (idxP l nm 0) = -1 by rw [HC.out, List.drop_eq_nil_of_le (by rw [H0.out]; omega)]; rfl)
      go_wp2
      go_ret
      exact ⟨by rw [HE.out]; try rfl, HB.out⟩
/-- the place of the field of a name. -/
def placeF : V → BL → Option Nat
  | .obj l, p => idxP l p 0
  | _, _ => none
set_option maxHeartbeats 4000000 in
set_option maxRecDepth 100000 in
theorem vat_any (v : V) (nm : BL) (S : Nat → Prop) (w : World) (c : List Value) (hv : VAt S w v c) :
    Calls Tryz.prog 117 #[.agg c.toArray, .string (BA nm)] w fun e w' => e = .returned (.int .i64 (idxI (placeF v nm))) ∧ Below w.heap.size w w' := by
  cases v with
  | obj l =>
    cases hv with
    | obj l cs sl hV hr =>
      obtain ⟨p, cap, rfl, hp⟩ := row_form hr
      obtain ⟨W0, hW0⟩ : ∃ W0, (w.alloc (.cells #[.int .i64 5, .int .i64 0, .string ⟨#[]⟩, .slice none 0 0, .slice p l.length cap] 28)).alloc (.cells #[.string (BA nm)] 9) = W0 := ⟨_, rfl⟩
      have hb0 : Below w.heap.size w W0 := by rw [← hW0]; exact ((Below.refl _ w).alloc (Nat.le_refl _) _).alloc (by simp) _
      have hk2 : W0.cell? ⟨w.heap.size + 1, 0, none⟩ = some (.string (BA nm)) := by
        have h := heap_alloc_new (w.alloc (.cells #[.int .i64 5, .int .i64 0, .string ⟨#[]⟩, .slice none 0 0, .slice p l.length cap] 28)) (.cells #[.string (BA nm)] 9)
        rw [show (w.alloc (.cells #[.int .i64 5, .int .i64 0, .string ⟨#[]⟩, .slice none 0 0, .slice p l.length cap] 28)).heap.size = w.heap.size + 1 by simp, hW0] at h
        exact (show Blk W0 (w.heap.size + 1) 9 [.string (BA nm)] from h).cell 0
      have hcall := fidx_any l cs p cap (w.heap.size + 1) nm S W0 (hV.later hb0) (fun h => by obtain ⟨b, e, h2⟩ := hp h; exact ⟨b, e, fun k u hu => bcell hb0 (h2 k u hu)⟩) hr.1 hk2
      have H0 := Lib.hid (And.intro hW0 (And.intro hb0 hcall))
      rw [show placeF (.obj l) nm = idxP l nm 0 from rfl]
      obtain ⟨z, hz⟩ : ∃ z, idxI (idxP l nm 0) = z := ⟨_, rfl⟩
      rw [hz] at H0 ⊢
      clear hW0 hb0 hk2 hcall hV hr hp hz
      go_enter Tryz.func117, Tryz.ntmps117
      go_wp2_with fail
      rw [H0.out.1]
      refine (show Calls _ _ _ _ _ from H0.out.2.2).mono ?_
      rintro e w2 ⟨rfl, hb2⟩
      have H2 := Lib.hid (H0.out.2.1.trans (hb2.mono H0.out.2.1.size))
      clear hb2
      go_wp2
      go_ret
      exact ⟨rfl, H2.out⟩
  | _ =>
    rw [show placeF _ nm = none from rfl, show idxI none = -1 from rfl]
    cases hv
    try (rename_i hro; obtain ⟨p, cap, rfl, _⟩ := row_form hro)
    all_goals (
      go_enter Tryz.func117, Tryz.ntmps117
      go_wp2
      go_ret
      exact ⟨rfl, ((Below.refl _ w).alloc (Nat.le_refl _) _).alloc (by simp) _⟩)
end Go.Proofs.YtccnfnoonpfdfaaGreatDoor
namespace Go.Proofs.YtccnfnoonpfdfaaGreatDoor
open Go.Shelf Go.RowKit Go.Lib
theorem put5 {W4 W5 : World} {P : Nat} {e : TypeId} {z0 z1 z2 z3 z4 c0 c1 c2 c3 c4 : Value} (hR : Blk W4 P e [z0, z1, z2, z3, z4])
    (hW : (((((W4.setCell ⟨P, 0, none⟩ (c0)).setCell ⟨P, 1, none⟩ (c1)).setCell ⟨P, 2, none⟩ (c2)).setCell ⟨P, 3, none⟩ (c3)).setCell ⟨P, 4, none⟩ (c4)) = W5) : Blk W5 P e [c0, c1, c2, c3, c4] ∧ Only (fun x => x = P) W4 W5 := by
  refine ⟨?_, ?_⟩
  · rw [← hW]
    exact ((((hR.set 0 c0).set 1 c1).set 2 c2).set 3 c3).set 4 c4
  · rw [← hW]
    exact ((((Only.set1 W4 P 0 _).trans (Only.set1 _ P 1 _)).trans (Only.set1 _ P 2 _)).trans (Only.set1 _ P 3 _)).trans (Only.set1 _ P 4 _)
/-- a value, or none. -/
def OptV (S : Nat → Prop) (w : World) (r : Option V) (e : Ending) (w' : World) : Prop := match r with
  | some x => ∃ d, e = .returned (.tuple #[.agg d.toArray, .bool true]) ∧ VAt S w' x d ∧ Below w.heap.size w w'
  | none => e = .returned (.tuple #[.agg #[.int .i64 0, .int .i64 0, .string ⟨#[]⟩, .slice none 0 0, .slice none 0 0], .bool false]) ∧ Below w.heap.size w w'
def getP : V → BL → Option V
  | .obj l, p => fieldP l p
  | _, _ => none
theorem getP_place (v : V) (p : BL) (h : placeF v p = none) : getP v p = none := by
  cases v with
  | obj l =>
    have h1 : idxP l p 0 = none := h
    show fieldP l p = none
    rw [idxP_field l p 0, h1]; rfl
  | _ => rfl
set_option maxHeartbeats 8000000 in
set_option maxRecDepth 100000 in
theorem vget_none (v : V) (nm : BL) (S : Nat → Prop) (w : World) (c : List Value) (hv : VAt S w v c) (hn : placeF v nm = none) :
    Calls Tryz.prog 93 #[.agg c.toArray, .string (BA nm)] w fun e w' => e = .returned (.tuple #[.agg #[.int .i64 0, .int .i64 0, .string ⟨#[]⟩, .slice none 0 0, .slice none 0 0], .bool false]) ∧ Below w.heap.size w w' := by
  have hcall0 := fun (W : World) (hb : Below w.heap.size w W) => vat_any v nm S W c (hv.later hb)
  rw [hn, show idxI none = -1 from rfl] at hcall0
  obtain ⟨q0, q1, q2, q3, q4, q5, q6, q7, q8, rfl⟩ := hv.shape
  obtain ⟨W0, hW0⟩ : ∃ W0, (w.alloc (.cells #[.int .i64 q0, .int .i64 q1, .string q2, .slice q3 q4 q5, .slice q6 q7 q8] 28)).alloc (.cells #[.int .i64 0, .int .i64 0, .string ⟨#[]⟩, .slice none 0 0, .slice none 0 0] 28) = W0 := ⟨_, rfl⟩
  have hb0 : Below w.heap.size w W0 := by rw [← hW0]; exact ((Below.refl _ w).alloc (Nat.le_refl _) _).alloc (by simp) _
  have hk1 : Blk W0 (w.heap.size + 1) 28 [.int .i64 0, .int .i64 0, .string ⟨#[]⟩, .slice none 0 0, .slice none 0 0] := by rw [← hW0]; exact blk_new2 w _ _ _
  have hcall := hcall0 W0 hb0
  obtain ⟨P, hP⟩ : ∃ P, w.heap.size + 1 = P := ⟨_, rfl⟩
  rw [hP] at hk1
  have H0 := Lib.hid (And.intro hW0 (And.intro hb0 (And.intro hcall (And.intro hk1 hP))))
  clear hW0 hb0 hk1 hcall hcall0 hv hn hP
  go_enter Tryz.func93, Tryz.ntmps93
  go_wp2_with fail
  rw [H0.out.1]
  refine (show Calls _ _ _ _ _ from H0.out.2.2.1).mono ?_
  rintro e w2 ⟨rfl, hb2⟩
  have hk2 := H0.out.2.2.2.1.below hb2
  rw [H0.out.2.2.2.2]
  obtain ⟨W5, hW5⟩ : ∃ W5, (((((w2.setCell ⟨P, 0, none⟩ (.int .i64 0)).setCell ⟨P, 1, none⟩ (.int .i64 0)).setCell ⟨P, 2, none⟩ (.string ⟨#[]⟩)).setCell ⟨P, 3, none⟩ (.slice none 0 0)).setCell ⟨P, 4, none⟩ (.slice none 0 0)) = W5 := ⟨_, rfl⟩
  have hp5 := put5 hk2 hW5
  have hfin : Below w.heap.size w W5 := (H0.out.2.1.trans (hb2.mono H0.out.2.1.size)).trans (hp5.2.below (Nat.le_trans H0.out.2.1.size hb2.size) (fun k hk e => by have := H0.out.2.2.2.2; omega))
  have HF := Lib.hid (And.intro hW5 (And.intro hp5.1 hfin))
  have r0 := hk2.cell 0
  have r1 := hk2.cell 1
  have r2 := hk2.cell 2
  have r3 := hk2.cell 3
  have r4 := hk2.cell 4
  have s0 := hk2.frozen 0
  have s1 := hk2.frozen 1
  have s2 := hk2.frozen 2
  have s3 := hk2.frozen 3
  have s4 := hk2.frozen 4
  clear hW5 hp5 hfin hk2 hb2
  go_wp2
  rw [HF.out.1]
  have z0 := HF.out.2.1.cell 0
  have z1 := HF.out.2.1.cell 1
  have z2 := HF.out.2.1.cell 2
  have z3 := HF.out.2.1.cell 3
  have z4 := HF.out.2.1.cell 4
  (try simp only [Exit.inBlock, Exit.then])
  refine bodyPost_ret (v := .tuple #[.agg #[.int .i64 0, .int .i64 0, .string ⟨#[]⟩, .slice none 0 0, .slice none 0 0], .bool false]) ?_ rfl ⟨rfl, HF.out.2.2⟩
  rw [results_cell_tmp rfl]
  go_simp
set_option maxHeartbeats 8000000 in
set_option maxRecDepth 100000 in
theorem vget_some (l : List (BL × V)) (nm : BL) (k : Nat) (hk : k < l.length) (S : Nat → Prop) (w : World) (c : List Value) (hv : VAt S w (.obj l) c) (hn : placeF (.obj l) nm = some k) :
    Calls Tryz.prog 93 #[.agg c.toArray, .string (BA nm)] w fun e w' => ∃ d, e = .returned (.tuple #[.agg d.toArray, .bool true]) ∧ VAt S w' l[k].2 d ∧ Below w.heap.size w w' := by
  have hcall0 := fun (W : World) (hb : Below w.heap.size w W) => vat_any (.obj l) nm S W c (hv.later hb)
  rw [hn, show idxI (some k) = (k : Int) from rfl] at hcall0
  cases hv with
  | obj l cs sl hV hr =>
    have hln := hr.1
    obtain ⟨p, cap, rfl, hp⟩ := row_form hr
    obtain ⟨b, rfl, hrb⟩ := hp (by omega)
    obtain ⟨g0, g1, g2, g3, g4, hx, e5, e0, e1, e2, e3, e4⟩ := hV.get k hk
    obtain ⟨d0, d1, d2, d3, d4, d5, d6, d7, d8, hq⟩ := hx.shape
    simp only [List.cons.injEq, and_true] at hq
    obtain ⟨rfl, rfl, rfl, rfl, rfl⟩ := hq
    obtain ⟨W0, hW0⟩ : ∃ W0, (w.alloc (.cells #[.int .i64 5, .int .i64 0, .string ⟨#[]⟩, .slice none 0 0, .slice (some ⟨b, 0, none⟩) l.length cap] 28)).alloc (.cells #[.int .i64 0, .int .i64 0, .string ⟨#[]⟩, .slice none 0 0, .slice none 0 0] 28) = W0 := ⟨_, rfl⟩
    have hb0 : Below w.heap.size w W0 := by rw [← hW0]; exact ((Below.refl _ w).alloc (Nat.le_refl _) _).alloc (by simp) _
    have hk1 : Blk W0 (w.heap.size + 1) 28 [.int .i64 0, .int .i64 0, .string ⟨#[]⟩, .slice none 0 0, .slice none 0 0] := by rw [← hW0]; exact blk_new2 w _ _ _
    have hk0 : Blk W0 w.heap.size 28 [.int .i64 5, .int .i64 0, .string ⟨#[]⟩, .slice none 0 0, .slice (some ⟨b, 0, none⟩) l.length cap] := by rw [← hW0]; exact Blk.alloc (heap_alloc_new w _) _
    have hcall := hcall0 W0 hb0
    obtain ⟨N, hN⟩ : ∃ N, l.length = N := ⟨_, rfl⟩
    rw [hN] at hln hcall hW0 hk0
    have hkN : (k : Int) < (N : Int) := by omega
    have hk0z : (0 : Int) ≤ (k : Int) := by omega
    rw [hN]
    obtain ⟨P, hP⟩ : ∃ P, w.heap.size + 1 = P := ⟨_, rfl⟩
    rw [hP] at hk1
    have H0 := Lib.hid (And.intro hW0 (And.intro hb0 (And.intro hcall (And.intro hk1 (And.intro hP (And.intro hk0 (And.intro hx (And.intro (hrb _ _ e0) (And.intro (hrb _ _ e1) (And.intro (hrb _ _ e2) (And.intro (hrb _ _ e3) (hrb _ _ e4))))))))))))
    clear hW0 hb0 hk1 hcall hcall0 hn hP hk0 hV hr hp hrb hx e0 e1 e2 e3 e4 e5 hN
    go_enter Tryz.func93, Tryz.ntmps93
    go_wp2_with fail
    rw [H0.out.1]
    refine (show Calls _ _ _ _ _ from H0.out.2.2.1).mono ?_
    rintro e w2 ⟨rfl, hb2⟩
    have hk2 := H0.out.2.2.2.1.below hb2
    have hbx := H0.out.2.2.2.2.2.1.below hb2
    have hbw := H0.out.2.1.trans (hb2.mono H0.out.2.1.size)
    rw [H0.out.2.2.2.2.1]
    obtain ⟨W5, hW5⟩ : ∃ W5, (((((w2.setCell ⟨P, 0, none⟩ (.int .i64 d0)).setCell ⟨P, 1, none⟩ (.int .i64 d1)).setCell ⟨P, 2, none⟩ (.string d2)).setCell ⟨P, 3, none⟩ (.slice d3 d4 d5)).setCell ⟨P, 4, none⟩ (.slice d6 d7 d8)) = W5 := ⟨_, rfl⟩
    have hp5 := put5 hk2 hW5
    have hfin : Below w.heap.size w W5 := hbw.trans (hp5.2.below (Nat.le_trans H0.out.2.1.size hb2.size) (fun k hk e => by have := H0.out.2.2.2.2.1; omega))
    have HF := Lib.hid (And.intro hW5 (And.intro hp5.1 (And.intro hfin (H0.out.2.2.2.2.2.2.1.later hfin))))
    have b4 := hbx.cell 4
    have a0 := bcell hbw H0.out.2.2.2.2.2.2.2.1
    have a1 := bcell hbw H0.out.2.2.2.2.2.2.2.2.1
    have a2 := bcell hbw H0.out.2.2.2.2.2.2.2.2.2.1
    have a3 := bcell hbw H0.out.2.2.2.2.2.2.2.2.2.2.1
    have a4 := bcell hbw H0.out.2.2.2.2.2.2.2.2.2.2.2
    have r0 := hk2.cell 0
    have r1 := hk2.cell 1
    have r2 := hk2.cell 2
    have r3 := hk2.cell 3
    have r4 := hk2.cell 4
    have s0 := hk2.frozen 0
    have s1 := hk2.frozen 1
    have s2 := hk2.frozen 2
    have s3 := hk2.frozen 3
    have s4 := hk2.frozen 4
    have hkn : ¬ (k : Int) < 0 := by omega
    clear hW5 hp5 hfin hk2 hb2 hbx hbw
    go_wp2
    rw [HF.out.1]
    have z0 := HF.out.2.1.cell 0
    have z1 := HF.out.2.1.cell 1
    have z2 := HF.out.2.1.cell 2
    have z3 := HF.out.2.1.cell 3
    have z4 := HF.out.2.1.cell 4
    (try simp only [Exit.inBlock, Exit.then])
    refine bodyPost_ret (v := .tuple #[.agg #[.int .i64 d0, .int .i64 d1, .string d2, .slice d3 d4 d5, .slice d6 d7 d8], .bool true]) ?_ rfl ⟨[.int .i64 d0, .int .i64 d1, .string d2, .slice d3 d4 d5, .slice d6 d7 d8], rfl, HF.out.2.2.2, HF.out.2.2.1⟩
    rw [results_cell_tmp rfl]
    go_simp
theorem vget_any (v : V) (nm : BL) (S : Nat → Prop) (w : World) (c : List Value) (hv : VAt S w v c) : Calls Tryz.prog 93 #[.agg c.toArray, .string (BA nm)] w (OptV S w (getP v nm)) := by
  cases hp : placeF v nm with
  | none =>
    refine (vget_none v nm S w c hv hp).mono ?_
    intro e w' h
    rw [getP_place v nm hp]
    exact h
  | some k =>
    cases v with
    | obj l =>
      have hl := idxP_lt l nm 0 k hp
      have hk : k < l.length := by omega
      refine (vget_some l nm k hk S w c hv hp).mono ?_
      intro e w' h
      have e1 : getP (.obj l) nm = some l[k].2 := by
        show fieldP l nm = _
        rw [idxP_field l nm 0, show idxP l nm 0 = some k from hp]
        simp [hk]
      rw [e1]
      exact h
    | _ => cases hp
end Go.Proofs.YtccnfnoonpfdfaaGreatDoor
namespace Go.Proofs.YtccnfnoonpfdfaaGreatDoor
open Go.Shelf Go.RowKit Go.Lib
end Go.Proofs.YtccnfnoonpfdfaaGreatDoor
namespace Go.Proofs.YtccnfnoonpfdfaaGreatDoor
open Go.Shelf Go.RowKit Go.Lib
end Go.Proofs.YtccnfnoonpfdfaaGreatDoor
namespace Go.Proofs.YtccnfnoonpfdfaaGreatDoor
open Go.Shelf Go.RowKit Go.Lib
end Go.Proofs.YtccnfnoonpfdfaaGreatDoor
namespace Go.Proofs.YtccnfnoonpfdfaaGreatDoor
open Go.Shelf Go.RowKit Go.Lib
end Go.Proofs.YtccnfnoonpfdfaaGreatDoor
namespace Go.Proofs.YtccnfnoonpfdfaaGreatDoor
open Go.Shelf Go.RowKit Go.Lib
end Go.Proofs.YtccnfnoonpfdfaaGreatDoor
namespace Go.Proofs.YtccnfnoonpfdfaaGreatDoor
open Go.Shelf Go.RowKit Go.Lib
end Go.Proofs.YtccnfnoonpfdfaaGreatDoor
namespace Go.Proofs.YtccnfnoonpfdfaaGreatDoor
open Go.Shelf Go.RowKit Go.Lib
theorem wpList_append_run {P : Program} {ops : Array Oper} {rest : List Oper} {o : Oper} {a : Act} {w : World} {Q : Exit → Act → World → Prop}
    (hg : o.guard = none) (s x : Operand) (t : TypeId) (hop : o.op = Op.call { callee := Callee.builtin Builtin.append, args := #[s, x], argTypes := #[t, t] })
    (v u : Value) (hs : a.eval s = v) (hx : a.eval x = u) (v2 : Value) (w2 : World) (hrun : ∀ ty, (Builtin.append_ #[t, t] ty #[v, u]).run P w = .ok v2 w2)
    (hK : wpList P ops Q rest (a.put o.dst v2) w2) : wpList P ops Q (o :: rest) a w := by
  refine wpList_plain hg fun K hK' => ?_
  unfold Oper.wp
  simp [execOp, hop, resolve, invoke, builtin, hs, hx, hrun, Result.andThen]
  exact hK' _ _ hK
def u8s (l : BL) : List Value := l.map fun b => Value.int .u8 b.toNat
theorem u8s_one {l : BL} : ∀ u ∈ u8s l, u.oneCell' = true := by
  intro u hu
  obtain ⟨x, _, rfl⟩ := List.mem_map.1 hu
  rfl
theorem infoU8 : (Tryz.prog.info? 5).map (fun i => (i.zero, i.size, i.bytes)) = some (some (.int .u8 0), 1, 1) := by kernel_rfl
theorem run_append_zero {b1 : Nat} {w : World} {v1 : Value} {n : Nat} {xs : List Value} {i : TypeInfo} (hi : Tryz.prog.info? 5 = some i) (h1 : w.ownsRow b1 5 1 v1 n xs) (a : Option Addr) (c : Nat) (ty : TypeId) :
    (Builtin.append_ #[22, 22] ty #[v1, .slice a 0 c]).run Tryz.prog w = .ok v1 w := by
  rcases a with _ | a <;> rcases h1.2 with ⟨rfl, rfl⟩ | ⟨g, cap, cur, rfl, _, _, hnc, _⟩
  · simp [Builtin.append_, run_underlying Tryz.underlying22, sizeOf, typeInfo, hi, Builtin.lenOf, Builtin.firstCells]
  · simp [Builtin.append_, run_underlying Tryz.underlying22, sizeOf, typeInfo, hi, Builtin.lenOf, Builtin.firstCells, hnc, storeCells]
  · simp [Builtin.append_, run_underlying Tryz.underlying22, sizeOf, typeInfo, hi, Builtin.lenOf, Builtin.firstCells, loadCells, loadCellsFrom]
  · simp [Builtin.append_, run_underlying Tryz.underlying22, sizeOf, typeInfo, hi, Builtin.lenOf, Builtin.firstCells, hnc, storeCells, loadCells, loadCellsFrom]
/-- append of bytes that are read, to a row of the call's own. -/
theorem run_append_bytes {b1 : Nat} {w : World} {v1 U : Value} {l1 l2 : BL} (h1 : w.ownsRow b1 5 1 v1 l1.length (u8s l1))
    (hU : (l2 = [] ∧ ∃ a c, U = .slice a 0 c) ∨ ∃ b off c, U = .slice (some ⟨b, off, none⟩) l2.length c ∧ ∀ i u, l2[i]? = some u → w.cell? ⟨b, off + i, none⟩ = some (.int .u8 u.toNat))
    (hb : b1 ≤ w.heap.size) (hl : l1.length + l2.length ≤ 4000000) :
    ∃ v w', (∀ ty, (Builtin.append_ #[22, 22] ty #[v1, U]).run Tryz.prog w = .ok v w') ∧ w'.ownsRow b1 5 1 v (l1 ++ l2).length (u8s (l1 ++ l2)) ∧ w.grownBy w' v1.ownBlock ∧ (v.ownBlock = v1.ownBlock ∨ v.ownBlock = some w.heap.size) := by
  obtain ⟨i, hi, hii⟩ := Option.map_eq_some_iff.1 infoU8
  simp only [Prod.mk.injEq] at hii
  obtain ⟨i1, i2, i3⟩ := hii
  rcases hU with ⟨rfl, a, c, rfl⟩ | ⟨b, off, c, rfl, hc⟩
  · refine ⟨v1, w, fun ty => run_append_zero hi h1 a c ty, by simpa using h1, ⟨rfl, rfl, rfl, Nat.le_refl _, fun _ _ _ => rfl⟩, .inl rfl⟩
  · have key := fun ty => run_append_own_at (P := Tryz.prog) w b1 22 ty 5 i (.int .u8 0) 1 1 Tryz.underlying22 hi i1 i2 i3 rfl (by decide) v1 l1.length (u8s l1) h1
      ⟨b, off, none⟩ l2.length c (u8s l2) (by simp [u8s]) (fun j u hu => by
        unfold u8s at hu
        rw [List.getElem?_map] at hu
        obtain ⟨x, hx, rfl⟩ := Option.map_eq_some_iff.1 hu
        have e : (⟨b, off, none⟩ : Addr).add j = ⟨b, off + j, none⟩ := by unfold Addr.add; split <;> simp_all
        rw [e]
        exact hc j x hx) u8s_one (by unfold maxLen; omega) (by omega) hb
    obtain ⟨v, w', hr, ho, hg, _, hat⟩ := key 0
    refine ⟨v, w', fun ty => hr, ?_, hg, hat⟩
    rw [List.length_append, show u8s (l1 ++ l2) = u8s l1 ++ u8s l2 by simp [u8s]]; exact ho
/-- what Doc's value is made of. -/
def maskL (l : BL) : BL := UInt8.ofNat (5 + 6 * ((l.head?.getD 0).toNat % 16)) :: (l.take 60).drop 1
def docL (l : BL) : V := (madeL 3 (maskL l)).1
theorem bread_of_own {w : World} {B : Nat} {v : Value} {l : BL} (h : w.ownsRow B 5 1 v l.length (u8s l)) (hp : l.length ≤ 1000000) : BRead w.heap.size w v l := by
  rcases ownsRow_cases h with ⟨rfl, h0, hx⟩ | ⟨g, cap, rfl⟩
  · have : l = [] := List.eq_nil_of_length_eq_zero h0
    subst this
    exact BRead.nil _ _
  · have hc := h.cells rfl
    have hcap : l.length ≤ cap := by
      rcases h.2 with ⟨h1, _⟩ | ⟨g2, c2, cur, h1, _, _, h2, _⟩
      · cases h1
      · injection h1 with _ _ h3; rw [h3]; exact h2
    have hh : ∀ i u, l[i]? = some u → w.cell? ⟨g, 0 + i, none⟩ = some (.int .u8 u.toNat) := fun i u hu => by
      have := hc i (.int .u8 u.toNat) (by unfold u8s; rw [List.getElem?_map, hu]; rfl)
      rw [add_at] at this
      rw [Nat.zero_add]
      exact this
    refine ⟨by omega, some ⟨g, 0, none⟩, cap, rfl, hcap, fun hl => ⟨g, 0, rfl, ?_, hh⟩⟩
    exact World.block_lt_of_cell? w _ (hh 0 l[0] (List.getElem?_eq_getElem hl))
set_option maxHeartbeats 8000000 in
set_option maxRecDepth 100000 in
theorem doc_nil (w : World) (hW : Words w) (cap : Nat) :
    Calls Tryz.prog 21 #[.slice none 0 cap] w fun e w' => ∃ c, e = .returned (.agg c.toArray) ∧ VNew w w' (madeL 3 [5]).1 c ∧ Below w.heap.size w w' := by
  obtain ⟨W0, hW0⟩ : ∃ W0, w.alloc (.cells #[.int .i64 0, .int .i64 0, .string ⟨#[]⟩, .slice none 0 0, .slice none 0 0] 28) = W0 := ⟨_, rfl⟩
  obtain ⟨P, hP⟩ : ∃ P, w.heap.size = P := ⟨_, rfl⟩
  have hb0 : Below w.heap.size w W0 := by rw [← hW0]; exact (Below.refl _ w).alloc (Nat.le_refl _) _
  have hk0 : Blk W0 P 28 [.int .i64 0, .int .i64 0, .string ⟨#[]⟩, .slice none 0 0, .slice none 0 0] := by rw [← hW0, ← hP]; exact heap_alloc_new w _
  obtain ⟨w4, hW1⟩ : ∃ W, W0.alloc (.cells #[.int .u8 5] 5) = W := ⟨_, rfl⟩
  have hP1 : W0.heap.size = P + 1 := by rw [← hW0, ← hP]; simp
  have hb1 : Below W0.heap.size W0 w4 := by rw [← hW1]; exact (Below.refl _ W0).alloc (Nat.le_refl _) _
  have hk1 : Blk w4 (P + 1) 5 (u8s [5]) := by rw [← hW1, ← hP1]; exact heap_alloc_new W0 _
  have hown : w4.ownsRow (P + 1) 5 1 (.slice (some ⟨P + 1, 0, none⟩) 1 1) ([5] : BL).length (u8s [5]) := ⟨rfl, .inr ⟨P + 1, 1, #[.int .u8 5], rfl, Nat.le_refl _, hk1, by simp, by unfold maxLen; omega, rfl, rfl⟩⟩
  have hb4 := hb0.trans (hb1.mono hb0.size)
  have hkP4 : Blk w4 P 28 [.int .i64 0, .int .i64 0, .string ⟨#[]⟩, .slice none 0 0, .slice none 0 0] := hk0.below hb1
  have hmade := made_any w4.heap.size 3 (by omega) w4 (.slice (some ⟨P + 1, 0, none⟩) 1 1) [5] (Nat.le_refl _) (bread_of_own hown (by simp)) (hW.later hb4)
  have H := Lib.hid (And.intro hW0 (And.intro hP (And.intro hb0 (And.intro hk0 (And.intro hW1 hP1)))))
  have H4 := Lib.hid (And.intro hb4 hkP4)
  have hm1 : min (0 : Int) 1 = 0 := rfl
  have hm2 : min (0 : Int) 60 = 0 := rfl
  clear hW0 hP hb0 hk0 hW1 hP1 hb1 hk1 hown hb4 hkP4 hW
  go_enter Tryz.func21, Tryz.ntmps21
  go_wp2_with fail
  rw [H.out.1, H.out.2.1]
  go_wp2_with fail
  rw [H.out.2.2.2.2.1]
  unfold MadeC at hmade
  have HM := Lib.hid hmade
  clear hmade
  refine (show Calls _ _ _ _ _ from HM.out).mono ?_
  rintro e w2 ⟨qc, rv, rfl, hx, hrv, hbel⟩
  obtain ⟨q0, q1, q2, q3, q4, q5, q6, q7, q8, rfl⟩ := VAt.shape hx
  obtain ⟨ra, rc, rfl⟩ : ∃ a b, rv = .slice a (madeL 3 ([5])).2.length b := by obtain ⟨_, a, b, e, _⟩ := hrv; exact ⟨a, b, e⟩
  obtain ⟨W3, hW3⟩ : ∃ W3, w2.alloc (.cells #[.int .i64 q0, .int .i64 q1, .string q2, .slice q3 q4 q5, .slice q6 q7 q8] 28) = W3 := ⟨_, rfl⟩
  have hb3 : Below w2.heap.size w2 W3 := by rw [← hW3]; exact (Below.refl _ w2).alloc (Nat.le_refl _) _
  have hk3 : Blk W3 w2.heap.size 28 [.int .i64 q0, .int .i64 q1, .string q2, .slice q3 q4 q5, .slice q6 q7 q8] := by rw [← hW3]; exact heap_alloc_new w2 _
  have hkP : Blk W3 P 28 [.int .i64 0, .int .i64 0, .string ⟨#[]⟩, .slice none 0 0, .slice none 0 0] := (H4.out.2.below hbel).below hb3
  have hP0 : P < w4.heap.size := H4.out.2.lt
  have hsz2 := hbel.size
  obtain ⟨W5, hW5⟩ : ∃ W5, (((((W3.setCell ⟨P, 0, none⟩ (.int .i64 q0)).setCell ⟨P, 1, none⟩ (.int .i64 q1)).setCell ⟨P, 2, none⟩ (.string q2)).setCell ⟨P, 3, none⟩ (.slice q3 q4 q5)).setCell ⟨P, 4, none⟩ (.slice q6 q7 q8)) = W5 := ⟨_, rfl⟩
  obtain ⟨hR5, ho5⟩ := five_set hkP hW5
  have hbb3 : Below w.heap.size w W3 := (H4.out.1.trans (hbel.mono H4.out.1.size)).trans (hb3.mono (by have := H4.out.1.size; omega))
  have hbb5 : Below w.heap.size w W5 := hbb3.trans (ho5.below hbb3.size (fun k hk e => by have := H.out.2.1; omega))
  have hvn : VNew w W5 (madeL 3 ([5])).1 [.int .i64 q0, .int .i64 q1, .string q2, .slice q3 q4 q5, .slice q6 q7 q8] :=
    VAt.keep (S := fun b => w4.heap.size ≤ b ∧ b < w2.heap.size) (fun b hb => ⟨by have := H4.out.1.size; omega, by have := hb3.size; have := ho5.size; omega⟩) (fun b hb k u hu => ho5.cell (by show ¬ b = P; omega) (bcell hb3 hu)) hx
  have HF := Lib.hid (And.intro hW3 (And.intro hW5 (And.intro hR5 (And.intro hvn hbb5))))
  have v0 := hk3.cell 0
  have v1 := hk3.cell 1
  have v2 := hk3.cell 2
  have v3 := hk3.cell 3
  have v4 := hk3.cell 4
  have r0 := hkP.cell 0
  have r1 := hkP.cell 1
  have r2 := hkP.cell 2
  have r3 := hkP.cell 3
  have r4 := hkP.cell 4
  have s0 := hkP.frozen 0
  have s1 := hkP.frozen 1
  have s2 := hkP.frozen 2
  have s3 := hkP.frozen 3
  have s4 := hkP.frozen 4
  clear hW5 hR5 hvn hbb5 ho5 hbb3 hkP hk3 hb3 hsz2 hP0 hx hrv hbel
  go_wp2
  rw [HF.out.2.1]
  (try simp only [Exit.inBlock, Exit.then])
  refine bodyPost_ret (v := .agg #[.int .i64 q0, .int .i64 q1, .string q2, .slice q3 q4 q5, .slice q6 q7 q8]) ?_ rfl ⟨[.int .i64 q0, .int .i64 q1, .string q2, .slice q3 q4 q5, .slice q6 q7 q8], rfl, HF.out.2.2.2.1, HF.out.2.2.2.2⟩
  exact results_cell_row rfl _ W5 P 28 _ (0, 0) _ rfl HF.out.2.2.1 Tryz.underlying28 rfl (by kernel_rfl)
set_option maxHeartbeats 8000000 in
set_option maxRecDepth 100000 in
theorem doc_zero (w : World) (hW : Words w) (A : Addr) (cap : Nat) :
    Calls Tryz.prog 21 #[.slice (some A) 0 cap] w fun e w' => ∃ c, e = .returned (.agg c.toArray) ∧ VNew w w' (madeL 3 [5]).1 c ∧ Below w.heap.size w w' := by
  obtain ⟨W0, hW0⟩ : ∃ W0, w.alloc (.cells #[.int .i64 0, .int .i64 0, .string ⟨#[]⟩, .slice none 0 0, .slice none 0 0] 28) = W0 := ⟨_, rfl⟩
  obtain ⟨P, hP⟩ : ∃ P, w.heap.size = P := ⟨_, rfl⟩
  have hb0 : Below w.heap.size w W0 := by rw [← hW0]; exact (Below.refl _ w).alloc (Nat.le_refl _) _
  have hk0 : Blk W0 P 28 [.int .i64 0, .int .i64 0, .string ⟨#[]⟩, .slice none 0 0, .slice none 0 0] := by rw [← hW0, ← hP]; exact heap_alloc_new w _
  obtain ⟨w4, hW1⟩ : ∃ W, W0.alloc (.cells #[.int .u8 5] 5) = W := ⟨_, rfl⟩
  have hP1 : W0.heap.size = P + 1 := by rw [← hW0, ← hP]; simp
  have hb1 : Below W0.heap.size W0 w4 := by rw [← hW1]; exact (Below.refl _ W0).alloc (Nat.le_refl _) _
  have hk1 : Blk w4 (P + 1) 5 (u8s [5]) := by rw [← hW1, ← hP1]; exact heap_alloc_new W0 _
  have hown : w4.ownsRow (P + 1) 5 1 (.slice (some ⟨P + 1, 0, none⟩) 1 1) ([5] : BL).length (u8s [5]) := ⟨rfl, .inr ⟨P + 1, 1, #[.int .u8 5], rfl, Nat.le_refl _, hk1, by simp, by unfold maxLen; omega, rfl, rfl⟩⟩
  have hb4 := hb0.trans (hb1.mono hb0.size)
  have hkP4 : Blk w4 P 28 [.int .i64 0, .int .i64 0, .string ⟨#[]⟩, .slice none 0 0, .slice none 0 0] := hk0.below hb1
  have hmade := made_any w4.heap.size 3 (by omega) w4 (.slice (some ⟨P + 1, 0, none⟩) 1 1) [5] (Nat.le_refl _) (bread_of_own hown (by simp)) (hW.later hb4)
  have H := Lib.hid (And.intro hW0 (And.intro hP (And.intro hb0 (And.intro hk0 (And.intro hW1 hP1)))))
  have H4 := Lib.hid (And.intro hb4 hkP4)
  have hm1 : min (0 : Int) 1 = 0 := rfl
  have hm2 : min (0 : Int) 60 = 0 := rfl
  clear hW0 hP hb0 hk0 hW1 hP1 hb1 hk1 hown hb4 hkP4 hW
  go_enter Tryz.func21, Tryz.ntmps21
  go_wp2_with fail
  rw [H.out.1, H.out.2.1]
  go_wp2_with fail
  rw [H.out.2.2.2.2.1]
  unfold MadeC at hmade
  have HM := Lib.hid hmade
  clear hmade
  refine (show Calls _ _ _ _ _ from HM.out).mono ?_
  rintro e w2 ⟨qc, rv, rfl, hx, hrv, hbel⟩
  obtain ⟨q0, q1, q2, q3, q4, q5, q6, q7, q8, rfl⟩ := VAt.shape hx
  obtain ⟨ra, rc, rfl⟩ : ∃ a b, rv = .slice a (madeL 3 ([5])).2.length b := by obtain ⟨_, a, b, e, _⟩ := hrv; exact ⟨a, b, e⟩
  obtain ⟨W3, hW3⟩ : ∃ W3, w2.alloc (.cells #[.int .i64 q0, .int .i64 q1, .string q2, .slice q3 q4 q5, .slice q6 q7 q8] 28) = W3 := ⟨_, rfl⟩
  have hb3 : Below w2.heap.size w2 W3 := by rw [← hW3]; exact (Below.refl _ w2).alloc (Nat.le_refl _) _
  have hk3 : Blk W3 w2.heap.size 28 [.int .i64 q0, .int .i64 q1, .string q2, .slice q3 q4 q5, .slice q6 q7 q8] := by rw [← hW3]; exact heap_alloc_new w2 _
  have hkP : Blk W3 P 28 [.int .i64 0, .int .i64 0, .string ⟨#[]⟩, .slice none 0 0, .slice none 0 0] := (H4.out.2.below hbel).below hb3
  have hP0 : P < w4.heap.size := H4.out.2.lt
  have hsz2 := hbel.size
  obtain ⟨W5, hW5⟩ : ∃ W5, (((((W3.setCell ⟨P, 0, none⟩ (.int .i64 q0)).setCell ⟨P, 1, none⟩ (.int .i64 q1)).setCell ⟨P, 2, none⟩ (.string q2)).setCell ⟨P, 3, none⟩ (.slice q3 q4 q5)).setCell ⟨P, 4, none⟩ (.slice q6 q7 q8)) = W5 := ⟨_, rfl⟩
  obtain ⟨hR5, ho5⟩ := five_set hkP hW5
  have hbb3 : Below w.heap.size w W3 := (H4.out.1.trans (hbel.mono H4.out.1.size)).trans (hb3.mono (by have := H4.out.1.size; omega))
  have hbb5 : Below w.heap.size w W5 := hbb3.trans (ho5.below hbb3.size (fun k hk e => by have := H.out.2.1; omega))
  have hvn : VNew w W5 (madeL 3 ([5])).1 [.int .i64 q0, .int .i64 q1, .string q2, .slice q3 q4 q5, .slice q6 q7 q8] :=
    VAt.keep (S := fun b => w4.heap.size ≤ b ∧ b < w2.heap.size) (fun b hb => ⟨by have := H4.out.1.size; omega, by have := hb3.size; have := ho5.size; omega⟩) (fun b hb k u hu => ho5.cell (by show ¬ b = P; omega) (bcell hb3 hu)) hx
  have HF := Lib.hid (And.intro hW3 (And.intro hW5 (And.intro hR5 (And.intro hvn hbb5))))
  have v0 := hk3.cell 0
  have v1 := hk3.cell 1
  have v2 := hk3.cell 2
  have v3 := hk3.cell 3
  have v4 := hk3.cell 4
  have r0 := hkP.cell 0
  have r1 := hkP.cell 1
  have r2 := hkP.cell 2
  have r3 := hkP.cell 3
  have r4 := hkP.cell 4
  have s0 := hkP.frozen 0
  have s1 := hkP.frozen 1
  have s2 := hkP.frozen 2
  have s3 := hkP.frozen 3
  have s4 := hkP.frozen 4
  clear hW5 hR5 hvn hbb5 ho5 hbb3 hkP hk3 hb3 hsz2 hP0 hx hrv hbel
  go_wp2
  rw [HF.out.2.1]
  (try simp only [Exit.inBlock, Exit.then])
  refine bodyPost_ret (v := .agg #[.int .i64 q0, .int .i64 q1, .string q2, .slice q3 q4 q5, .slice q6 q7 q8]) ?_ rfl ⟨[.int .i64 q0, .int .i64 q1, .string q2, .slice q3 q4 q5, .slice q6 q7 q8], rfl, HF.out.2.2.2.1, HF.out.2.2.2.2⟩
  exact results_cell_row rfl _ W5 P 28 _ (0, 0) _ rfl HF.out.2.2.1 Tryz.underlying28 rfl (by kernel_rfl)
set_option maxHeartbeats 8000000 in
set_option maxRecDepth 100000 in
theorem doc_one (nb : Nat) (w : World) (_hnb : nb ≤ w.heap.size) (hW : Words w) (b off n cap : Nat) (l : BL) (c0 : UInt8) (hl : l.length = n) (h0 : l[0]? = some c0) (hnc : n ≤ cap) (hmx : n ≤ 9223372036854775807) (_hb : b < nb)
    (hr : ∀ i u, l[i]? = some u → w.cell? ⟨b, off + i, none⟩ = some (.int .u8 u.toNat)) (hc1 : cap = 1) (x : UInt8) (hx : (x.toNat : Int) = 5 + 6 * ((c0.toNat : Int) % 16)) :
    Calls Tryz.prog 21 #[.slice (some ⟨b, off, none⟩) n cap] w fun e w' => ∃ c, e = .returned (.agg c.toArray) ∧ VNew w w' (madeL 3 [x]).1 c ∧ Below w.heap.size w w' := by
  obtain ⟨W0, hW0⟩ : ∃ W0, w.alloc (.cells #[.int .i64 0, .int .i64 0, .string ⟨#[]⟩, .slice none 0 0, .slice none 0 0] 28) = W0 := ⟨_, rfl⟩
  obtain ⟨P, hP⟩ : ∃ P, w.heap.size = P := ⟨_, rfl⟩
  have hb0 : Below w.heap.size w W0 := by rw [← hW0]; exact (Below.refl _ w).alloc (Nat.le_refl _) _
  have hk0 : Blk W0 P 28 [.int .i64 0, .int .i64 0, .string ⟨#[]⟩, .slice none 0 0, .slice none 0 0] := by rw [← hW0, ← hP]; exact heap_alloc_new w _
  have hn1 : 1 ≤ n := by
    cases l with
    | nil => simp at h0
    | cons => simp at hl; omega
  have hc0 := hr 0 c0 h0
  rw [Nat.add_zero] at hc0
  have h0a : (w.alloc (.cells #[.int .i64 0, .int .i64 0, .string ⟨#[]⟩, .slice none 0 0, .slice none 0 0] 28)).cell? ⟨b, off, none⟩ = some (.int .u8 c0.toNat) := by rw [hW0]; exact bcell hb0 hc0
  obtain rfl : n = 1 := by omega
  subst hc1
  obtain ⟨w4, hW1⟩ : ∃ W, W0.alloc (.cells #[.int .u8 (x.toNat : Int)] 5) = W := ⟨_, rfl⟩
  have hP1 : W0.heap.size = P + 1 := by rw [← hW0, ← hP]; simp
  have hb1 : Below W0.heap.size W0 w4 := by rw [← hW1]; exact (Below.refl _ W0).alloc (Nat.le_refl _) _
  have hk1 : Blk w4 (P + 1) 5 (u8s [x]) := by rw [← hW1, ← hP1]; exact heap_alloc_new W0 _
  have hown : w4.ownsRow (P + 1) 5 1 (.slice (some ⟨P + 1, 0, none⟩) 1 1) ([x] : BL).length (u8s [x]) := ⟨rfl, .inr ⟨P + 1, 1, #[.int .u8 (x.toNat : Int)], rfl, Nat.le_refl _, hk1, by simp, by unfold maxLen; omega, rfl, rfl⟩⟩
  have hb4 := hb0.trans (hb1.mono hb0.size)
  have hkP4 : Blk w4 P 28 [.int .i64 0, .int .i64 0, .string ⟨#[]⟩, .slice none 0 0, .slice none 0 0] := hk0.below hb1
  have hmade := made_any w4.heap.size 3 (by omega) w4 (.slice (some ⟨P + 1, 0, none⟩) 1 1) [x] (Nat.le_refl _) (bread_of_own hown (by simp)) (hW.later hb4)
  have H := Lib.hid (And.intro hW0 (And.intro hP (And.intro hb0 (And.intro hk0 (And.intro hW1 hP1)))))
  have H4 := Lib.hid (And.intro hb4 hkP4)
  have hm1 : min (1 : Int) 1 = 1 := rfl
  have hm2 : min (1 : Int) 60 = 1 := rfl
  clear hW0 hP hb0 hk0 hW1 hP1 hb1 hk1 hown hb4 hkP4 hW hr h0 hl
  have HX := Lib.hid hx
  clear hx hc0
  go_enter Tryz.func21, Tryz.ntmps21
  go_wp2_with fail
  rw [H.out.1, H.out.2.1, ← HX.out, H.out.2.2.2.2.1]
  unfold MadeC at hmade
  have HM := Lib.hid hmade
  clear hmade
  refine (show Calls _ _ _ _ _ from HM.out).mono ?_
  rintro e w2 ⟨qc, rv, rfl, hx, hrv, hbel⟩
  obtain ⟨q0, q1, q2, q3, q4, q5, q6, q7, q8, rfl⟩ := VAt.shape hx
  obtain ⟨ra, rc, rfl⟩ : ∃ a b, rv = .slice a (madeL 3 ([x])).2.length b := by obtain ⟨_, a, b, e, _⟩ := hrv; exact ⟨a, b, e⟩
  obtain ⟨W3, hW3⟩ : ∃ W3, w2.alloc (.cells #[.int .i64 q0, .int .i64 q1, .string q2, .slice q3 q4 q5, .slice q6 q7 q8] 28) = W3 := ⟨_, rfl⟩
  have hb3 : Below w2.heap.size w2 W3 := by rw [← hW3]; exact (Below.refl _ w2).alloc (Nat.le_refl _) _
  have hk3 : Blk W3 w2.heap.size 28 [.int .i64 q0, .int .i64 q1, .string q2, .slice q3 q4 q5, .slice q6 q7 q8] := by rw [← hW3]; exact heap_alloc_new w2 _
  have hkP : Blk W3 P 28 [.int .i64 0, .int .i64 0, .string ⟨#[]⟩, .slice none 0 0, .slice none 0 0] := (H4.out.2.below hbel).below hb3
  have hP0 : P < w4.heap.size := H4.out.2.lt
  have hsz2 := hbel.size
  obtain ⟨W5, hW5⟩ : ∃ W5, (((((W3.setCell ⟨P, 0, none⟩ (.int .i64 q0)).setCell ⟨P, 1, none⟩ (.int .i64 q1)).setCell ⟨P, 2, none⟩ (.string q2)).setCell ⟨P, 3, none⟩ (.slice q3 q4 q5)).setCell ⟨P, 4, none⟩ (.slice q6 q7 q8)) = W5 := ⟨_, rfl⟩
  obtain ⟨hR5, ho5⟩ := five_set hkP hW5
  have hbb3 : Below w.heap.size w W3 := (H4.out.1.trans (hbel.mono H4.out.1.size)).trans (hb3.mono (by have := H4.out.1.size; omega))
  have hbb5 : Below w.heap.size w W5 := hbb3.trans (ho5.below hbb3.size (fun k hk e => by have := H.out.2.1; omega))
  have hvn : VNew w W5 (madeL 3 ([x])).1 [.int .i64 q0, .int .i64 q1, .string q2, .slice q3 q4 q5, .slice q6 q7 q8] :=
    VAt.keep (S := fun b => w4.heap.size ≤ b ∧ b < w2.heap.size) (fun b hb => ⟨by have := H4.out.1.size; omega, by have := hb3.size; have := ho5.size; omega⟩) (fun b hb k u hu => ho5.cell (by show ¬ b = P; omega) (bcell hb3 hu)) hx
  have HF := Lib.hid (And.intro hW3 (And.intro hW5 (And.intro hR5 (And.intro hvn hbb5))))
  have v0 := hk3.cell 0
  have v1 := hk3.cell 1
  have v2 := hk3.cell 2
  have v3 := hk3.cell 3
  have v4 := hk3.cell 4
  have r0 := hkP.cell 0
  have r1 := hkP.cell 1
  have r2 := hkP.cell 2
  have r3 := hkP.cell 3
  have r4 := hkP.cell 4
  have s0 := hkP.frozen 0
  have s1 := hkP.frozen 1
  have s2 := hkP.frozen 2
  have s3 := hkP.frozen 3
  have s4 := hkP.frozen 4
  clear hW5 hR5 hvn hbb5 ho5 hbb3 hkP hk3 hb3 hsz2 hP0 hx hrv hbel
  go_wp2
  rw [HF.out.2.1]
  (try simp only [Exit.inBlock, Exit.then])
  refine bodyPost_ret (v := .agg #[.int .i64 q0, .int .i64 q1, .string q2, .slice q3 q4 q5, .slice q6 q7 q8]) ?_ rfl ⟨[.int .i64 q0, .int .i64 q1, .string q2, .slice q3 q4 q5, .slice q6 q7 q8], rfl, HF.out.2.2.2.1, HF.out.2.2.2.2⟩
  exact results_cell_row rfl _ W5 P 28 _ (0, 0) _ rfl HF.out.2.2.1 Tryz.underlying28 rfl (by kernel_rfl)
set_option maxHeartbeats 8000000 in
set_option maxRecDepth 100000 in
theorem doc_more (nb : Nat) (w : World) (_hnb : nb ≤ w.heap.size) (hW : Words w) (b off n cap : Nat) (l : BL) (c0 : UInt8) (hl : l.length = n) (h0 : l[0]? = some c0) (hnc : n ≤ cap) (hmx : n ≤ 9223372036854775807) (_hb : b < nb)
    (hr : ∀ i u, l[i]? = some u → w.cell? ⟨b, off + i, none⟩ = some (.int .u8 u.toNat)) (hc1 : ¬ cap = 1) (x : UInt8) (hx : (x.toNat : Int) = 5 + 6 * ((c0.toNat : Int) % 16)) :
    Calls Tryz.prog 21 #[.slice (some ⟨b, off, none⟩) n cap] w fun e w' => ∃ c, e = .returned (.agg c.toArray) ∧ VNew w w' (madeL 3 (x :: (l.take 60).drop 1)).1 c ∧ Below w.heap.size w w' := by
  obtain ⟨W0, hW0⟩ : ∃ W0, w.alloc (.cells #[.int .i64 0, .int .i64 0, .string ⟨#[]⟩, .slice none 0 0, .slice none 0 0] 28) = W0 := ⟨_, rfl⟩
  obtain ⟨P, hP⟩ : ∃ P, w.heap.size = P := ⟨_, rfl⟩
  have hb0 : Below w.heap.size w W0 := by rw [← hW0]; exact (Below.refl _ w).alloc (Nat.le_refl _) _
  have hk0 : Blk W0 P 28 [.int .i64 0, .int .i64 0, .string ⟨#[]⟩, .slice none 0 0, .slice none 0 0] := by rw [← hW0, ← hP]; exact heap_alloc_new w _
  have hn1 : 1 ≤ n := by
    cases l with
    | nil => simp at h0
    | cons => simp at hl; omega
  have hc0 := hr 0 c0 h0
  rw [Nat.add_zero] at hc0
  have h0a : (w.alloc (.cells #[.int .i64 0, .int .i64 0, .string ⟨#[]⟩, .slice none 0 0, .slice none 0 0] 28)).cell? ⟨b, off, none⟩ = some (.int .u8 c0.toNat) := by rw [hW0]; exact bcell hb0 hc0
  obtain ⟨W1, hW1⟩ : ∃ W, W0.alloc (.cells #[.int .u8 (x.toNat : Int)] 5) = W := ⟨_, rfl⟩
  have hP1 : W0.heap.size = P + 1 := by rw [← hW0, ← hP]; simp
  have hb1 : Below W0.heap.size W0 W1 := by rw [← hW1]; exact (Below.refl _ W0).alloc (Nat.le_refl _) _
  have hk1 : Blk W1 (P + 1) 5 (u8s [x]) := by rw [← hW1, ← hP1]; exact heap_alloc_new W0 _
  have hown : W1.ownsRow (P + 1) 5 1 (.slice (some ⟨P + 1, 0, none⟩) 1 1) ([x] : BL).length (u8s [x]) := ⟨rfl, .inr ⟨P + 1, 1, #[.int .u8 (x.toNat : Int)], rfl, Nat.le_refl _, hk1, by simp, by unfold maxLen; omega, rfl, rfl⟩⟩
  have hbw := hb0.trans (hb1.mono hb0.size)
  have hll : ((l.take 60).drop 1).length = min n 60 - 1 := by rw [List.length_drop, List.length_take]; omega
  obtain ⟨v4, w4, hrun, ho4, hg4, hat4⟩ := run_append_bytes (b1 := P + 1) (l2 := (l.take 60).drop 1) (U := .slice (some ⟨b, off + 1, none⟩) ((l.take 60).drop 1).length (cap - 1)) hown
    (.inr ⟨b, off + 1, cap - 1, rfl, fun i u hu => by
      have h1 : l[i + 1]? = some u := by
        rw [List.getElem?_drop, List.getElem?_take] at hu
        split at hu
        · rw [Nat.add_comm i 1]; exact hu
        · cases hu
      rw [show off + 1 + i = off + (i + 1) by omega]
      exact bcell hbw (hr _ _ h1)⟩) (by have := hk1.lt; omega) (by rw [hll]; simp; omega)
  obtain ⟨k, hk⟩ : ∃ k, min n 60 = k := ⟨_, rfl⟩
  rw [hk] at hll
  rw [hll] at hrun
  have hrun0 : ∀ ty, (Builtin.append_ #[22, 22] ty #[.slice (some ⟨w.heap.size + 1, 0, none⟩) 1 1, .slice (some ⟨b, off + 1, none⟩) (k - 1) (cap - 1)]).run Tryz.prog ((w.alloc (.cells #[.int .i64 0, .int .i64 0, .string ⟨#[]⟩, .slice none 0 0, .slice none 0 0] 28)).alloc (.cells #[.int .u8 (5 + 6 * ((c0.toNat : Int) % 16))] 5)) = .ok v4 w4 := by rw [hW0, hP, ← hx, hW1]; exact hrun
  have ho := Only.ofGrown (S := fun k => k = P + 1) hg4 (fun k hk => (Option.some.inj (show some (P + 1) = some k from hk)).symm)
  have hb4 : Below w.heap.size w w4 := hbw.trans (ho.below hbw.size (fun k hk e => by omega))
  have hkP4 : Blk w4 P 28 [.int .i64 0, .int .i64 0, .string ⟨#[]⟩, .slice none 0 0, .slice none 0 0] := (hk0.below hb1).only ho (by omega)
  have hmade := made_any w4.heap.size 3 (by omega) w4 v4 (x :: (l.take 60).drop 1) (Nat.le_refl _) (bread_of_own ho4 (by simp; omega)) (hW.later hb4)
  have H := Lib.hid (And.intro hW0 (And.intro hP (And.intro hb0 (And.intro hk0 (And.intro hW1 hP1)))))
  have H4 := Lib.hid (And.intro hb4 hkP4)
  have HA := Lib.hid hrun0
  have hm1 : min (n : Int) 1 = 1 := by omega
  have hm2 : min (n : Int) 60 = (k : Int) := by omega
  have hk1 : 1 ≤ k := by omega
  have hkn : k ≤ n := by omega
  have hkc : k ≤ cap := by omega
  have hkz1 : (1 : Int) ≤ (k : Int) := by omega
  have hkz2 : (k : Int) ≤ (cap : Int) := by omega
  have hnz : (0 : Int) < (n : Int) := by omega
  have hnn : 0 < n := by omega
  clear hW0 hP hb0 hk0 hW1 hP1 hb1 hown hb4 hkP4 hW hr h0 hl hrun hrun0 ho4 hg4 hat4 ho hbw hll hk
  have HX := Lib.hid hx
  clear hx hc0
  go_enter Tryz.func21, Tryz.ntmps21
  go_wp2_with (at_builtin; refine wpList_append_run rfl (.tmp 17) (.tmp 25) 22 rfl (.slice (some ⟨w.heap.size + 1, 0, none⟩) 1 1) (.slice (some ⟨b, off + 1, none⟩) (k - 1) (cap - 1)) rfl rfl v4 w4 HA.out ?_)
  rw [H.out.2.1]
  unfold MadeC at hmade
  have HM := Lib.hid hmade
  clear hmade
  refine (show Calls _ _ _ _ _ from HM.out).mono ?_
  rintro e w2 ⟨qc, rv, rfl, hx, hrv, hbel⟩
  obtain ⟨q0, q1, q2, q3, q4, q5, q6, q7, q8, rfl⟩ := VAt.shape hx
  obtain ⟨ra, rc, rfl⟩ : ∃ a b, rv = .slice a (madeL 3 ((x :: (l.take 60).drop 1))).2.length b := by obtain ⟨_, a, b, e, _⟩ := hrv; exact ⟨a, b, e⟩
  obtain ⟨W3, hW3⟩ : ∃ W3, w2.alloc (.cells #[.int .i64 q0, .int .i64 q1, .string q2, .slice q3 q4 q5, .slice q6 q7 q8] 28) = W3 := ⟨_, rfl⟩
  have hb3 : Below w2.heap.size w2 W3 := by rw [← hW3]; exact (Below.refl _ w2).alloc (Nat.le_refl _) _
  have hk3 : Blk W3 w2.heap.size 28 [.int .i64 q0, .int .i64 q1, .string q2, .slice q3 q4 q5, .slice q6 q7 q8] := by rw [← hW3]; exact heap_alloc_new w2 _
  have hkP : Blk W3 P 28 [.int .i64 0, .int .i64 0, .string ⟨#[]⟩, .slice none 0 0, .slice none 0 0] := (H4.out.2.below hbel).below hb3
  have hP0 : P < w4.heap.size := H4.out.2.lt
  have hsz2 := hbel.size
  obtain ⟨W5, hW5⟩ : ∃ W5, (((((W3.setCell ⟨P, 0, none⟩ (.int .i64 q0)).setCell ⟨P, 1, none⟩ (.int .i64 q1)).setCell ⟨P, 2, none⟩ (.string q2)).setCell ⟨P, 3, none⟩ (.slice q3 q4 q5)).setCell ⟨P, 4, none⟩ (.slice q6 q7 q8)) = W5 := ⟨_, rfl⟩
  obtain ⟨hR5, ho5⟩ := five_set hkP hW5
  have hbb3 : Below w.heap.size w W3 := (H4.out.1.trans (hbel.mono H4.out.1.size)).trans (hb3.mono (by have := H4.out.1.size; omega))
  have hbb5 : Below w.heap.size w W5 := hbb3.trans (ho5.below hbb3.size (fun k hk e => by have := H.out.2.1; omega))
  have hvn : VNew w W5 (madeL 3 ((x :: (l.take 60).drop 1))).1 [.int .i64 q0, .int .i64 q1, .string q2, .slice q3 q4 q5, .slice q6 q7 q8] :=
    VAt.keep (S := fun b => w4.heap.size ≤ b ∧ b < w2.heap.size) (fun b hb => ⟨by have := H4.out.1.size; omega, by have := hb3.size; have := ho5.size; omega⟩) (fun b hb k u hu => ho5.cell (by show ¬ b = P; omega) (bcell hb3 hu)) hx
  have HF := Lib.hid (And.intro hW3 (And.intro hW5 (And.intro hR5 (And.intro hvn hbb5))))
  have v0 := hk3.cell 0
  have v1 := hk3.cell 1
  have v2 := hk3.cell 2
  have v3 := hk3.cell 3
  have v4 := hk3.cell 4
  have r0 := hkP.cell 0
  have r1 := hkP.cell 1
  have r2 := hkP.cell 2
  have r3 := hkP.cell 3
  have r4 := hkP.cell 4
  have s0 := hkP.frozen 0
  have s1 := hkP.frozen 1
  have s2 := hkP.frozen 2
  have s3 := hkP.frozen 3
  have s4 := hkP.frozen 4
  clear hW5 hR5 hvn hbb5 ho5 hbb3 hkP hk3 hb3 hsz2 hP0 hx hrv hbel
  go_wp2
  rw [HF.out.2.1]
  (try simp only [Exit.inBlock, Exit.then])
  refine bodyPost_ret (v := .agg #[.int .i64 q0, .int .i64 q1, .string q2, .slice q3 q4 q5, .slice q6 q7 q8]) ?_ rfl ⟨[.int .i64 q0, .int .i64 q1, .string q2, .slice q3 q4 q5, .slice q6 q7 q8], rfl, HF.out.2.2.2.1, HF.out.2.2.2.2⟩
  exact results_cell_row rfl _ W5 P 28 _ (0, 0) _ rfl HF.out.2.2.1 Tryz.underlying28 rfl (by kernel_rfl)
theorem mask_byte (c0 : UInt8) : ((UInt8.ofNat (5 + 6 * (c0.toNat % 16))).toNat : Int) = 5 + 6 * ((c0.toNat : Int) % 16) := by
  rw [UInt8.toNat_ofNat']
  omega
theorem doc_any (nb : Nat) (w : World) (sv : Value) (l : BL) (hnb : nb ≤ w.heap.size) (h : BRead nb w sv l) (hW : Words w) :
    Calls Tryz.prog 21 #[sv] w fun e w' => ∃ c, e = .returned (.agg c.toArray) ∧ VNew w w' (docL l) c ∧ Below w.heap.size w w' := by
  obtain ⟨hm, a, cap, rfl, hcap, hx⟩ := h
  cases l with
  | nil =>
    rw [show docL [] = (madeL 3 [5]).1 from rfl]
    cases a with
    | none => exact doc_nil w hW cap
    | some A => exact doc_zero w hW A cap
  | cons c0 l =>
    obtain ⟨b, off, rfl, hbn, hr⟩ := hx (by simp)
    by_cases hc1 : cap = 1
    · have hl0 : l = [] := List.eq_nil_of_length_eq_zero (by simp at hcap; omega)
      subst hl0
      exact doc_one nb w hnb hW b off _ cap [c0] c0 rfl rfl hcap hm hbn hr hc1 _ (mask_byte c0)
    · exact doc_more nb w hnb hW b off _ cap (c0 :: l) c0 rfl rfl hcap hm hbn hr hc1 _ (mask_byte c0)
end Go.Proofs.YtccnfnoonpfdfaaGreatDoor

