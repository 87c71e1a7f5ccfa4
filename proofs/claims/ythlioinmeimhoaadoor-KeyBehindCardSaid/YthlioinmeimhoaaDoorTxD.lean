/- strings.IndexRune at the five short characters. -/
import Derived.Test.YthlioinmeimhoaaDoorTxC
import Derived.Laws.Runes
import Derived.Laws.Cover4
import Derived.RegionTactic
import Derived.WalkMore
import Derived.Deep.QuietTactic
import Derived.BigQuiet
namespace Go.Proofs.YthlioinmeimhoaaDoor
open Go.Shelf Go.RowKit Go.Lib

theorem decodeL_valid (l : BL) : Lib.validRune ((decodeL l).1 : Int) = true := by
  have hlt := fun b : UInt8 => b.toNat_lt
  rw [decodeL_N]
  unfold Lib.validRune
  refine decide_eq_true ?_
  have h0 := hlt (l.getD 0 0)
  rcases decodeN_shape l.length (l.getD 0 0).toNat (l.getD 1 0).toNat (l.getD 2 0).toNat (l.getD 3 0).toNat with ⟨c, e⟩ | ⟨c1, c2, c3, cv, e⟩ | ⟨c1, c2, c3, c4, cv, cs, e⟩ | ⟨c1, c2, c3, c4, c5, cv, cw, e⟩ | e
  all_goals (rw [e]; dsimp only; omega)

theorem encode_ba (r : Int) : Utf8.encode r = BA (encodeRune r) := by
  unfold Utf8.encode encodeRune encodeRuneZ
  by_cases hv : Utf8.valid r = true
  · have hv2 : (0 ≤ r ∧ r < 55296) ∨ (57344 ≤ r ∧ r ≤ 1114111) := by simpa [Utf8.valid] using hv
    simp only [hv, if_true]
    obtain ⟨n, rfl⟩ : ∃ n : Nat, r = n := ⟨r.toNat, by omega⟩
    simp only [Int.toNat_natCast]
    have key : ∀ (x : Int) (y : Nat), x = y → x.toNat.toUInt8 = UInt8.ofNat y := fun x y h => by rw [h]; rfl
    by_cases c1 : n < 128
    · rw [if_pos c1, if_pos (by omega)]
      rfl
    rw [if_neg c1, if_neg (show ¬ (0 ≤ (n : Int) ∧ (n : Int) ≤ 127) by omega)]
    by_cases c2 : n < 2048
    · rw [if_pos c2, if_pos (by omega)]
      simp only [List.map_cons, List.map_nil]
      rw [key (192 + (n : Int) / 64) (192 + n / 64) (by omega), key (128 + (n : Int) % 64) (128 + n % 64) (by omega)]
    rw [if_neg c2, if_neg (show ¬ (128 ≤ (n : Int) ∧ (n : Int) ≤ 2047) by omega)]
    by_cases c3 : n < 65536
    · rw [if_pos c3, if_pos (by omega)]
      simp only [List.map_cons, List.map_nil]
      rw [key (224 + (n : Int) / 4096) (224 + n / 4096) (by omega), key (128 + (n : Int) / 64 % 64) (128 + n / 64 % 64) (by omega), key (128 + (n : Int) % 64) (128 + n % 64) (by omega)]
    rw [if_neg c3, if_neg (by omega), if_pos (by omega)]
    simp only [List.map_cons, List.map_nil]
    rw [key (240 + (n : Int) / 262144) (240 + n / 262144) (by omega), key (128 + (n : Int) / 4096 % 64) (128 + n / 4096 % 64) (by omega), key (128 + (n : Int) / 64 % 64) (128 + n / 64 % 64) (by omega), key (128 + (n : Int) % 64) (128 + n % 64) (by omega)]
  · have hv2 : ¬ ((0 ≤ r ∧ r < 55296) ∨ (57344 ≤ r ∧ r ≤ 1114111)) := by simpa [Utf8.valid] using hv
    have hf : Utf8.valid r = false := by simpa using hv
    simp only [hf, Bool.false_eq_true, if_false, Utf8.runeError]
    rw [if_neg (show ¬ (0 ≤ r ∧ r ≤ 127) by omega), if_neg (show ¬ (128 ≤ r ∧ r ≤ 2047) by omega), if_neg (show ¬ ((2048 ≤ r ∧ r < 55296) ∨ (57343 < r ∧ r ≤ 65535)) by omega), if_neg (show ¬ (65536 ≤ r ∧ r ≤ 1114111) by omega)]
    rfl

def meantI (r : Nat) : Int := if r = 8 then 0 else if r = 12 then 1 else if r = 10 then 2 else if r = 13 then 3 else if r = 9 then 4 else -1

theorem meant_low (r : Nat) (h : r < 128) : Lib.indexByte [8, 12, 10, 13, 9] ((r : Int).toNat.toUInt8) = meantI r := by
  have key : ∀ k : Fin 128, Lib.indexByte [8, 12, 10, 13, 9] (((k.val : Nat) : Int).toNat.toUInt8) = meantI k.val := by decide +kernel
  exact key ⟨r, h⟩

set_option maxHeartbeats 2000000 in
set_option maxRecDepth 100000 in
theorem meant_err (w : World) : Calls Tryd.prog 49 #[.string ⟨#[8, 12, 10, 13, 9]⟩, .int .i32 65533] w fun e w' => e = .returned (.int .i64 (-1)) ∧ Below w.heap.size w w' := by
  obtain ⟨M, hM⟩ : ∃ M : ByteArray, M = ⟨#[8, 12, 10, 13, 9]⟩ := ⟨_, rfl⟩
  have hsz : M.size = 5 := by rw [hM]; rfl
  have hdec : ∀ k, k < 5 → ∃ c : Nat, c < 100 ∧ Utf8.decode M k = (c, 1) := by
    have key : ∀ k : Fin 5, (Utf8.decode (⟨#[8, 12, 10, 13, 9]⟩ : ByteArray) k.val).1 < 100 ∧ (Utf8.decode (⟨#[8, 12, 10, 13, 9]⟩ : ByteArray) k.val).2 = 1 := by decide +kernel
    intro k hk
    rw [hM]
    exact ⟨_, (key ⟨k, hk⟩).1, Prod.ext rfl (key ⟨k, hk⟩).2⟩
  rw [← hM]
  clear hM
  go_enter Tryd.func49, Tryd.ntmps49
  go_wp2
  go_loopg [] 6 (fun gk wr => ∃ pos : Nat, pos ≤ 5 ∧ gk + pos = 6 ∧ wr.heap[w.heap.size]? = some (.stringIter M pos) ∧ Below w.heap.size w wr)
  case atStart =>
    refine ⟨0, by omega, rfl, ?_, (Below.refl _ w).alloc (Nat.le_refl _) _⟩
    have := World.iter_heap w M 0
    simpa using this
  case round =>
    obtain ⟨pos, hp5, hgk, hit, hbw⟩ := hrel
    have hsz : w.heap.size < wr.heap.size := (Array.getElem?_eq_some_iff.1 hit).1
    by_cases hp : pos < M.size
    · have hnx : ∀ ty, (Instr.next (.pointer (some ⟨w.heap.size, 0, none⟩)) true ty).run Tryd.prog wr = _ := fun ty => Lib.run_next_any_at wr w.heap.size M pos ty hit hp
      have hit2 := Lib.iterAt_heap wr w.heap.size M pos (pos + (Utf8.decode M pos).2) hit
      have hbw2 := Lib.below_iterAt hbw (k := w.heap.size) (Nat.le_refl _) M (pos + (Utf8.decode M pos).2)
      obtain ⟨c, hc, hd⟩ := hdec pos (by omega)
      rw [hd] at hit2 hbw2 hnx
      have hcz : ¬ ((c : Int) = 65533) := by omega
      have HB := Lib.hid (And.intro hit2 hbw2)
      clear hit2 hbw2 hbw hit hdec
      go_wp2
      go_roundg (gk - 1)
      case rel => exact ⟨pos + 1, by omega, by omega, HB.out.1, HB.out.2⟩
      case measure => omega
    · have hnx : ∀ ty, (Instr.next (.pointer (some ⟨w.heap.size, 0, none⟩)) true ty).run Tryd.prog wr = _ := fun ty => Lib.run_next_end_at wr w.heap.size M pos ty hit hp
      have HB := Lib.hid hbw
      clear hbw hit hdec
      go_wp2
      go_ret
      exact ⟨rfl, HB.out⟩

theorem high_none (c : UInt8) (h : 128 ≤ c.toNat) : ∀ l : BL, (∀ b ∈ l, b.toNat < 128) → Lib.indexByte l c = -1
  | [], _ => rfl
  | b :: l, hb => by
    have h1 : (b == c) = false := by
      rw [beq_eq_false_iff_ne]
      intro e
      have := hb b (by simp)
      rw [e] at this
      omega
    unfold Lib.indexByte
    rw [h1, high_none c h l (fun x hx => hb x (by simp [hx]))]
    rfl

theorem last_high (r : Nat) (h1 : 128 ≤ r) (hv : Lib.validRune (r : Int) = true) : 128 ≤ ((BA (encodeRune (r : Int))).data.toList.getD ((encodeRune (r : Int)).length - 1) 0).toNat := by
  have hv2 : ((0 : Int) ≤ r ∧ (r : Int) < 0xD800) ∨ ((0xDFFF : Int) < r ∧ (r : Int) ≤ 0x10FFFF) := of_decide_eq_true hv
  have key : ((128 + (r : Int) % 64).toNat.toUInt8).toNat = 128 + r % 64 := by
    rw [show (128 + (r : Int) % 64).toNat = 128 + r % 64 by omega]
    rw [Nat.toUInt8, UInt8.toNat_ofNat']
    omega
  rw [show (BA (encodeRune (r : Int))).data.toList = encodeRune (r : Int) by simp]
  unfold encodeRune
  by_cases c2 : r ≤ 2047
  · rw [encodeRuneZ_two (by omega) (by omega)]
    simp only [List.map_cons, List.map_nil, List.length_cons, List.length_nil, List.getD_cons_succ, List.getD_cons_zero]
    rw [key]; omega
  by_cases c3 : r ≤ 65535
  · rw [encodeRuneZ_three (by omega)]
    simp only [List.map_cons, List.map_nil, List.length_cons, List.length_nil, List.getD_cons_succ, List.getD_cons_zero]
    rw [key]; omega
  · rw [encodeRuneZ_four (by omega) (by omega)]
    simp only [List.map_cons, List.map_nil, List.length_cons, List.length_nil, List.getD_cons_succ, List.getD_cons_zero]
    rw [key]; omega

set_option maxHeartbeats 2000000 in
set_option maxRecDepth 100000 in
theorem meant_high (r : Nat) (h1 : 128 ≤ r) (h2 : r ≤ 1114111) (h3 : ¬ (r = 65533)) (hv : Lib.validRune (r : Int) = true) (w : World) : Calls Tryd.prog 49 #[.string ⟨#[8, 12, 10, 13, 9]⟩, .int .i32 r] w fun e w' => e = .returned (.int .i64 (-1)) ∧ Below w.heap.size w w' := by
  obtain ⟨M, hM⟩ : ∃ M : ByteArray, M = ⟨#[8, 12, 10, 13, 9]⟩ := ⟨_, rfl⟩
  have hsz : M.size = 5 := by rw [hM]; rfl
  have hML : M.data.toList = [8, 12, 10, 13, 9] := by rw [hM]
  have hML2 : ∀ b ∈ M.data.toList, b.toNat < 128 := by rw [hML]; decide
  rw [← hM]
  clear hM
  have c1 : (0 : Int) ≤ (r : Int) := by omega
  have c2 : ¬ ((r : Int) < 128) := by omega
  have c3 : ¬ ((r : Int) = 65533) := by omega
  have cV : ∀ W, Calls Tryd.prog 75 #[.int .i32 r] W _ := fun W => Tryd.utf8_ValidRune r W
  rw [hv] at cV
  have HM := Lib.hid hML2
  clear hML hML2
  obtain ⟨RS, hRS⟩ : ∃ RS, Utf8.encode (r : Int) = RS := ⟨_, rfl⟩
  have hl4 : 1 ≤ RS.size ∧ RS.size ≤ 4 := by
    rw [← hRS, encode_ba, ba_size]
    have := encodeRuneZ_length (r : Int)
    unfold encodeRune
    rwa [List.length_map]
  have hcv : ∀ w, (convert 21 9 (.int .i32 (r : Int))).run Tryd.prog w = .ok (.string RS) w := fun w => by
    rw [← hRS]
    exact run_convert_int_string w _ _ _ _ (by kernel_rfl) Tryd.underlying9
  have hlast : 128 ≤ (RS.get! (RS.size - 1)).toNat := by
    rw [← hRS, encode_ba, ba_size, ← getD_get!']
    exact last_high r h1 hv
  clear hRS
  obtain ⟨L, hL⟩ : ∃ L : Nat, L + 1 = RS.size := ⟨RS.size - 1, by omega⟩
  rw [show RS.size - 1 = L by omega] at hlast
  have hi1 : (RS.size : Int) - 1 = (L : Int) := by omega
  clear hv
  go_enter Tryd.func49, Tryd.ntmps49
  go_wp2_with fail
  refine (cV _).mono ?_
  rintro e w1 ⟨rfl, rfl⟩
  go_wp2
  go_step3
  go_wp2
  refine wp_loop_rounds 1 ?_
  rw [rounds_succ]
  go_wp2
  have hL5 : L < M.size := by omega
  have hLR : L < RS.size := by omega
  obtain ⟨x, hx⟩ : ∃ x, M[L]'hL5 = x := ⟨_, rfl⟩
  obtain ⟨y, hy⟩ : ∃ y, RS[L]'hLR = y := ⟨_, rfl⟩
  have hxl : x.toNat < 128 := HM.out x (by rw [← hx]; exact Array.mem_toList_iff.2 (Array.getElem_mem (xs := M.data) hL5))
  have hyl : 128 ≤ y.toNat := by rw [Utf8W.get!_of_lt RS L hLR, hy] at hlast; exact hlast
  have hxy : ¬ ((x.toNat : Int) = (y.toNat : Int)) := by omega
  have hLz : (L : Int) < (RS.size : Int) := by omega
  go_step3
  go_wp2
  have hIB : ∀ (n m : Nat) (W : World), Calls Tryd.prog 74 #[.string (M.extract n m), .int .u8 (y.toNat : Int)] W fun e w' => e = .returned (.int .i64 (-1)) ∧ w' = W := fun n m W => by
    have h := Tryd.strings_IndexByte (M.extract n m) (y.toNat : Int) W
    rw [show ((y.toNat : Int).toNat.toUInt8) = y by simp, high_none y hyl _ (fun b hb => HM.out b (by
      rw [extract_data] at hb
      exact List.mem_of_mem_drop (List.mem_of_mem_take hb)))] at h
    exact h
  have hw1 : IntKind.i64.wrap ((L : Int) + 1) = (RS.size : Int) := by rw [IntWalk.i64_in _ (by omega)]; omega
  have hw2 : (RS.size : Int) ≤ (5 : Int) := by omega
  go_quiet (fail)
  obtain ⟨w2, hq2⟩ : ∃ w2, w1.drewN nq = w2 := ⟨_, rfl⟩
  have hb2 : Hid (Below w1.heap.size w1 w2) := Lib.hid (hq2 ▸ below_drewNv (Below.refl _ _) nq)
  rw [hq2]
  clear hq2
  go_wp2
  go_quiet ((go_at_call 74; exact Calls.quiet_of_same (hIB RS.size 5 _)))
  go_wp2
  simp only [Exit.inBlock, Exit.then, Exit.noGoto_ret]
  go_ret
  exact ⟨rfl, below_drewNv hb2.out _⟩

theorem meant_any (r : Nat) (h2 : r ≤ 1114111) (hv : Lib.validRune (r : Int) = true) (w : World) : Calls Tryd.prog 49 #[.string ⟨#[8, 12, 10, 13, 9]⟩, .int .i32 r] w fun e w' => e = .returned (.int .i64 (meantI r)) ∧ Below w.heap.size w w' := by
  by_cases c : r < 128
  · refine (Tryd.strings_IndexRune_ascii ⟨#[8, 12, 10, 13, 9]⟩ r w (by omega) (by omega)).mono ?_
    rintro e w' ⟨rfl, rfl⟩
    have := meant_low r c
    exact ⟨by rw [show (⟨#[8, 12, 10, 13, 9]⟩ : ByteArray).data.toList = [8, 12, 10, 13, 9] from rfl, this], Below.refl _ _⟩
  · have hm : meantI r = -1 := by
      unfold meantI
      rw [if_neg (by omega), if_neg (by omega), if_neg (by omega), if_neg (by omega), if_neg (by omega)]
    rw [hm]
    by_cases c3 : r = 65533
    · subst c3; exact meant_err w
    · exact meant_high r (by omega) h2 c3 hv w
end Go.Proofs.YthlioinmeimhoaaDoor
