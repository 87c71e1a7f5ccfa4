/- Cut out of XGB, XTxZ, XTxAA, XTxBB, XGC, XGD, XKpA, XKpB, XKqA, XIJo, XIJp, XKgJ, XKgK, XKgL, XKaP, XKcA, XKcB, XKcC, XIzB, XKdP, XKdA, XKdB, XKdC, XKdD, XKdE, XKdX, XIxP, XIxA, XIxB, XIxL, XIxM, XIxN, XIxO, XIxQ, XIxR, XIxS (wip/cutout.py): what is needed here. -/
import Derived.Test.YtccnfnoonpfdfaaGreatDoorGA
import Derived.Test.YtccnfnoonpfdfaaGreatDoorShelf
import Derived.Lib.ValidLaws
import Derived.Lib.RuneBytes
import Derived.Lib.LaidU8
import Derived.WalkKit
import Derived.BigCall
import Derived.BigGuard
import Derived.Lib.Walk
import Derived.RegionTactic
import Derived.Laws.Runes
import Derived.Laws.Cover4
import Derived.WalkMore
import Derived.Deep.QuietTactic
import Derived.BigQuiet
import Derived.Lib.QuoteBits
import Derived.Lib.Small
import Derived.Laws.BytesString
import Derived.Laws.IdiomStrings
import Derived.StillTailTactics
import Derived.Laws.BitsAllLaws
import Derived.Lib.SlBytesConst
import Derived.Lib.SmallJoins
import Derived.Laws.Bits64
import Derived.Deep.RegionHeld3
import Derived.Laws.OwnMore
import Derived.Maps.AppendAt
namespace Go.Proofs.YtccnfnoonpfdfaaGreatDoor
open Go.Shelf Go.RowKit
set_option maxRecDepth 100000 in
theorem copy_used (b : Nat) (w : World) (h0 : w.cell? ⟨b, 0, none⟩ = some (.pointer (some ⟨b, 0, none⟩))) :
    Calls Tryz.prog 82 #[.pointer (some ⟨b, 0, none⟩)] w fun e w' => e = .returned (.tuple #[]) ∧ w' = w := by
  obtain ⟨j, hj, _⟩ := Option.map_eq_some_iff.1 (show (Tryz.prog.info? 82).map _ = _ from Tryz.Builder_Extra_169.sizeBuilder)
  go_enter Tryz.func82, Tryz.ntmps82
  go_wp2
  rw [Lib.run_neq_ptr_same w _ Tryz.underlying80 hj]
  go_wp2
  go_end0
  exact ⟨rfl, rfl⟩
set_option maxRecDepth 100000 in
theorem copy_fresh (b : Nat) (w : World) (h0 : w.cell? ⟨b, 0, none⟩ = some (.pointer none)) (hsh : w.shape? b = some (82, 2)) (hfz : w.frozen? ⟨b, 0, none⟩ = false) :
    Calls Tryz.prog 82 #[.pointer (some ⟨b, 0, none⟩)] w fun e w' => e = .returned (.tuple #[]) ∧ w' = w.setCell ⟨b, 0, none⟩ (.pointer (some ⟨b, 0, none⟩)) := by
  obtain ⟨j, hj, hjs⟩ := Option.map_eq_some_iff.1 (show (Tryz.prog.info? 82).map _ = _ from Tryz.Builder_Extra_169.sizeBuilder)
  go_enter Tryz.func82, Tryz.ntmps82
  go_wp2
  rw [Lib.run_to_unsafe w ⟨b, 0, none⟩ Tryz.underlying80 Tryz.underlying101 hj (by rw [hjs]; decide) hsh (Nat.zero_lt_succ 1)]
  simp only [Result.andThen]
  rw [Oper.upon_value]
  go_wp2
  rw [run_callFunc_extern Tryz.func114 (by kernel_rfl) (by kernel_rfl) (by kernel_rfl) (e := Extern.AbiNoEscape.same) (by kernel_rfl)]
  rw [Lib.run_noEscape]
  simp only [Result.andThen]
  rw [Oper.upon_value]
  go_wp2
  rw [Lib.run_from_unsafe w ⟨b, 0, none⟩ Tryz.underlying101 Tryz.underlying80 hj hsh Tryz.Builder_Extra_169.liesBuilder]
  simp only [Result.andThen]
  rw [Oper.upon_value]
  go_wp2
  go_end0
  exact ⟨rfl, rfl⟩
theorem b_copy (B b : Nat) (bs : List Value) (w : World) (h : Lib.IsBuilderF 82 5 B b bs w) :
    Calls Tryz.prog 82 #[.pointer (some ⟨b, 0, none⟩)] w fun e w' => e = .returned (.tuple #[]) ∧ (Lib.BuilderAtF 82 5 B b (.pointer (some ⟨b, 0, none⟩)) bs w' ∧ Below B w w' ∧ Lib.OthersKept 5 (some b) w w') := by
  rcases h with h | h
  · refine (copy_fresh b w h.cell0 h.shape h.frozen0).mono ?_
    rintro e w' ⟨rfl, rfl⟩
    exact ⟨rfl, h.used _, (Below.refl B w).setCell (p := ⟨b, 0, none⟩) h.1 _, (Lib.OthersKept.refl _ _ w).setCell ⟨b, 0, none⟩ rfl _⟩
  · refine (copy_used b w h.cell0).mono ?_
    rintro e w' ⟨rfl, rfl⟩
    exact ⟨rfl, h, Below.refl B _, Lib.OthersKept.refl _ _ _⟩
theorem infoB : (Tryz.prog.info? 5).map (fun i => (i.zero, i.size, i.bytes)) = some (some (.int .u8 0), 1, 1) := by kernel_rfl
theorem byte_parts : ∃ i0, Tryz.prog.info? 5 = some i0 ∧ i0.zero = some (.int .u8 0) ∧ i0.size = 1 ∧ i0.bytes = 1 := info_parts infoB
theorem lt_of_block {w : World} {b : Nat} {o : Obj} (h : w.heap[b]? = some o) : b < w.heap.size := by
  rcases Nat.lt_or_ge b w.heap.size with h' | h'
  · exact h'
  · simp [Array.getElem?_eq_none h'] at h
set_option maxHeartbeats 2000000 in
set_option maxRecDepth 100000 in
theorem b_byte (B b : Nat) (bs : List Value) (c : Int) (w : World) (h : Lib.IsBuilderF 82 5 B b bs w) (hlen : bs.length + 1 ≤ 140737488355328) (hBw : B ≤ w.heap.size) :
    Calls Tryz.prog 46 #[.pointer (some ⟨b, 0, none⟩), .int .u8 c] w fun e w' => e = .returned .nilIface ∧ (Lib.BuilderAtF 82 5 B b (.pointer (some ⟨b, 0, none⟩)) (bs ++ [.int .u8 c]) w' ∧ Below B w w' ∧ Lib.OthersKept 5 (some b) w w') := by
  obtain ⟨i0, hi, hz0, hz1, hz2⟩ := byte_parts
  have mixed : Tryz.prog.follows .mixedOrders = true := by kernel_rfl
  go_enter Tryz.func46, Tryz.ntmps46
  go_wp2_with fail
  refine (b_copy B b bs _ h).mono ?_
  rintro e w1 ⟨rfl, h1, hb1, hk1⟩
  obtain ⟨hB, v, hbk, hown, hne⟩ := h1
  have c0 : w1.cell? ⟨b, 0, none⟩ = some (.pointer (some ⟨b, 0, none⟩)) := by rw [Lib.cell_of_heap hbk]; rfl
  have c1 : w1.cell? ⟨b, 1, none⟩ = some v := by rw [Lib.cell_of_heap hbk]; rfl
  go_wp2_with (at_builtin; refine wpList_append_ownF _ rfl _ _ 22 rfl B 5 i0 (.int .u8 0) 1 1 Tryz.underlying22 hi hz0 hz1 hz2 rfl (by decide) _ _ _ rfl (hown.alloc _) ⟨w1.heap.size, 0, none⟩ 1 1 [.int .u8 c] rfl rfl ?c1 ?c2 ?c3 ?c4 ?c5 ?_)
  case c1 =>
    intro j u hj
    match j, hj with
    | 0, hj => simp at hj; subst hj; simp [Addr.add]
  case c2 => intro u hu; simp at hu; subst hu; rfl
  case c3 => unfold maxLen; omega
  case c4 => omega
  case c5 => have := hb1.size; simp; omega
  intro v' w2 hown' hgrow _
  have hlt := lt_of_block hbk
  have hb2 : w2.heap[b]? = some (.cells #[.pointer (some ⟨b, 0, none⟩), v] 82 (0, 0)) := by
    rw [hgrow.block b (by simp; omega) (fun e => hne e.symm), Lib.alloc_old w1 _ b hlt]
    exact hbk
  have d0 : w2.cell? ⟨b, 0, none⟩ = some (.pointer (some ⟨b, 0, none⟩)) := by rw [Lib.cell_of_heap hb2]; rfl
  have d1 : w2.cell? ⟨b, 1, none⟩ = some v := by rw [Lib.cell_of_heap hb2]; rfl
  have f1 : w2.frozen? ⟨b, 1, none⟩ = false := Lib.frozen_of_heap hb2 1
  obtain ⟨g, cap, rfl⟩ : ∃ g cap, v' = .slice (some ⟨g, 0, none⟩) (bs.length + 1) cap := by
    rcases hown'.2 with ⟨_, h0⟩ | ⟨g, cap, cur, fz, hv, _⟩
    · omega
    · exact ⟨g, cap, hv⟩
  go_wp2
  go_ret
  refine ⟨rfl, ?_, ?_, ((hk1.alloc _).grown hgrow (Lib.ownsRowF_kind (hown.alloc _))).setCell ⟨b, 1, none⟩ rfl _⟩
  · exact Lib.BuilderAtF.put (T := 82) (e := 5) hB hb2 (bs' := bs ++ [.int .u8 c]) (by simpa using hown') (by decide)
  · exact ((hb1.alloc (by have := hb1.size; omega) _).grown hgrow (by have := hb1.size; simp; omega) (fun k hk => (hown.lt k hk).1)).setCell (p := ⟨b, 1, none⟩) hB _
set_option maxHeartbeats 2000000 in
set_option maxRecDepth 100000 in
theorem b_str (B b : Nat) (bs : List Value) (s : ByteArray) (w : World) (h : Lib.IsBuilderF 82 5 B b bs w) (hlen : bs.length + s.size ≤ 140737488355328) (hBw : B ≤ w.heap.size) :
    Calls Tryz.prog 50 #[.pointer (some ⟨b, 0, none⟩), .string s] w fun e w' => e = .returned (.tuple #[.int .i64 s.size, .nilIface]) ∧ (Lib.BuilderAtF 82 5 B b (.pointer (some ⟨b, 0, none⟩)) (bs ++ Lib.strCells s) w' ∧ Below B w w' ∧ Lib.OthersKept 5 (some b) w w') := by
  obtain ⟨i0, hi, hz0, hz1, hz2⟩ := byte_parts
  have mixed : Tryz.prog.follows .mixedOrders = true := by kernel_rfl
  go_enter Tryz.func50, Tryz.ntmps50
  go_wp2_with fail
  refine (b_copy B b bs _ h).mono ?_
  rintro e w1 ⟨rfl, h1, hb1, hk1⟩
  obtain ⟨hB, v, hbk, hown, hne⟩ := h1
  have c0 : w1.cell? ⟨b, 0, none⟩ = some (.pointer (some ⟨b, 0, none⟩)) := by rw [Lib.cell_of_heap hbk]; rfl
  have c1 : w1.cell? ⟨b, 1, none⟩ = some v := by rw [Lib.cell_of_heap hbk]; rfl
  go_wp2_with (at_builtin; refine Lib.wpList_append_own_stringF _ rfl _ _ 22 9 rfl B 5 i0 Tryz.underlying22 Tryz.underlying9 hi hz0 hz1 hz2 _ _ _ rfl hown s rfl ?c3 ?c4 ?c5 ?_)
  case c3 => unfold maxLen; omega
  case c4 => omega
  case c5 => have := hb1.size; omega
  intro v' w2 hown' hgrow _
  have hlt := lt_of_block hbk
  have hb2 : w2.heap[b]? = some (.cells #[.pointer (some ⟨b, 0, none⟩), v] 82 (0, 0)) := by
    rw [hgrow.block b hlt (fun e => hne e.symm)]
    exact hbk
  have d0 : w2.cell? ⟨b, 0, none⟩ = some (.pointer (some ⟨b, 0, none⟩)) := by rw [Lib.cell_of_heap hb2]; rfl
  have d1 : w2.cell? ⟨b, 1, none⟩ = some v := by rw [Lib.cell_of_heap hb2]; rfl
  have f1 : w2.frozen? ⟨b, 1, none⟩ = false := Lib.frozen_of_heap hb2 1
  obtain ⟨ao, n', cap, rfl⟩ : ∃ ao n' cap, v' = .slice ao n' cap := by
    rcases hown'.2 with ⟨hv, _⟩ | ⟨g, cap, cur, fz, hv, _⟩
    · exact ⟨_, _, _, hv⟩
    · exact ⟨_, _, _, hv⟩
  go_wp2
  go_ret2
  refine ⟨rfl, ?_, ?_, (hk1.grown hgrow (Lib.ownsRowF_kind hown)).setCell ⟨b, 1, none⟩ rfl _⟩
  · exact Lib.BuilderAtF.put (T := 82) (e := 5) hB hb2 (bs' := bs ++ Lib.strCells s) (by simpa [Lib.strCells_length] using hown') (by decide)
  · exact (hb1.grown hgrow (by have := hb1.size; omega) (fun k hk => (hown.lt k hk).1)).setCell (p := ⟨b, 1, none⟩) hB _
theorem append_own (B : Nat) (v : Value) (n : Nat) (xs : List Value) (r : Int) (hr0 : -2147483648 ≤ r) (hr1 : r ≤ 2147483647) (w : World) (hown : w.ownsRowF B 5 1 v n xs) (hlen : n + 4 ≤ 140737488355328) (hBw : B ≤ w.heap.size) :
    Calls Tryz.prog 135 #[v, .int .i32 r] w fun e w' => ∃ v', e = .returned v' ∧ w'.ownsRowF B 5 1 v' (n + (Lib.runeCells r).length) (xs ++ Lib.runeCells r) ∧ ∃ o, (w.alloc o).grownBy w' v.ownBlock :=
  Any.utf8_AppendRune_own Tryz.lays242 Tryz.Builder_Extra_242 B v n xs r hr0 hr1 w hown hlen hBw
set_option maxHeartbeats 4000000 in
set_option maxRecDepth 100000 in
theorem b_rune (B b : Nat) (bs : List Value) (r : Int) (hr0 : -2147483648 ≤ r) (hr1 : r ≤ 2147483647) (w : World) (h : Lib.IsBuilderF 82 5 B b bs w) (hlen : bs.length + 4 ≤ 140737488355328) (hBw : B ≤ w.heap.size) :
    Calls Tryz.prog 123 #[.pointer (some ⟨b, 0, none⟩), .int .i32 r] w fun e w' => e = .returned (.tuple #[.int .i64 (Lib.runeCells r).length, .nilIface]) ∧ (Lib.BuilderAtF 82 5 B b (.pointer (some ⟨b, 0, none⟩)) (bs ++ Lib.runeCells r) w' ∧ Below B w w' ∧ Lib.OthersKept 5 (some b) w w') := by
  have mixed : Tryz.prog.follows .mixedOrders = true := by kernel_rfl
  have hk4 := Lib.runeCells_le r
  go_enter Tryz.func123, Tryz.ntmps123
  go_wp2_with fail
  refine (b_copy B b bs _ h).mono ?_
  rintro e w1 ⟨rfl, h1, hb1, hk1⟩
  obtain ⟨hB, v, hbk, hown, hne⟩ := h1
  obtain ⟨ao, cap, rfl⟩ : ∃ ao cap, v = .slice ao bs.length cap := by
    rcases hown.2 with ⟨hv, h0⟩ | ⟨g, cap, cur, fz, hv, _⟩
    · exact ⟨none, 0, by rw [hv, h0]⟩
    · exact ⟨_, _, hv⟩
  have c0 : w1.cell? ⟨b, 0, none⟩ = some (.pointer (some ⟨b, 0, none⟩)) := by rw [Lib.cell_of_heap hbk]; rfl
  have c1 : w1.cell? ⟨b, 1, none⟩ = some (.slice ao bs.length cap) := by rw [Lib.cell_of_heap hbk]; rfl
  go_wp2_with fail
  refine (append_own B _ bs.length bs r hr0 hr1 _ hown hlen (by have := hb1.size; omega)).mono ?_
  rintro e w2 ⟨v', rfl, hown', o, hgrow⟩
  have hlt := lt_of_block hbk
  have hb2 : w2.heap[b]? = some (.cells #[.pointer (some ⟨b, 0, none⟩), .slice ao bs.length cap] 82 (0, 0)) := by
    rw [hgrow.block b (by simp; omega) (fun e => hne e.symm), Lib.alloc_old w1 _ b hlt]
    exact hbk
  have d0 : w2.cell? ⟨b, 0, none⟩ = some (.pointer (some ⟨b, 0, none⟩)) := by rw [Lib.cell_of_heap hb2]; rfl
  have d1 : w2.cell? ⟨b, 1, none⟩ = some (.slice ao bs.length cap) := by rw [Lib.cell_of_heap hb2]; rfl
  have f1 : w2.frozen? ⟨b, 1, none⟩ = false := Lib.frozen_of_heap hb2 1
  obtain ⟨g, cap', rfl⟩ : ∃ g cap', v' = .slice (some ⟨g, 0, none⟩) (bs.length + (Lib.runeCells r).length) cap' := by
    rcases hown'.2 with ⟨_, h0⟩ | ⟨g, cap', cur, fz, hv, _⟩
    · omega
    · exact ⟨g, cap', hv⟩
  go_wp2
  go_ret2
  refine ⟨?_, ?_, ?_, ((hk1.alloc _).grown hgrow (Lib.ownsRowF_kind (hown.alloc _))).setCell ⟨b, 1, none⟩ rfl _⟩
  · have e : ((bs.length : Int) + ((Lib.runeCells r).length : Int) - (bs.length : Int)) = ((Lib.runeCells r).length : Int) := by omega
    simp [e]
  · exact Lib.BuilderAtF.put (T := 82) (e := 5) hB hb2 (bs' := bs ++ Lib.runeCells r) (by simpa using hown') (by decide)
  · exact ((hb1.alloc (by have := hb1.size; omega) _).grown hgrow (by have := hb1.size; simp; omega) (fun k hk => (hown.lt k hk).1)).setCell (p := ⟨b, 1, none⟩) hB _
end Go.Proofs.YtccnfnoonpfdfaaGreatDoor
namespace Go.Proofs.YtccnfnoonpfdfaaGreatDoor
open Go.Lib
abbrev BL := List UInt8
def hexD (k : Nat) : UInt8 := if k < 10 then UInt8.ofNat (48 + k) else UInt8.ofNat (87 + k)
def chunkC (r n : Nat) (piece : BL) : BL :=
  if r = 65533 ∧ n = 1 then [92, 117, 102, 102, 102, 100]
  else if r = 8 then [92, 98]
  else if r = 9 then [92, 116]
  else if r = 10 then [92, 110]
  else if r = 12 then [92, 102]
  else if r = 13 then [92, 114]
  else if r < 32 then [92, 117, 48, 48, hexD (r / 16), hexD (r % 16)]
  else if r = 34 ∨ r = 92 then 92 :: piece
  else piece
def chunkL (l : BL) : BL := chunkC (decodeL l).1 (decodeL l).2 (l.take (decodeL l).2)
def chunksF : Nat → BL → BL
  | 0, _ => []
  | k + 1, l => if l = [] then [] else chunkL l ++ chunksF k (l.drop (decodeL l).2)
def chunks (l : BL) : BL := chunksF l.length l
def quoteL (l : BL) : BL := 34 :: (chunks l ++ [34])
def mendL (l : BL) : BL := mapD (fun x => x) l
theorem chunksF_nil : ∀ n, chunksF n [] = []
  | 0 => rfl
  | _ + 1 => by simp [chunksF]
theorem chunksF_fuel : ∀ (n m : Nat) (l : BL), l.length ≤ n → l.length ≤ m → chunksF n l = chunksF m l
  | 0, m, l, hn, _ => by
    have : l = [] := List.eq_nil_of_length_eq_zero (by omega)
    subst this
    rw [chunksF_nil, chunksF_nil]
  | n + 1, 0, l, _, hm => by
    have : l = [] := List.eq_nil_of_length_eq_zero (by omega)
    subst this
    rw [chunksF_nil, chunksF_nil]
  | n + 1, m + 1, l, hn, hm => by
    by_cases hne : l = []
    · subst hne; rw [chunksF_nil, chunksF_nil]
    · have hw := decodeL_width l
      have hl : 0 < l.length := List.length_pos_iff.2 hne
      simp only [chunksF, if_neg hne]
      rw [chunksF_fuel n m _ (by rw [List.length_drop]; omega) (by rw [List.length_drop]; omega)]
theorem chunks_nil : chunks [] = [] := rfl
theorem chunks_step (l : BL) (hne : l ≠ []) : chunks l = chunkL l ++ chunks (l.drop (decodeL l).2) := by
  have hw := decodeL_width l
  have hl : 0 < l.length := List.length_pos_iff.2 hne
  unfold chunks
  obtain ⟨n, hn⟩ : ∃ n, l.length = n + 1 := ⟨l.length - 1, by omega⟩
  rw [hn]
  simp only [chunksF, if_neg hne]
  rw [chunksF_fuel n _ _ (by rw [List.length_drop]; omega) (Nat.le_refl _)]
theorem mend_step (l : BL) (hne : l ≠ []) : mendL l = encodeRune (decodeL l).1 ++ mendL (l.drop (decodeL l).2) := by
  unfold mendL
  rw [mapD_step _ l hne, if_pos (by omega)]
/-- An induction by the characters of a text. -/
theorem by_chars {M : BL → Prop} (h0 : M []) (h1 : ∀ l, l ≠ [] → M (l.drop (decodeL l).2) → M l) (l : BL) : M l := by
  obtain ⟨k, hk⟩ : ∃ k, l.length ≤ k := ⟨_, Nat.le_refl _⟩
  induction k generalizing l with
  | zero =>
    have : l = [] := List.eq_nil_of_length_eq_zero (by omega)
    rw [this]; exact h0
  | succ k ih =>
    by_cases hne : l = []
    · rw [hne]; exact h0
    · have hw := decodeL_width l
      have hl : 0 < l.length := List.length_pos_iff.2 hne
      exact h1 l hne (ih _ (by rw [List.length_drop]; omega))
theorem chunkL_length (l : BL) (hne : l ≠ []) : (chunkL l).length ≤ 6 * (decodeL l).2 ∧ 1 ≤ (chunkL l).length := by
  have hw := decodeL_width l
  have hle := decodeL_le l hne
  have ht : (l.take (decodeL l).2).length = (decodeL l).2 := by rw [List.length_take]; omega
  unfold chunkL chunkC
  repeat' split
  all_goals (try simp only [List.length_cons, List.length_nil])
  all_goals omega
theorem chunks_length (l : BL) : (chunks l).length ≤ 6 * l.length := by
  induction l using by_chars with
  | h0 => simp [chunks_nil]
  | h1 l hne ih =>
    have h1 := (chunkL_length l hne).1
    have hle := decodeL_le l hne
    rw [chunks_step l hne, List.length_append]
    rw [List.length_drop] at ih
    omega
def hexV (b : Nat) : Int := if 48 ≤ b ∧ b ≤ 57 then (b : Int) - 48 else if 97 ≤ b ∧ b ≤ 102 then (b : Int) - 87 else if 65 ≤ b ∧ b ≤ 70 then (b : Int) - 55 else -1
def fourL (l : BL) : Int :=
  if hexV (l.getD 0 0).toNat < 0 ∨ hexV (l.getD 1 0).toNat < 0 ∨ hexV (l.getD 2 0).toNat < 0 ∨ hexV (l.getD 3 0).toNat < 0 then -1
  else ((hexV (l.getD 0 0).toNat * 16 + hexV (l.getD 1 0).toNat) * 16 + hexV (l.getD 2 0).toNat) * 16 + hexV (l.getD 3 0).toNat
def escL (x : Nat) : Nat :=
  if x = 34 then 34 else if x = 92 then 92 else if x = 47 then 47 else if x = 98 then 8 else if x = 102 then 12 else if x = 110 then 10 else if x = 114 then 13 else if x = 116 then 9 else 0
/-- behind "\u": a number, and how many bytes behind the "u" it has. -/
def wideL (l : BL) : Int × Nat :=
  if fourL l < 0 then (0, 0)
  else if fourL l < 55296 ∨ 57343 < fourL l then (fourL l, 4)
  else if 56320 ≤ fourL l ∨ l.getD 4 0 ≠ 92 ∨ l.getD 5 0 ≠ 117 ∨ fourL (l.drop 6) < 56320 ∨ 57343 < fourL (l.drop 6) then (0, 0)
  else (65536 + (fourL l - 55296) * 1024 + (fourL (l.drop 6) - 56320), 10)
def charL (l : BL) : Int × Nat :=
  if (decodeL l).1 < 32 ∨ ((decodeL l).1 = 65533 ∧ (decodeL l).2 = 1) then (0, 0)
  else if (decodeL l).1 ≠ 92 then ((decodeL l).1, (decodeL l).2)
  else if escL (l.getD 1 0).toNat ≠ 0 then (escL (l.getD 1 0).toNat, 2)
  else if l.getD 1 0 ≠ 117 then (0, 0)
  else if (wideL (l.drop 2)).2 = 0 then (0, 0)
  else ((wideL (l.drop 2)).1, (wideL (l.drop 2)).2 + 2)
def readF : Nat → BL → Option (BL × Nat)
  | 0, _ => none
  | k + 1, l =>
    if l = [] then none
    else if l.getD 0 0 = 34 then some ([], 1)
    else if (charL l).2 = 0 then none
    else match readF k (l.drop (charL l).2) with
      | none => none
      | some (t, m) => some (encodeRune (charL l).1 ++ t, (charL l).2 + m)
/-- behind the first quote. -/
def readB (l : BL) : Option (BL × Nat) := readF l.length l
def readL (l : BL) : Option (BL × Nat) :=
  if l.getD 0 0 ≠ 34 then none else match readB (l.drop 1) with
    | none => none
    | some (t, m) => some (t, m + 1)
theorem readF_nil : ∀ n, readF n [] = none
  | 0 => rfl
  | _ + 1 => by simp [readF]
theorem readF_fuel : ∀ (n m : Nat) (l : BL), l.length ≤ n → l.length ≤ m → readF n l = readF m l
  | 0, m, l, hn, _ => by
    have : l = [] := List.eq_nil_of_length_eq_zero (by omega)
    subst this
    rw [readF_nil, readF_nil]
  | n + 1, 0, l, _, hm => by
    have : l = [] := List.eq_nil_of_length_eq_zero (by omega)
    subst this
    rw [readF_nil, readF_nil]
  | n + 1, m + 1, l, hn, hm => by
    by_cases hne : l = []
    · subst hne; rw [readF_nil, readF_nil]
    · have hl : 0 < l.length := List.length_pos_iff.2 hne
      simp only [readF, if_neg hne]
      by_cases hq : l.getD 0 0 = 34
      · rw [if_pos hq, if_pos hq]
      · rw [if_neg hq, if_neg hq]
        by_cases hz : (charL l).2 = 0
        · rw [if_pos hz, if_pos hz]
        · rw [if_neg hz, if_neg hz, readF_fuel n m _ (by rw [List.length_drop]; omega) (by rw [List.length_drop]; omega)]
theorem readB_nil : readB [] = none := rfl
theorem readB_quote (l : BL) (hne : l ≠ []) (hq : l.getD 0 0 = 34) : readB l = some ([], 1) := by
  have hl : 0 < l.length := List.length_pos_iff.2 hne
  unfold readB
  obtain ⟨n, hn⟩ : ∃ n, l.length = n + 1 := ⟨l.length - 1, by omega⟩
  rw [hn]
  simp only [readF, if_neg hne, if_pos hq]
theorem readB_bad (l : BL) (hq : l.getD 0 0 ≠ 34) (hz : (charL l).2 = 0) : readB l = none := by
  by_cases hne : l = []
  · rw [hne]; rfl
  have hl : 0 < l.length := List.length_pos_iff.2 hne
  unfold readB
  obtain ⟨n, hn⟩ : ∃ n, l.length = n + 1 := ⟨l.length - 1, by omega⟩
  rw [hn]
  simp only [readF, if_neg hne, if_neg hq, if_pos hz]
theorem readB_step (l : BL) (hne : l ≠ []) (hq : l.getD 0 0 ≠ 34) (hz : (charL l).2 ≠ 0) :
    readB l = match readB (l.drop (charL l).2) with
      | none => none
      | some (t, m) => some (encodeRune (charL l).1 ++ t, (charL l).2 + m) := by
  have hl : 0 < l.length := List.length_pos_iff.2 hne
  unfold readB
  obtain ⟨n, hn⟩ : ∃ n, l.length = n + 1 := ⟨l.length - 1, by omega⟩
  rw [hn]
  simp only [readF, if_neg hne, if_neg hq, if_neg hz]
  rw [readF_fuel n _ _ (by rw [List.length_drop]; omega) (Nat.le_refl _)]
theorem hexV_le (b : Nat) : hexV b ≤ 15 := by
  unfold hexV
  repeat' split
  all_goals omega
theorem fourL_range (l : BL) : -1 ≤ fourL l ∧ fourL l ≤ 65535 := by
  have a := hexV_le (l.getD 0 0).toNat
  have b := hexV_le (l.getD 1 0).toNat
  have c := hexV_le (l.getD 2 0).toNat
  have d := hexV_le (l.getD 3 0).toNat
  unfold fourL
  split <;> omega
theorem wideL_range (l : BL) : 0 ≤ (wideL l).1 ∧ (wideL l).1 ≤ 1114111 := by
  have a := fourL_range l
  have b := fourL_range (l.drop 6)
  unfold wideL
  repeat' split
  all_goals (dsimp only; omega)
theorem charL_range (l : BL) : 0 ≤ (charL l).1 ∧ (charL l).1 ≤ 1114111 := by
  have a := wideL_range (l.drop 2)
  have b := decodeL_rune l
  have c : escL (l.getD 1 0).toNat ≤ 92 := by
    unfold escL
    repeat' split
    all_goals omega
  unfold charL
  repeat' split
  all_goals (dsimp only; omega)
theorem hexD_V : ∀ k : Fin 16, hexV (hexD k.val).toNat = (k.val : Int) := by decide
theorem fourL_hex (a b c d : Nat) (t : BL) (ha : a < 16) (hb : b < 16) (hc : c < 16) (hd : d < 16) :
    fourL (hexD a :: hexD b :: hexD c :: hexD d :: t) = ((a * 16 + b) * 16 + c) * 16 + d := by
  unfold fourL
  simp only [List.getD_cons_zero, List.getD_cons_succ]
  rw [hexD_V ⟨a, ha⟩, hexD_V ⟨b, hb⟩, hexD_V ⟨c, hc⟩, hexD_V ⟨d, hd⟩]
  dsimp only
  rw [if_neg (by omega)]
end Go.Proofs.YtccnfnoonpfdfaaGreatDoor
namespace Go.Proofs.YtccnfnoonpfdfaaGreatDoor
open Go.Shelf Go.RowKit Go.Lib
def Tabs (w : World) : Prop := Lib.Utf8Tabs 3 4 w
theorem Tabs.below {w w2 : World} (h : Tabs w) (hb : Below w.heap.size w w2) : Tabs w2 := Utf8Tabs_below h hb
abbrev BA (l : BL) : ByteArray := ⟨l.toArray⟩
theorem ba_list (s : ByteArray) : BA s.data.toList = s := by cases s; simp
theorem ba_size (l : BL) : (BA l).size = l.length := by simp [ByteArray.size]
theorem dec_any (s : ByteArray) (w : World) (hT : Tabs w) (hne : s.data.toList ≠ []) :
    Calls Tryz.prog 47 #[.string s] w fun e w' => e = .returned (.tuple #[.int .i32 (decodeL s.data.toList).1, .int .i64 (decodeL s.data.toList).2]) ∧ Below w.heap.size w w' := by
  refine (Tryz.utf8_DecodeRuneInString s w hT).mono ?_
  rintro e w' ⟨rfl, hb⟩
  have h0 : s.size ≠ 0 := fun h => hne (List.eq_nil_of_length_eq_zero (by rw [← size_eq]; exact h))
  refine ⟨?_, hb⟩
  rw [show Lib.decodeGo s = decodeL s.data.toList by rw [Lib.decodeGo, if_neg h0]; unfold decodeL; rw [show (⟨s.data.toList.toArray⟩ : ByteArray) = s from ba_list s]]
/-- The first character. -/
def firstL (l : BL) : Nat × Nat := if l = [] then (0, 0) else decodeL l
theorem decode_ba (s : ByteArray) : Utf8.decode s 0 = decodeL s.data.toList := by unfold decodeL; rw [show (⟨s.data.toList.toArray⟩ : ByteArray) = s from ba_list s]
set_option maxHeartbeats 2000000 in
set_option maxRecDepth 100000 in
theorem first_any (s : ByteArray) (w : World) :
    Calls Tryz.prog 53 #[.string s] w fun e w' => e = .returned (.tuple #[.int .i32 (firstL s.data.toList).1, .int .i64 (firstL s.data.toList).2]) ∧ Below w.heap.size w w' := by
  have hdl := fun hne => decodeL_le s.data.toList hne
  have hdw := decodeL_width s.data.toList
  rw [← size_eq] at hdl
  have hnil : s.size = 0 → s.data.toList = [] := fun h => List.eq_nil_of_length_eq_zero (by rw [← size_eq]; exact h)
  have hnn : s.data.toList = [] → s.size = 0 := fun h => by rw [size_eq, h]; rfl
  obtain ⟨R, hR⟩ : ∃ R, (decodeL s.data.toList).1 = R := ⟨_, rfl⟩
  obtain ⟨K, hK⟩ : ∃ K, (decodeL s.data.toList).2 = K := ⟨_, rfl⟩
  have hD : Utf8.decode s 0 = (R, K) := by rw [decode_ba, ← hR, ← hK]
  rw [hK] at hdl hdw
  go_enter Tryz.func53, Tryz.ntmps53
  go_wp2
  go_loopg [4, 5] 2 (fun gk nn c wr => nn = .int .i64 s.size ∧ ∃ pos : Nat, wr.heap[w.heap.size]? = some (.stringIter s pos) ∧ Below w.heap.size w wr ∧ ((pos = 0 ∧ c = .int .i32 0 ∧ gk = 2) ∨ (s.size ≠ 0 ∧ pos = K ∧ c = .int .i32 R ∧ gk = 1)))
  case atStart =>
    refine ⟨rfl, 0, ?_, (Below.refl _ w).alloc (Nat.le_refl _) _, .inl ⟨rfl, rfl, rfl⟩⟩
    have := World.iter_heap w s 0
    simpa using this
  case round =>
    obtain ⟨rfl, pos, hit, hbw, hc⟩ := hrel
    have hsz : w.heap.size < wr.heap.size := (Array.getElem?_eq_some_iff.1 hit).1
    by_cases hp : pos < s.size
    · have hnx : ∀ ty, (Instr.next (.pointer (some ⟨w.heap.size, 0, none⟩)) true ty).run Tryz.prog wr = _ := fun ty => Lib.run_next_any_at wr w.heap.size s pos ty hit hp
      have hit2 := Lib.iterAt_heap wr w.heap.size s pos (pos + (Utf8.decode s pos).2) hit
      have hbw2 := Lib.below_iterAt hbw (k := w.heap.size) (Nat.le_refl _) s (pos + (Utf8.decode s pos).2)
      rcases hc with ⟨rfl, rfl, rfl⟩ | ⟨h0, rfl, rfl, rfl⟩
      · rw [hD, Nat.zero_add] at hit2 hbw2
        rw [hD, Nat.zero_add] at hnx
        have HB := Lib.hid (And.intro hit2 hbw2)
        clear hit2 hbw2 hbw hit
        go_wp2
        go_roundg 1
        case rel => exact ⟨rfl, K, HB.out.1, HB.out.2, .inr ⟨by omega, rfl, rfl, rfl⟩⟩
        case measure => omega
      · have hf : firstL s.data.toList = (R, pos) := by unfold firstL; rw [if_neg (fun h => h0 (hnn h)), ← hR, ← hK]
        have HB := Lib.hid (And.intro hit2 hbw2)
        have hp0 : (0 : Int) < (pos : Int) := by omega
        clear hit2 hbw2 hbw hit
        go_wp2
        go_ret2
        rw [hf]
        exact ⟨rfl, HB.out.2⟩
    · have hnx : ∀ ty, (Instr.next (.pointer (some ⟨w.heap.size, 0, none⟩)) true ty).run Tryz.prog wr = _ := fun ty => Lib.run_next_end_at wr w.heap.size s pos ty hit hp
      have HB := Lib.hid hbw
      clear hbw hit
      rcases hc with ⟨rfl, rfl, rfl⟩ | ⟨h0, rfl, rfl, rfl⟩
      · have h0 : s.size = 0 := by omega
        have hf : firstL s.data.toList = (0, s.size) := by unfold firstL; rw [if_pos (hnil h0), h0]
        go_wp2
        go_ret2
        rw [hf]
        exact ⟨rfl, HB.out⟩
      · have hle := hdl (fun h => h0 (hnn h))
        have hf : firstL s.data.toList = (R, s.size) := by unfold firstL; rw [if_neg (fun h => h0 (hnn h)), show decodeL s.data.toList = (R, pos) by rw [← hR, ← hK], show pos = s.size by omega]
        go_wp2
        go_ret2
        rw [hf]
        exact ⟨rfl, HB.out⟩
end Go.Proofs.YtccnfnoonpfdfaaGreatDoor
namespace Go.Proofs.YtccnfnoonpfdfaaGreatDoor
open Go.Shelf Go.RowKit Go.Lib
theorem decodeL_valid (l : BL) : Lib.validRune ((decodeL l).1 : Int) = true := by
  have hlt := fun b : UInt8 => b.toNat_lt
  rw [decodeL_N]
  unfold Lib.validRune
  refine decide_eq_true ?_
  have h0 := hlt (l.getD 0 0)
  rcases decodeN_shape l.length (l.getD 0 0).toNat (l.getD 1 0).toNat (l.getD 2 0).toNat (l.getD 3 0).toNat with ⟨c, e⟩ | ⟨c1, c2, c3, cv, e⟩ | ⟨c1, c2, c3, c4, cv, cs, e⟩ | ⟨c1, c2, c3, c4, c5, cv, cw, e⟩ | e
  all_goals (rw [e]; dsimp only; omega)
theorem encode_ba (r : Int) : Utf8.encode r = BA (encodeRune r) := by
  unfold Utf8.encode encodeRune encodeRuneZ
  by_cases hv : Utf8.valid r = true
  · have hv2 : (0 ≤ r ∧ r < 55296) ∨ (57344 ≤ r ∧ r ≤ 1114111) := by simpa [Utf8.valid] using hv
    simp only [hv, if_true]
    obtain ⟨n, rfl⟩ : ∃ n : Nat, r = n := ⟨r.toNat, by omega⟩
    simp only [Int.toNat_natCast]
    have key : ∀ (x : Int) (y : Nat), x = y → x.toNat.toUInt8 = UInt8.ofNat y := fun x y h => by rw [h]; rfl
    by_cases c1 : n < 128
    · rw [if_pos c1, if_pos (by omega)]
      rfl
    rw [if_neg c1, if_neg (show ¬ (0 ≤ (n : Int) ∧ (n : Int) ≤ 127) by omega)]
    by_cases c2 : n < 2048
    · rw [if_pos c2, if_pos (by omega)]
      simp only [List.map_cons, List.map_nil]
      rw [key (192 + (n : Int) / 64) (192 + n / 64) (by omega), key (128 + (n : Int) % 64) (128 + n % 64) (by omega)]
    rw [if_neg c2, if_neg (show ¬ (128 ≤ (n : Int) ∧ (n : Int) ≤ 2047) by omega)]
    by_cases c3 : n < 65536
    · rw [if_pos c3, if_pos (by omega)]
      simp only [List.map_cons, List.map_nil]
      rw [key (224 + (n : Int) / 4096) (224 + n / 4096) (by omega), key (128 + (n : Int) / 64 % 64) (128 + n / 64 % 64) (by omega), key (128 + (n : Int) % 64) (128 + n % 64) (by omega)]
    rw [if_neg c3, if_neg (by omega), if_pos (by omega)]
    simp only [List.map_cons, List.map_nil]
    rw [key (240 + (n : Int) / 262144) (240 + n / 262144) (by omega), key (128 + (n : Int) / 4096 % 64) (128 + n / 4096 % 64) (by omega), key (128 + (n : Int) / 64 % 64) (128 + n / 64 % 64) (by omega), key (128 + (n : Int) % 64) (128 + n % 64) (by omega)]
  · have hv2 : ¬ ((0 ≤ r ∧ r < 55296) ∨ (57344 ≤ r ∧ r ≤ 1114111)) := by simpa [Utf8.valid] using hv
    have hf : Utf8.valid r = false := by simpa using hv
    simp only [hf, Bool.false_eq_true, if_false, Utf8.runeError]
    rw [if_neg (show ¬ (0 ≤ r ∧ r ≤ 127) by omega), if_neg (show ¬ (128 ≤ r ∧ r ≤ 2047) by omega), if_neg (show ¬ ((2048 ≤ r ∧ r < 55296) ∨ (57343 < r ∧ r ≤ 65535)) by omega), if_neg (show ¬ (65536 ≤ r ∧ r ≤ 1114111) by omega)]
    rfl
def meantI (r : Nat) : Int := if r = 8 then 0 else if r = 12 then 1 else if r = 10 then 2 else if r = 13 then 3 else if r = 9 then 4 else -1
theorem meant_low (r : Nat) (h : r < 128) : Lib.indexByte [8, 12, 10, 13, 9] ((r : Int).toNat.toUInt8) = meantI r := by
  have key : ∀ k : Fin 128, Lib.indexByte [8, 12, 10, 13, 9] (((k.val : Nat) : Int).toNat.toUInt8) = meantI k.val := by decide +kernel
  exact key ⟨r, h⟩
set_option maxHeartbeats 2000000 in
set_option maxRecDepth 100000 in
theorem meant_err (w : World) : Calls Tryz.prog 48 #[.string ⟨#[8, 12, 10, 13, 9]⟩, .int .i32 65533] w fun e w' => e = .returned (.int .i64 (-1)) ∧ Below w.heap.size w w' := by
  obtain ⟨M, hM⟩ : ∃ M : ByteArray, M = ⟨#[8, 12, 10, 13, 9]⟩ := ⟨_, rfl⟩
  have hsz : M.size = 5 := by rw [hM]; rfl
  have hdec : ∀ k, k < 5 → ∃ c : Nat, c < 100 ∧ Utf8.decode M k = (c, 1) := by
    have key : ∀ k : Fin 5, (Utf8.decode (⟨#[8, 12, 10, 13, 9]⟩ : ByteArray) k.val).1 < 100 ∧ (Utf8.decode (⟨#[8, 12, 10, 13, 9]⟩ : ByteArray) k.val).2 = 1 := by decide +kernel
    intro k hk
    rw [hM]
    exact ⟨_, (key ⟨k, hk⟩).1, Prod.ext rfl (key ⟨k, hk⟩).2⟩
  rw [← hM]
  clear hM
  go_enter Tryz.func48, Tryz.ntmps48
  go_wp2
  go_loopg [] 6 (fun gk wr => ∃ pos : Nat, pos ≤ 5 ∧ gk + pos = 6 ∧ wr.heap[w.heap.size]? = some (.stringIter M pos) ∧ Below w.heap.size w wr)
  case atStart =>
    refine ⟨0, by omega, rfl, ?_, (Below.refl _ w).alloc (Nat.le_refl _) _⟩
    have := World.iter_heap w M 0
    simpa using this
  case round =>
    obtain ⟨pos, hp5, hgk, hit, hbw⟩ := hrel
    have hsz : w.heap.size < wr.heap.size := (Array.getElem?_eq_some_iff.1 hit).1
    by_cases hp : pos < M.size
    · have hnx : ∀ ty, (Instr.next (.pointer (some ⟨w.heap.size, 0, none⟩)) true ty).run Tryz.prog wr = _ := fun ty => Lib.run_next_any_at wr w.heap.size M pos ty hit hp
      have hit2 := Lib.iterAt_heap wr w.heap.size M pos (pos + (Utf8.decode M pos).2) hit
      have hbw2 := Lib.below_iterAt hbw (k := w.heap.size) (Nat.le_refl _) M (pos + (Utf8.decode M pos).2)
      obtain ⟨c, hc, hd⟩ := hdec pos (by omega)
      rw [hd] at hit2 hbw2 hnx
      have hcz : ¬ ((c : Int) = 65533) := by omega
      have HB := Lib.hid (And.intro hit2 hbw2)
      clear hit2 hbw2 hbw hit hdec
      go_wp2
      go_roundg (gk - 1)
      case rel => exact ⟨pos + 1, by omega, by omega, HB.out.1, HB.out.2⟩
      case measure => omega
    · have hnx : ∀ ty, (Instr.next (.pointer (some ⟨w.heap.size, 0, none⟩)) true ty).run Tryz.prog wr = _ := fun ty => Lib.run_next_end_at wr w.heap.size M pos ty hit hp
      have HB := Lib.hid hbw
      clear hbw hit hdec
      go_wp2
      go_ret
      exact ⟨rfl, HB.out⟩
theorem high_none (c : UInt8) (h : 128 ≤ c.toNat) : ∀ l : BL, (∀ b ∈ l, b.toNat < 128) → Lib.indexByte l c = -1
  | [], _ => rfl
  | b :: l, hb => by
    have h1 : (b == c) = false := by
      rw [beq_eq_false_iff_ne]
      intro e
      have := hb b (by simp)
      rw [e] at this
      omega
    unfold Lib.indexByte
    rw [h1, high_none c h l (fun x hx => hb x (by simp [hx]))]
    rfl
theorem last_high (r : Nat) (h1 : 128 ≤ r) (hv : Lib.validRune (r : Int) = true) : 128 ≤ ((BA (encodeRune (r : Int))).data.toList.getD ((encodeRune (r : Int)).length - 1) 0).toNat := by
  have hv2 : ((0 : Int) ≤ r ∧ (r : Int) < 0xD800) ∨ ((0xDFFF : Int) < r ∧ (r : Int) ≤ 0x10FFFF) := of_decide_eq_true hv
  have key : ((128 + (r : Int) % 64).toNat.toUInt8).toNat = 128 + r % 64 := by
    rw [show (128 + (r : Int) % 64).toNat = 128 + r % 64 by omega]
    rw [Nat.toUInt8, UInt8.toNat_ofNat']
    omega
  rw [show (BA (encodeRune (r : Int))).data.toList = encodeRune (r : Int) by simp]
  unfold encodeRune
  by_cases c2 : r ≤ 2047
  · rw [encodeRuneZ_two (by omega) (by omega)]
    simp only [List.map_cons, List.map_nil, List.length_cons, List.length_nil, List.getD_cons_succ, List.getD_cons_zero]
    rw [key]; omega
  by_cases c3 : r ≤ 65535
  · rw [encodeRuneZ_three (by omega)]
    simp only [List.map_cons, List.map_nil, List.length_cons, List.length_nil, List.getD_cons_succ, List.getD_cons_zero]
    rw [key]; omega
  · rw [encodeRuneZ_four (by omega) (by omega)]
    simp only [List.map_cons, List.map_nil, List.length_cons, List.length_nil, List.getD_cons_succ, List.getD_cons_zero]
    rw [key]; omega
set_option maxHeartbeats 2000000 in
set_option maxRecDepth 100000 in
theorem meant_high (r : Nat) (h1 : 128 ≤ r) (h2 : r ≤ 1114111) (h3 : ¬ (r = 65533)) (hv : Lib.validRune (r : Int) = true) (w : World) : Calls Tryz.prog 48 #[.string ⟨#[8, 12, 10, 13, 9]⟩, .int .i32 r] w fun e w' => e = .returned (.int .i64 (-1)) ∧ Below w.heap.size w w' := by
  obtain ⟨M, hM⟩ : ∃ M : ByteArray, M = ⟨#[8, 12, 10, 13, 9]⟩ := ⟨_, rfl⟩
  have hsz : M.size = 5 := by rw [hM]; rfl
  have hML : M.data.toList = [8, 12, 10, 13, 9] := by rw [hM]
  have hML2 : ∀ b ∈ M.data.toList, b.toNat < 128 := by rw [hML]; decide
  rw [← hM]
  clear hM
  have c1 : (0 : Int) ≤ (r : Int) := by omega
  have c2 : ¬ ((r : Int) < 128) := by omega
  have c3 : ¬ ((r : Int) = 65533) := by omega
  have cV : ∀ W, Calls Tryz.prog 84 #[.int .i32 r] W _ := fun W => Tryz.utf8_ValidRune r W
  rw [hv] at cV
  have HM := Lib.hid hML2
  clear hML hML2
  obtain ⟨RS, hRS⟩ : ∃ RS, Utf8.encode (r : Int) = RS := ⟨_, rfl⟩
  have hl4 : 1 ≤ RS.size ∧ RS.size ≤ 4 := by
    rw [← hRS, encode_ba, ba_size]
    have := encodeRuneZ_length (r : Int)
    unfold encodeRune
    rwa [List.length_map]
  have hcv : ∀ w, (convert 21 9 (.int .i32 (r : Int))).run Tryz.prog w = .ok (.string RS) w := fun w => by
    rw [← hRS]
    exact run_convert_int_string w _ _ _ _ (by kernel_rfl) Tryz.underlying9
  have hlast : 128 ≤ (RS.get! (RS.size - 1)).toNat := by
    rw [← hRS, encode_ba, ba_size, ← getD_get!']
    exact last_high r h1 hv
  clear hRS
  obtain ⟨L, hL⟩ : ∃ L : Nat, L + 1 = RS.size := ⟨RS.size - 1, by omega⟩
  rw [show RS.size - 1 = L by omega] at hlast
  have hi1 : (RS.size : Int) - 1 = (L : Int) := by omega
  clear hv
  go_enter Tryz.func48, Tryz.ntmps48
  go_wp2_with fail
  refine (cV _).mono ?_
  rintro e w1 ⟨rfl, rfl⟩
  go_wp2
  go_step3
  go_wp2
  refine wp_loop_rounds 1 ?_
  rw [rounds_succ]
  go_wp2
  have hL5 : L < M.size := by omega
  have hLR : L < RS.size := by omega
  obtain ⟨x, hx⟩ : ∃ x, M[L]'hL5 = x := ⟨_, rfl⟩
  obtain ⟨y, hy⟩ : ∃ y, RS[L]'hLR = y := ⟨_, rfl⟩
  have hxl : x.toNat < 128 := HM.out x (by rw [← hx]; exact Array.mem_toList_iff.2 (Array.getElem_mem (xs := M.data) hL5))
  have hyl : 128 ≤ y.toNat := by rw [Utf8W.get!_of_lt RS L hLR, hy] at hlast; exact hlast
  have hxy : ¬ ((x.toNat : Int) = (y.toNat : Int)) := by omega
  have hLz : (L : Int) < (RS.size : Int) := by omega
  go_step3
  go_wp2
  have hIB : ∀ (n m : Nat) (W : World), Calls Tryz.prog 55 #[.string (M.extract n m), .int .u8 (y.toNat : Int)] W fun e w' => e = .returned (.int .i64 (-1)) ∧ w' = W := fun n m W => by
    have h := Tryz.strings_IndexByte (M.extract n m) (y.toNat : Int) W
    rw [show ((y.toNat : Int).toNat.toUInt8) = y by simp, high_none y hyl _ (fun b hb => HM.out b (by
      rw [extract_data] at hb
      exact List.mem_of_mem_drop (List.mem_of_mem_take hb)))] at h
    exact h
  have hw1 : IntKind.i64.wrap ((L : Int) + 1) = (RS.size : Int) := by rw [IntWalk.i64_in _ (by omega)]; omega
  have hw2 : (RS.size : Int) ≤ (5 : Int) := by omega
  go_quiet (fail)
  obtain ⟨w2, hq2⟩ : ∃ w2, w1.drewN nq = w2 := ⟨_, rfl⟩
  have hb2 : Hid (Below w1.heap.size w1 w2) := Lib.hid (hq2 ▸ below_drewNv (Below.refl _ _) nq)
  rw [hq2]
  clear hq2
  go_wp2
  go_quiet ((go_at_call 55; exact Calls.quiet_of_same (hIB RS.size 5 _)))
  go_wp2
  simp only [Exit.inBlock, Exit.then, Exit.noGoto_ret]
  go_ret
  exact ⟨rfl, below_drewNv hb2.out _⟩
theorem meant_any (r : Nat) (h2 : r ≤ 1114111) (hv : Lib.validRune (r : Int) = true) (w : World) : Calls Tryz.prog 48 #[.string ⟨#[8, 12, 10, 13, 9]⟩, .int .i32 r] w fun e w' => e = .returned (.int .i64 (meantI r)) ∧ Below w.heap.size w w' := by
  by_cases c : r < 128
  · refine (Tryz.strings_IndexRune_ascii ⟨#[8, 12, 10, 13, 9]⟩ r w (by omega) (by omega)).mono ?_
    rintro e w' ⟨rfl, rfl⟩
    have := meant_low r c
    exact ⟨by rw [show (⟨#[8, 12, 10, 13, 9]⟩ : ByteArray).data.toList = [8, 12, 10, 13, 9] from rfl, this], Below.refl _ _⟩
  · have hm : meantI r = -1 := by
      unfold meantI
      rw [if_neg (by omega), if_neg (by omega), if_neg (by omega), if_neg (by omega), if_neg (by omega)]
    rw [hm]
    by_cases c3 : r = 65533
    · subst c3; exact meant_err w
    · exact meant_high r (by omega) h2 c3 hv w
end Go.Proofs.YtccnfnoonpfdfaaGreatDoor
namespace Go.Proofs.YtccnfnoonpfdfaaGreatDoor
open Go.Shelf Go.RowKit Go.Lib
/-- the builder at b (made at or above B) holds the bytes l. -/
def BH (B b : Nat) (l : BL) (w : World) : Prop := Lib.IsBuilderF 82 5 B b (Lib.byteCells l) w
theorem bh_byte (B b : Nat) (l : BL) (c : UInt8) (w : World) (h : BH B b l w) (hlen : l.length + 1 ≤ 140737488355328) (hBw : B ≤ w.heap.size) :
    Calls Tryz.prog 46 #[.pointer (some ⟨b, 0, none⟩), .int .u8 c.toNat] w fun e w' => e = .returned .nilIface ∧ BH B b (l ++ [c]) w' ∧ Below B w w' := by
  refine (b_byte B b _ _ w h (by rw [Lib.byteCells_length]; exact hlen) hBw).mono ?_
  rintro e w' ⟨rfl, h1, h2, _⟩
  exact ⟨rfl, Or.inr (by rw [Lib.byteCells_append]; exact h1), h2⟩
theorem bh_str (B b : Nat) (l : BL) (s : ByteArray) (w : World) (h : BH B b l w) (hlen : l.length + s.size ≤ 140737488355328) (hBw : B ≤ w.heap.size) :
    Calls Tryz.prog 50 #[.pointer (some ⟨b, 0, none⟩), .string s] w fun e w' => e = .returned (.tuple #[.int .i64 s.size, .nilIface]) ∧ BH B b (l ++ s.data.toList) w' ∧ Below B w w' := by
  refine (b_str B b _ _ w h (by rw [Lib.byteCells_length]; exact hlen) hBw).mono ?_
  rintro e w' ⟨rfl, h1, h2, _⟩
  exact ⟨rfl, Or.inr (by rw [Lib.byteCells_append]; exact h1), h2⟩
theorem bh_rune (B b : Nat) (l : BL) (r : Int) (hr0 : -2147483648 ≤ r) (hr1 : r ≤ 2147483647) (w : World) (h : BH B b l w) (hlen : l.length + 4 ≤ 140737488355328) (hBw : B ≤ w.heap.size) :
    Calls Tryz.prog 123 #[.pointer (some ⟨b, 0, none⟩), .int .i32 r] w fun e w' => (∃ v, e = .returned v) ∧ BH B b (l ++ encodeRune r) w' ∧ Below B w w' := by
  refine (b_rune B b _ r hr0 hr1 w h (by rw [Lib.byteCells_length]; exact hlen) hBw).mono ?_
  rintro e w' ⟨rfl, h1, h2, _⟩
  exact ⟨⟨_, rfl⟩, Or.inr (by rw [Lib.byteCells_append, Lib.byteCells_encodeRune]; exact h1), h2⟩
theorem bh_get (B b : Nat) (l : BL) (w : World) (h : BH B b l w) (hBw : B ≤ w.heap.size) :
    Calls Tryz.prog 51 #[.pointer (some ⟨b, 0, none⟩)] w fun e w' => e = .returned (.string (BA l)) ∧ Below B w w' := by
  refine (Tryz.Builder_String_any_k B b l w h hBw).mono ?_
  rintro e w' ⟨rfl, _, h2, _⟩
  exact ⟨rfl, h2⟩
theorem BH.below {B b : Nat} {l : BL} {w w2 : World} (h : BH B b l w) (hb : Below w.heap.size w w2) : BH B b l w2 := by
  have key : ∀ p, Lib.BuilderAtF 82 5 B b p (Lib.byteCells l) w → Lib.BuilderAtF 82 5 B b p (Lib.byteCells l) w2 := by
    rintro p ⟨hB, v, hbk, hown, hne⟩
    have hlt := lt_of_block hbk
    exact ⟨hB, v, (hb.block b hlt).trans hbk, hown.kept (row := none) ⟨hb.os, hb.tape, hb.output, hb.size, fun k hk _ => hb.block k hk⟩ (by rcases hv : v.ownBlock with _ | k <;> simp), hne⟩
  rcases h with h | h
  · exact .inl (key _ h)
  · exact .inr (key _ h)
theorem digit_at (K : Nat) (h : K < 16) : ∀ hh, (ByteArray.mk #[48, 49, 50, 51, 52, 53, 54, 55, 56, 57, 97, 98, 99, 100, 101, 102])[K]'hh = hexD K := by
  have key : ∀ k : Fin 16, (ByteArray.mk #[48, 49, 50, 51, 52, 53, 54, 55, 56, 57, 97, 98, 99, 100, 101, 102])[k.val]'(k.isLt) = hexD k.val := by decide +kernel
  intro hh
  exact key ⟨K, h⟩
def dig (r j : Nat) : Nat := r / 2 ^ (12 - 4 * j) % 16
theorem dig_lt (r j : Nat) : dig r j < 16 := Nat.mod_lt _ (by omega)
set_option maxHeartbeats 2000000 in
set_option maxRecDepth 100000 in
theorem unit_any (B b : Nat) (l : BL) (r : Nat) (hr : r ≤ 65535) (w : World) (h : BH B b l w) (hlen : l.length + 10 ≤ 140737488355328) (hBw : B ≤ w.heap.size) :
    Calls Tryz.prog 49 #[.pointer (some ⟨b, 0, none⟩), .int .i32 r] w fun e w' => e = .returned (.tuple #[]) ∧ BH B b (l ++ [92, 117, hexD (dig r 0), hexD (dig r 1), hexD (dig r 2), hexD (dig r 3)]) w' ∧ Below B w w' := by
  go_enter Tryz.func49, Tryz.ntmps49
  go_wp2_with fail
  refine (bh_str B b l _ w h (by have : (ByteArray.mk #[92, 117]).size = 2 := rfl; omega) hBw).mono ?_
  rintro e w1 ⟨rfl, h1, hb1⟩
  go_wp2
  go_loopg [4] 5 (fun gk sv wr => ∃ j : Nat, gk + j = 5 ∧ j ≤ 4 ∧ sv = .int .i64 (12 - 4 * (j : Int)) ∧ BH B b (l ++ [92, 117] ++ ([hexD (dig r 0), hexD (dig r 1), hexD (dig r 2), hexD (dig r 3)] : BL).take j) wr ∧ Below B w wr)
  case atStart => exact ⟨0, rfl, by omega, rfl, by simpa using h1, hb1⟩
  case round =>
    obtain ⟨j, hj, hj5, rfl, hB, hbw⟩ := hrel
    have HB := Lib.hid (And.intro hB hbw)
    clear hB hbw
    by_cases hj4 : j < 4
    · have hc : (0 : Int) ≤ 12 - 4 * (j : Int) := by omega
      have hd : bits .and .i32 ((r : Int) / 2 ^ (12 - 4 * j)) 15 = ((dig r j : Nat) : Int) := by
        have := and15_shift (r : Int) r rfl (by omega) (2 ^ (12 - 4 * j))
        simpa [dig] using this
      have hK := dig_lt r j
      have hix := digit_at _ hK
      have hnext : ([hexD (dig r 0), hexD (dig r 1), hexD (dig r 2), hexD (dig r 3)] : BL).take j ++ [hexD (dig r j)] = ([hexD (dig r 0), hexD (dig r 1), hexD (dig r 2), hexD (dig r 3)] : BL).take (j + 1) := by
        match j, hj4 with
        | 0, _ => rfl
        | 1, _ => rfl
        | 2, _ => rfl
        | 3, _ => rfl
      have HN := Lib.hid hnext
      clear hnext
      generalize dig r j = K at hd hK hix HN
      have hKz : (K : Int) < 16 := by omega
      have hw4 : IntKind.i64.wrap (12 - 4 * (j : Int) - 4) = 12 - 4 * ((j + 1 : Nat) : Int) := by rw [IntWalk.i64_in _ (by omega)]; omega
      have hlt4 : (([hexD (dig r 0), hexD (dig r 1), hexD (dig r 2), hexD (dig r 3)] : BL).take j).length ≤ 4 := by rw [List.length_take]; simp; omega
      have HL := Lib.hid hlt4
      clear hlt4
      go_wp2_with fail
      refine (bh_byte B b _ (hexD K) _ HB.out.1 (by have := HL.out; simp only [List.length_append, List.length_cons, List.length_nil]; omega) (by have := HB.out.2.size; omega)).mono ?_
      rintro e w2 ⟨rfl, h2, hb2⟩
      have H2 := Lib.hid (And.intro h2 (HB.out.2.trans hb2))
      clear h2 hb2
      go_wp2
      go_roundg (gk - 1)
      case rel =>
        refine ⟨j + 1, by omega, by omega, by first | rfl | omega | (simp; omega), ?_, H2.out.2⟩
        rw [← HN.out, ← List.append_assoc]
        exact H2.out.1
      case measure => omega
    · obtain rfl : j = 4 := by omega
      go_wp2
      go_end0
      refine ⟨rfl, ?_, HB.out.2⟩
      have := HB.out.1
      simpa using this
end Go.Proofs.YtccnfnoonpfdfaaGreatDoor
namespace Go.Proofs.YtccnfnoonpfdfaaGreatDoor
open Go.Shelf Go.RowKit Go.Lib
theorem drop_ba (s : ByteArray) (pos : Nat) (_h : pos ≤ s.size) : (s.extract pos s.size).data.toList = s.data.toList.drop pos := by
  rw [extract_data, List.take_of_length_le (by rw [List.length_drop, ← size_eq]; omega)]
theorem piece_ba (s : ByteArray) (pos n : Nat) (_h : pos + n ≤ s.size) : (s.extract pos (pos + n)).data.toList = (s.data.toList.drop pos).take n := by
  rw [extract_data, show pos + n - pos = n by omega]
/-- one step of a text that is gone through by its characters. -/
theorem chunks_at (L acc : BL) (pos : Nat) (T : BL) (hp : pos < L.length) (h : acc ++ chunks (L.drop pos) = T) :
    (acc ++ chunkL (L.drop pos)) ++ chunks (L.drop (pos + (decodeL (L.drop pos)).2)) = T := by
  have hne : L.drop pos ≠ [] := fun e => by
    have := congrArg List.length e
    rw [List.length_drop] at this
    simp at this
    omega
  rw [← h, chunks_step _ hne, List.drop_drop, List.append_assoc]
theorem chunk_err (piece : BL) : chunkC 65533 1 piece = [92, 117, hexD (dig 65533 0), hexD (dig 65533 1), hexD (dig 65533 2), hexD (dig 65533 3)] := by
  unfold chunkC
  rw [if_pos ⟨rfl, rfl⟩]
  decide
theorem chunk_low (R K : Nat) (piece : BL) (h : R < 32) (h2 : meantI R = -1) : chunkC R K piece = [92, 117, hexD (dig R 0), hexD (dig R 1), hexD (dig R 2), hexD (dig R 3)] := by
  unfold meantI at h2
  have h8 : R ≠ 8 := fun e => by rw [if_pos e] at h2; omega
  rw [if_neg h8] at h2
  have h12 : R ≠ 12 := fun e => by rw [if_pos e] at h2; omega
  rw [if_neg h12] at h2
  have h10 : R ≠ 10 := fun e => by rw [if_pos e] at h2; omega
  rw [if_neg h10] at h2
  have h13 : R ≠ 13 := fun e => by rw [if_pos e] at h2; omega
  rw [if_neg h13] at h2
  have h9 : R ≠ 9 := fun e => by rw [if_pos e] at h2; omega
  unfold chunkC
  rw [if_neg (by omega), if_neg h8, if_neg h9, if_neg h10, if_neg h12, if_neg h13, if_pos h]
  have key : ∀ r : Fin 32, ([48, 48, hexD (r.val / 16), hexD (r.val % 16)] : BL) = [hexD (dig r.val 0), hexD (dig r.val 1), hexD (dig r.val 2), hexD (dig r.val 3)] := by decide
  have := key ⟨R, h⟩
  simpa using this
theorem chunk_short (R K : Nat) (piece : BL) (h2 : meantI R ≠ -1) : ∃ k : Nat, k < 5 ∧ meantI R = k ∧ R < 32 ∧ ∃ c, chunkC R K piece = [92, c] ∧ ∀ hh, (ByteArray.mk #[98, 102, 110, 114, 116])[k]'hh = c := by
  unfold meantI at h2 ⊢
  by_cases h8 : R = 8
  · subst h8; exact ⟨0, by omega, rfl, by omega, 98, by simp [chunkC], fun _ => rfl⟩
  rw [if_neg h8] at h2 ⊢
  by_cases h12 : R = 12
  · subst h12; exact ⟨1, by omega, rfl, by omega, 102, by simp [chunkC], fun _ => rfl⟩
  rw [if_neg h12] at h2 ⊢
  by_cases h10 : R = 10
  · subst h10; exact ⟨2, by omega, rfl, by omega, 110, by simp [chunkC], fun _ => rfl⟩
  rw [if_neg h10] at h2 ⊢
  by_cases h13 : R = 13
  · subst h13; exact ⟨3, by omega, rfl, by omega, 114, by simp [chunkC], fun _ => rfl⟩
  rw [if_neg h13] at h2 ⊢
  by_cases h9 : R = 9
  · subst h9; exact ⟨4, by omega, rfl, by omega, 116, by simp [chunkC], fun _ => rfl⟩
  rw [if_neg h9] at h2
  exact absurd rfl h2
theorem chunk_self (R K : Nat) (piece : BL) (h1 : ¬ (R = 65533 ∧ K = 1)) (h2 : ¬ R < 32) (h3 : R = 34 ∨ R = 92) : chunkC R K piece = 92 :: piece := by
  unfold chunkC
  rw [if_neg h1, if_neg (by omega), if_neg (by omega), if_neg (by omega), if_neg (by omega), if_neg (by omega), if_neg h2, if_pos h3]
theorem chunk_piece (R K : Nat) (piece : BL) (h1 : ¬ (R = 65533 ∧ K = 1)) (h2 : ¬ R < 32) (h3 : ¬ (R = 34 ∨ R = 92)) : chunkC R K piece = piece := by
  unfold chunkC
  rw [if_neg h1, if_neg (by omega), if_neg (by omega), if_neg (by omega), if_neg (by omega), if_neg (by omega), if_neg h2, if_neg h3]
set_option maxHeartbeats 4000000 in
set_option maxRecDepth 100000 in
theorem quote_any (s : ByteArray) (w : World) (hs : s.size ≤ 1099511627776) (hT : Tabs w) :
    Calls Tryz.prog 26 #[.string s] w fun e w' => e = .returned (.string (BA (quoteL s.data.toList))) ∧ Below w.heap.size w w' := by
  obtain ⟨L, hL⟩ : ∃ L, s.data.toList = L := ⟨_, rfl⟩
  have hLs : L.length = s.size := by rw [← hL, ← size_eq]
  have HT := Lib.hid hT
  have HL := Lib.hid hL
  clear hT
  rw [hL]
  clear hL
  go_enter Tryz.func26, Tryz.ntmps26
  go_wp2_with fail
  have hB0 : BH w.heap.size w.heap.size [] (w.alloc (.cells #[.pointer none, .slice none 0 0] 82)) := Lib.IsBuilderF.of (Lib.fresh_isBuilder _ _ w)
  refine (bh_byte w.heap.size w.heap.size [] 34 _ hB0 (by simp) (by simp)).mono ?_
  rintro e w1 ⟨rfl, hB1, hb1⟩
  have H1 := Lib.hid (And.intro hB1 (((Below.refl _ w).alloc (Nat.le_refl _) _).trans hb1))
  clear hB1 hb1 hB0
  go_wp2
  go_loopg [4] s.size (fun gk iv wr => ∃ (pos : Nat) (acc : BL), gk + pos = s.size ∧ iv = .int .i64 pos ∧ BH w.heap.size w.heap.size (34 :: acc) wr ∧ acc ++ chunks (L.drop pos) = chunks L ∧ acc.length ≤ 6 * pos ∧ Below w.heap.size w wr)
  case atStart => exact ⟨0, [], by omega, rfl, H1.out.1, rfl, by simp, H1.out.2⟩
  case round =>
    obtain ⟨pos, acc, hg, rfl, hB, hacc, hal, hbw⟩ := hrel
    have HB := Lib.hid (And.intro hB (And.intro hacc (And.intro hal hbw)))
    clear hB hacc hal hbw
    by_cases hp : pos < s.size
    · have hpz : (pos : Int) < (s.size : Int) := by omega
      have hple : (pos : Int) ≤ (s.size : Int) := by omega
      obtain ⟨D, hD⟩ : ∃ D, L.drop pos = D := ⟨_, rfl⟩
      have hDne : D ≠ [] := fun e => by
        have := congrArg List.length (hD.trans e)
        rw [List.length_drop] at this
        simp at this
        omega
      have hKle := decodeL_le D hDne
      have hKw := decodeL_width D
      have hRle := decodeL_rune D
      have hRv := decodeL_valid D
      have hDl : D.length = s.size - pos := by rw [← hD, List.length_drop]; omega
      have hch := chunks_at L acc pos _ (by omega) HB.out.2.1
      rw [hD] at hch
      obtain ⟨R, hR⟩ : ∃ R, (decodeL D).1 = R := ⟨_, rfl⟩
      obtain ⟨K, hK⟩ : ∃ K, (decodeL D).2 = K := ⟨_, rfl⟩
      obtain ⟨X, hX⟩ : ∃ X, s.extract pos s.size = X := ⟨_, rfl⟩
      have hXD : X.data.toList = D := by rw [← hX, drop_ba s pos (by omega), HL.out, hD]
      obtain ⟨Y, hY⟩ : ∃ Y, s.extract pos (pos + K) = Y := ⟨_, rfl⟩
      have hYD : Y.data.toList = D.take K := by rw [← hY, piece_ba s pos K (by omega), HL.out, hD]
      have cD : Calls Tryz.prog 47 #[.string X] wr _ := dec_any X wr (HT.out.below HB.out.2.2.2) (by rw [hXD]; exact hDne)
      rw [hXD, hR, hK] at cD
      have hwK : IntKind.i64.wrap ((pos : Int) + (K : Int)) = ((pos + K : Nat) : Int) := by rw [IntWalk.i64_in _ (by omega)]; omega
      have hbK : ((pos + K : Nat) : Int) ≤ (s.size : Int) := by omega
      have hbp : (pos : Int) ≤ ((pos + K : Nat) : Int) := by omega
      rw [hR] at hRle hRv
      rw [hK] at hKle hKw hch
      have hcl : chunkL D = chunkC R K (D.take K) := by unfold chunkL; rw [hR, hK]
      rw [hcl] at hch
      have hcln : (chunkC R K (D.take K)).length ≤ 6 * K := by
        have := (chunkL_length D hDne).1
        rw [hK, hcl] at this
        exact this
      have HC := Lib.hid (And.intro hch (And.intro hcln hYD))
      have HV := Lib.hid hRv
      clear hch hcln hcl hYD hRv hXD hDl hDne hD
      go_wp2_with fail
      refine cD.mono ?_
      rintro e w2 ⟨rfl, hb2⟩
      have H2 := Lib.hid (And.intro (HB.out.1.below hb2) (HB.out.2.2.2.trans (hb2.mono HB.out.2.2.2.size)))
      clear hb2 cD
      go_wp2_with fail
      refine (meant_any R hRle HV.out _).mono ?_
      rintro e w3 ⟨rfl, hb3⟩
      have H3 := Lib.hid (And.intro (H2.out.1.below hb3) (H2.out.2.trans (hb3.mono H2.out.2.size)))
      clear hb3 H2
      have hsz3 := H3.out.2.size
      have hl3 : (34 :: acc : BL).length + 24 + 1099511627776 ≤ 140737488355328 := by have := HB.out.2.2.1; rw [List.length_cons]; omega
      have hYs : Y.size ≤ 1099511627776 := by
        rw [← hY, ByteArray.size_extract]; omega
      have hfin : ∀ (C : BL) (W : World), C = chunkC R K (D.take K) → BH w.heap.size w.heap.size (34 :: acc ++ C) W → Below w.heap.size w W →
          ∃ (pos' : Nat) (acc' : BL), (gk - K) + pos' = s.size ∧ Value.int .i64 ((pos + K : Nat) : Int) = .int .i64 pos' ∧ BH w.heap.size w.heap.size (34 :: acc') W ∧ acc' ++ chunks (L.drop pos') = chunks L ∧ acc'.length ≤ 6 * pos' ∧ Below w.heap.size w W := fun C W hC h1 h2 => by
        refine ⟨pos + K, acc ++ C, by omega, rfl, h1, ?_, ?_, h2⟩
        · rw [hC]; exact HC.out.1
        · have h5 := HB.out.2.2.1
          have h6 := HC.out.2.1
          rw [hC, List.length_append]
          omega
      have HF := Lib.hid hfin
      have HX := Lib.hid (And.intro hsz3 (And.intro hl3 hYs))
      clear hfin hl3 hYs hsz3
      by_cases hA : R = 65533 ∧ K = 1
      · obtain ⟨rfl, rfl⟩ := hA
        go_wp2_with fail
        refine (unit_any _ _ (34 :: acc) 65533 (by omega) _ H3.out.1 (by have := HX.out.2.1; omega) HX.out.1).mono ?_
        rintro e w4 ⟨rfl, h4, hb4⟩
        have H9 := Lib.hid (HF.out _ _ (chunk_err _).symm h4 (H3.out.2.trans hb4))
        clear h4 hb4
        go_wp2
        go_roundg (gk - 1)
        case rel => exact H9.out
        case measure => omega
      by_cases h32 : R < 32
      · have h32z : (R : Int) < 32 := by omega
        have hn65 : ¬ (R : Int) = 65533 := by omega
        by_cases hm : meantI R = -1
        · have HS := Lib.hid (chunk_low R K (D.take K) h32 hm)
          go_wp2_with fail
          refine (unit_any _ _ (34 :: acc) R (by omega) _ H3.out.1 (by have := HX.out.2.1; omega) HX.out.1).mono ?_
          rintro e w4 ⟨rfl, h4, hb4⟩
          have H9 := Lib.hid (HF.out _ _ HS.out.symm h4 (H3.out.2.trans hb4))
          clear h4 hb4
          go_wp2
          go_roundg (gk - K)
          case rel => exact H9.out
          case measure => omega
        · obtain ⟨k, hk5, hmk, _, c, hc, hidx⟩ := chunk_short R K (D.take K) hm
          have HS := Lib.hid hc
          have hk0 : (0 : Int) ≤ (k : Int) := by omega
          have hkz : (k : Int) < 5 := by omega
          clear hc hm
          go_wp2_with fail
          refine (bh_byte _ _ (34 :: acc) 92 _ H3.out.1 (by have := HX.out.2.1; omega) HX.out.1).mono ?_
          rintro e w4 ⟨rfl, h4, hb4⟩
          have H4 := Lib.hid (And.intro h4 (And.intro (H3.out.2.trans hb4) (by have := HX.out.1; have := hb4.size; omega : w.heap.size ≤ w4.heap.size)))
          clear h4 hb4
          go_wp2_with fail
          refine (bh_byte _ _ (34 :: acc ++ [92]) c _ H4.out.1 (by have := HX.out.2; rw [List.length_append]; simp only [List.length_cons, List.length_nil] at this ⊢; omega) H4.out.2.2).mono ?_
          rintro e w5 ⟨rfl, h5, hb5⟩
          have H9 := Lib.hid (HF.out [92, c] _ HS.out.symm (by rw [List.append_assoc] at h5; exact h5) (H4.out.2.1.trans hb5))
          clear h5 hb5
          go_wp2
          go_roundg (gk - K)
          case rel => exact H9.out
          case measure => omega
      have h32z : ¬ (R : Int) < 32 := by omega
      have hAz : (R : Int) = 65533 → ¬ (K : Int) = 1 := by omega
      by_cases hq : R = 34
      · have HS := Lib.hid (chunk_self R K Y.data.toList hA h32 (.inl hq))
        have hqz : (R : Int) = 34 := by omega
        have hn65 : ¬ (R : Int) = 65533 := by omega
        clear hA hAz h32
        go_wp2_with fail
        refine (bh_byte _ _ (34 :: acc) 92 _ H3.out.1 (by have := HX.out.2.1; omega) HX.out.1).mono ?_
        rintro e w4 ⟨rfl, h4, hb4⟩
        have H4 := Lib.hid (And.intro h4 (And.intro (H3.out.2.trans hb4) (by have := HX.out.1; have := hb4.size; omega : w.heap.size ≤ w4.heap.size)))
        clear h4 hb4
        go_wp2_with fail
        refine (bh_str _ _ (34 :: acc ++ [92]) Y _ H4.out.1 (by have := HX.out.2; rw [List.length_append]; simp only [List.length_cons, List.length_nil] at this ⊢; omega) H4.out.2.2).mono ?_
        rintro e w5 ⟨rfl, h5, hb5⟩
        have H9 := Lib.hid (HF.out (92 :: Y.data.toList) _ (by rw [← HC.out.2.2, HS.out]) (by rw [List.append_assoc] at h5; exact h5) (H4.out.2.1.trans hb5))
        clear h5 hb5
        go_wp2
        go_roundg (gk - K)
        case rel => exact H9.out
        case measure => omega
      by_cases hq2 : R = 92
      · have HS := Lib.hid (chunk_self R K Y.data.toList hA h32 (.inr hq2))
        have hqz : ¬ (R : Int) = 34 := by omega
        have hqz2 : (R : Int) = 92 := by omega
        have hn65 : ¬ (R : Int) = 65533 := by omega
        clear hA hAz h32
        go_wp2_with fail
        refine (bh_byte _ _ (34 :: acc) 92 _ H3.out.1 (by have := HX.out.2.1; omega) HX.out.1).mono ?_
        rintro e w4 ⟨rfl, h4, hb4⟩
        have H4 := Lib.hid (And.intro h4 (And.intro (H3.out.2.trans hb4) (by have := HX.out.1; have := hb4.size; omega : w.heap.size ≤ w4.heap.size)))
        clear h4 hb4
        go_wp2_with fail
        refine (bh_str _ _ (34 :: acc ++ [92]) Y _ H4.out.1 (by have := HX.out.2; rw [List.length_append]; simp only [List.length_cons, List.length_nil] at this ⊢; omega) H4.out.2.2).mono ?_
        rintro e w5 ⟨rfl, h5, hb5⟩
        have H9 := Lib.hid (HF.out (92 :: Y.data.toList) _ (by rw [← HC.out.2.2, HS.out]) (by rw [List.append_assoc] at h5; exact h5) (H4.out.2.1.trans hb5))
        clear h5 hb5
        go_wp2
        go_roundg (gk - K)
        case rel => exact H9.out
        case measure => omega
      have HS := Lib.hid (chunk_piece R K Y.data.toList hA h32 (fun h => h.elim hq hq2))
      have hqz : ¬ (R : Int) = 34 := by omega
      have hqz2 : ¬ (R : Int) = 92 := by omega
      have hdec : decide ((R : Int) < 32) = false := decide_eq_false h32z
      have hb34 : ((R : Int) == 34) = false := beq_eq_false_iff_ne.2 hqz
      have hb92 : ((R : Int) == 92) = false := beq_eq_false_iff_ne.2 hqz2
      clear hA h32 hq hq2 hR hK hX hRle hKle
      by_cases h65 : (R : Int) = 65533
      · have hK1 : ((K : Int) == 1) = false := beq_eq_false_iff_ne.2 (hAz h65)
        clear hAz
        go_wp2_with fail
        refine (bh_str _ _ (34 :: acc) Y _ H3.out.1 (by have := HX.out.2; simp only [List.length_cons] at this ⊢; omega) HX.out.1).mono ?_
        rintro e w5 ⟨rfl, h5, hb5⟩
        have H9 := Lib.hid (HF.out Y.data.toList _ (by rw [← HC.out.2.2, HS.out]) h5 (H3.out.2.trans hb5))
        clear h5 hb5
        go_wp2
        go_roundg (gk - K)
        case rel => exact H9.out
        case measure => omega
      · have hb65 : ((R : Int) == 65533) = false := beq_eq_false_iff_ne.2 h65
        clear hAz
        go_wp2_with fail
        refine (bh_str _ _ (34 :: acc) Y _ H3.out.1 (by have := HX.out.2; simp only [List.length_cons] at this ⊢; omega) HX.out.1).mono ?_
        rintro e w5 ⟨rfl, h5, hb5⟩
        have H9 := Lib.hid (HF.out Y.data.toList _ (by rw [← HC.out.2.2, HS.out]) h5 (H3.out.2.trans hb5))
        clear h5 hb5
        go_wp2
        go_roundg (gk - K)
        case rel => exact H9.out
        case measure => omega
    · have hpz : ¬ (pos : Int) < (s.size : Int) := by omega
      have hq := HB.out.2.1
      have hsz := HB.out.2.2.2.size
      rw [List.drop_eq_nil_of_le (by omega), chunks_nil, List.append_nil] at hq
      subst hq
      have hll : (34 :: chunks L : BL).length + 1 ≤ 140737488355328 := by have := chunks_length L; rw [List.length_cons]; omega
      have HX := Lib.hid (And.intro hsz hll)
      clear hsz hll
      go_wp2_with fail
      refine (bh_byte _ _ (34 :: chunks L) 34 _ HB.out.1 HX.out.2 HX.out.1).mono ?_
      rintro e w4 ⟨rfl, h4, hb4⟩
      have H4 := Lib.hid (And.intro h4 (And.intro (HB.out.2.2.2.trans hb4) (by have := HX.out.1; have := hb4.size; omega : w.heap.size ≤ w4.heap.size)))
      clear h4 hb4
      go_wp2_with fail
      refine (bh_get _ _ (34 :: chunks L ++ [34]) _ H4.out.1 H4.out.2.2).mono ?_
      rintro e w5 ⟨rfl, hb5⟩
      have H5 := Lib.hid (H4.out.2.1.trans hb5)
      clear hb5
      go_wp2
      go_ret
      exact ⟨rfl, H5.out⟩
end Go.Proofs.YtccnfnoonpfdfaaGreatDoor
namespace Go.Proofs.YtccnfnoonpfdfaaGreatDoor
open Go.Shelf Go.RowKit Go.Lib
def hv (l : BL) (i : Nat) : Int := hexV (l.getD i 0).toNat
def valN (l : BL) : Nat → Int
  | 0 => 0
  | i + 1 => valN l i * 16 + hv l i
theorem four_ok (l : BL) (h : ∀ j, j < 4 → 0 ≤ hv l j) : fourL l = valN l 4 := by
  have h0 := h 0 (by omega); have h1 := h 1 (by omega); have h2 := h 2 (by omega); have h3 := h 3 (by omega)
  unfold hv at h0 h1 h2 h3
  unfold fourL valN valN valN valN valN hv
  rw [if_neg (by omega)]
  omega
theorem four_bad (l : BL) (j : Nat) (hj : j < 4) (h : hv l j < 0) : fourL l = -1 := by
  unfold hv at h
  unfold fourL
  rw [if_pos]
  match j, hj with
  | 0, _ => exact .inl h
  | 1, _ => exact .inr (.inl h)
  | 2, _ => exact .inr (.inr (.inl h))
  | 3, _ => exact .inr (.inr (.inr h))
theorem four_short (l : BL) (j : Nat) (hj : j < 4) (h : l.length ≤ j) : fourL l = -1 := by
  refine four_bad l j hj ?_
  unfold hv
  simp [List.getD, List.getElem?_eq_none h]
  decide
theorem valN_range (l : BL) : ∀ i, (∀ j, j < i → 0 ≤ hv l j) → 0 ≤ valN l i ∧ valN l i < 16 ^ i
  | 0, _ => by simp [valN]
  | i + 1, h => by
    have ih := valN_range l i (fun j hj => h j (by omega))
    have h1 := h i (by omega)
    have h2 := hexV_le (l.getD i 0).toNat
    unfold hv at h1
    simp only [valN, hv]
    rw [Int.pow_succ]
    omega
theorem four_cases (b : UInt8) :
    (b.toNat < 48 ∧ hexV b.toNat = -1) ∨
    (48 ≤ b.toNat ∧ Lib.indexByte [48, 49, 50, 51, 52, 53, 54, 55, 56, 57, 97, 98, 99, 100, 101, 102] (b ||| 32) = -1 ∧ hexV b.toNat = -1) ∨
    (48 ≤ b.toNat ∧ Lib.indexByte [48, 49, 50, 51, 52, 53, 54, 55, 56, 57, 97, 98, 99, 100, 101, 102] (b ||| 32) = hexV b.toNat ∧ 0 ≤ hexV b.toNat ∧ hexV b.toNat < 10 ∧ hexD (hexV b.toNat).toNat = b) ∨
    (48 ≤ b.toNat ∧ Lib.indexByte [48, 49, 50, 51, 52, 53, 54, 55, 56, 57, 97, 98, 99, 100, 101, 102] (b ||| 32) = hexV b.toNat ∧ 10 ≤ hexV b.toNat) := by
  have key : ∀ k : Fin 256, (k.val < 48 ∧ hexV k.val = -1) ∨
    (48 ≤ k.val ∧ Lib.indexByte [48, 49, 50, 51, 52, 53, 54, 55, 56, 57, 97, 98, 99, 100, 101, 102] (UInt8.ofNat k.val ||| 32) = -1 ∧ hexV k.val = -1) ∨
    (48 ≤ k.val ∧ Lib.indexByte [48, 49, 50, 51, 52, 53, 54, 55, 56, 57, 97, 98, 99, 100, 101, 102] (UInt8.ofNat k.val ||| 32) = hexV k.val ∧ 0 ≤ hexV k.val ∧ hexV k.val < 10 ∧ hexD (hexV k.val).toNat = UInt8.ofNat k.val) ∨
    (48 ≤ k.val ∧ Lib.indexByte [48, 49, 50, 51, 52, 53, 54, 55, 56, 57, 97, 98, 99, 100, 101, 102] (UInt8.ofNat k.val ||| 32) = hexV k.val ∧ 10 ≤ hexV k.val) := by decide +kernel
  have := key ⟨b.toNat, b.toNat_lt⟩
  simpa using this
theorem or32 (b : UInt8) : bits .or .u8 (b.toNat : Int) 32 = ((b ||| 32).toNat : Int) := by
  have := u8_or_nat b.toNat 32 b.toNat_lt (by omega)
  rw [UInt8.toNat_or]
  exact this
theorem or16 (V K : Int) (h0 : 0 ≤ V) (h1 : V < 4096) (h2 : 0 ≤ K) (h3 : K < 16) : bits .or .i32 (wrap32 (V * 16)) K = V * 16 + K := by
  rw [show wrap32 (V * 16) = V * 16 by unfold wrap32; omega]
  exact bits_join .i32 31 (by decide) wraps_i32 4 _ _ (by omega) (by omega) (by omega) h2 (by omega) (by omega)
set_option maxHeartbeats 2000000 in
set_option maxRecDepth 100000 in
theorem four_any (s : ByteArray) (w : World) :
    Calls Tryz.prog 151 #[.string s] w fun e w' => e = .returned (.int .i32 (fourL s.data.toList)) ∧ Below w.heap.size w w' := by
  obtain ⟨L, hL⟩ : ∃ L, s.data.toList = L := ⟨_, rfl⟩
  have hLs : L.length = s.size := by rw [← hL, ← size_eq]
  have hget : ∀ i, s.get! i = L.getD i 0 := fun i => by rw [← getD_get!', hL]
  rw [hL]
  clear hL
  by_cases h4 : s.size < 4
  · rw [four_short L 3 (by omega) (by omega)]
    have h4z : (s.size : Int) < 4 := by omega
    clear hget
    go_enter Tryz.func151, Tryz.ntmps151
    go_wp2
    go_ret
    exact ⟨rfl, Below.refl _ _⟩
  · have h4z : ¬ (s.size : Int) < 4 := by omega
    have HG := Lib.hid hget
    clear hget
    go_enter Tryz.func151, Tryz.ntmps151
    go_wp2
    go_loopg [3, 9] 4 (fun gk nv iv wr => ∃ i : Nat, gk + i = 4 ∧ iv = .int .i64 i ∧ nv = .int .i32 (valN L i) ∧ (∀ j, j < i → 0 ≤ hv L j) ∧ Below w.heap.size w wr)
    case atStart => exact ⟨0, rfl, rfl, rfl, fun j hj => by omega, Below.refl _ _⟩
    case round =>
      obtain ⟨i, hg, rfl, rfl, hok, hbw⟩ := hrel
      have HB := Lib.hid (And.intro hok hbw)
      clear hok hbw
      by_cases hi : i < 4
      · have hiz : (i : Int) < 4 := by omega
        have his : i < s.size := by omega
        have hisz : (i : Int) < (s.size : Int) := by omega
        obtain ⟨b, hb⟩ : ∃ b, s[i]'his = b := ⟨_, rfl⟩
        have hbL : L.getD i 0 = b := by rw [← HG.out i, Utf8W.get!_of_lt s i his, hb]
        have ho := or32 b
        have hc := four_cases b
        have hvb : hv L i = hexV b.toNat := by unfold hv; rw [hbL]
        have hr := valN_range L i HB.out.1
        have cI : ∀ W, Calls Tryz.prog 55 #[.string ⟨#[48, 49, 50, 51, 52, 53, 54, 55, 56, 57, 97, 98, 99, 100, 101, 102]⟩, .int .u8 ((b ||| 32).toNat : Int)] W fun e w' => e = .returned (.int .i64 (Lib.indexByte [48, 49, 50, 51, 52, 53, 54, 55, 56, 57, 97, 98, 99, 100, 101, 102] (b ||| 32))) ∧ w' = W := fun W => by
          have h := Tryz.strings_IndexByte ⟨#[48, 49, 50, 51, 52, 53, 54, 55, 56, 57, 97, 98, 99, 100, 101, 102]⟩ ((b ||| 32).toNat : Int) W
          rw [show (((b ||| 32).toNat : Int).toNat.toUInt8) = b ||| 32 by simp] at h
          exact h
        obtain ⟨Z, hZ⟩ : ∃ Z, Lib.indexByte [48, 49, 50, 51, 52, 53, 54, 55, 56, 57, 97, 98, 99, 100, 101, 102] (b ||| 32) = Z := ⟨_, rfl⟩
        obtain ⟨V, hV⟩ : ∃ V, valN L i = V := ⟨_, rfl⟩
        rw [hZ] at hc
        simp only [hZ] at cI
        rw [hV] at hr
        simp only [hV]
        have hV4 : V < 4096 := by
          have : (16 : Int) ^ i ≤ 4096 := by
            match i, hi with
            | 0, _ => decide
            | 1, _ => decide
            | 2, _ => decide
            | 3, _ => decide
          omega
        have HH := Lib.hid (And.intro hV (And.intro hvb (And.intro hr.1 hV4)))
        clear hV4
        clear hZ hbL hV hvb
        rcases hc with ⟨h48, hx⟩ | ⟨h48, rfl, hx⟩ | ⟨h48, rfl, hx0, hx1, hd⟩ | ⟨h48, rfl, hx0⟩
        · have hdec : decide ((b.toNat : Int) < 48) = true := decide_eq_true (by omega)
          have HX := Lib.hid hx
          clear hx h48
          go_wp2_with fail
          refine (cI _).mono ?_
          rintro e w2 ⟨rfl, rfl⟩
          go_wp2
          go_quiet (fail)
          go_wp2
          go_ret
          rw [four_bad L i hi (by rw [HH.out.2.1, HX.out]; omega)]
          exact ⟨rfl, below_drewNv HB.out.2 _⟩
        · have hdec : decide ((b.toNat : Int) < 48) = false := decide_eq_false (by omega)
          have HX := Lib.hid hx
          clear hx h48
          go_wp2_with fail
          refine (cI _).mono ?_
          rintro e w2 ⟨rfl, rfl⟩
          go_wp2
          go_quiet (fail)
          go_wp2
          go_ret
          rw [four_bad L i hi (by rw [HH.out.2.1, HX.out]; omega)]
          exact ⟨rfl, below_drewNv HB.out.2 _⟩
        · obtain ⟨K, hK⟩ : ∃ K : Nat, hexV b.toNat = K := ⟨(hexV b.toNat).toNat, by omega⟩
          rw [hK] at cI hx0 hx1 hd
          have hKv := HH.out.2.1.trans hK
          have hix : ∀ hh, (ByteArray.mk #[48, 49, 50, 51, 52, 53, 54, 55, 56, 57, 97, 98, 99, 100, 101, 102])[K]'hh = b := fun hh => by rw [digit_at K (by omega) hh, ← hd]; simp
          have hdec : decide ((b.toNat : Int) < 48) = false := decide_eq_false (by omega)
          have hdec1 : decide ((K : Int) < 0) = false := decide_eq_false (by omega)
          have hdec2 : decide ((K : Int) < 10) = true := decide_eq_true (by omega)
          have hdec3 : ((b.toNat : Int) != (b.toNat : Int)) = false := by simp
          have hK16 : (K : Int) < 16 := by omega
          have hsz16 : (ByteArray.mk #[48, 49, 50, 51, 52, 53, 54, 55, 56, 57, 97, 98, 99, 100, 101, 102]).size = 16 := rfl
          have HX := Lib.hid hKv
          clear hKv h48 hd hK
          go_wp2_with fail
          refine (cI _).mono ?_
          rintro e w2 ⟨rfl, rfl⟩
          go_wp2
          go_quiet (fail)
          go_wp2
          go_roundg (gk - 1)
          case rel =>
            refine ⟨i + 1, by omega, rfl, ?_, ?_, below_drewNv HB.out.2 _⟩
            · show Value.int .i32 _ = .int .i32 (valN L i * 16 + hv L i)
              rw [or16 _ _ HH.out.2.2.1 HH.out.2.2.2 (by omega) (by omega), HX.out, HH.out.1]
            · intro j hj
              by_cases hji : j = i
              · rw [hji, HX.out]; omega
              · exact HB.out.1 j (by omega)
          case measure => omega
        · obtain ⟨K, hK⟩ : ∃ K : Nat, hexV b.toNat = K := ⟨(hexV b.toNat).toNat, by omega⟩
          have hKle := hexV_le b.toNat
          rw [hK] at cI hx0 hKle
          have hKv := HH.out.2.1.trans hK
          have hdec : decide ((b.toNat : Int) < 48) = false := decide_eq_false (by omega)
          have hdec1 : decide ((K : Int) < 0) = false := decide_eq_false (by omega)
          have hdec2 : decide ((K : Int) < 10) = false := decide_eq_false (by omega)
          have HX := Lib.hid hKv
          clear hKv h48 hK
          go_wp2_with fail
          refine (cI _).mono ?_
          rintro e w2 ⟨rfl, rfl⟩
          go_wp2
          go_quiet (fail)
          go_wp2
          go_roundg (gk - 1)
          case rel =>
            refine ⟨i + 1, by omega, rfl, ?_, ?_, below_drewNv HB.out.2 _⟩
            · show Value.int .i32 _ = .int .i32 (valN L i * 16 + hv L i)
              rw [or16 _ _ HH.out.2.2.1 HH.out.2.2.2 (by omega) (by omega), HX.out, HH.out.1]
            · intro j hj
              by_cases hji : j = i
              · rw [hji, HX.out]; omega
              · exact HB.out.1 j (by omega)
          case measure => omega
      · obtain rfl : i = 4 := by omega
        go_wp2
        go_ret
        rw [four_ok L HB.out.1]
        exact ⟨rfl, HB.out.2⟩
end Go.Proofs.YtccnfnoonpfdfaaGreatDoor
namespace Go.Proofs.YtccnfnoonpfdfaaGreatDoor
open Go.Shelf Go.RowKit Go.Lib
set_option maxRecDepth 100000 in
theorem sized_any (b : Bool) (n : Int) (w : World) :
    Calls Tryz.prog 134 #[.bool b, .int .i64 n] w fun e w' => e = .returned (.int .i64 (if b then n else 0)) ∧ w' = w := by
  cases b
  · go_enter Tryz.func134, Tryz.ntmps134
    go_wp2
    go_ret
    exact ⟨rfl, rfl⟩
  · go_enter Tryz.func134, Tryz.ntmps134
    go_wp2
    go_ret
    exact ⟨rfl, rfl⟩
theorem prefix_u (l : BL) : Lib.hasPrefix l [92, 117] = true ↔ l.getD 0 0 = 92 ∧ l.getD 1 0 = 117 := by
  match l with
  | [] => decide
  | [a] => simp [Lib.hasPrefix]
  | a :: b :: t =>
    simp [Lib.hasPrefix, List.isPrefixOf]
    constructor
    · rintro ⟨rfl, rfl⟩; exact ⟨rfl, rfl⟩
    · rintro ⟨rfl, rfl⟩; exact ⟨rfl, rfl⟩
def wn (l : BL) : Nat := if (wideL l).2 = 0 then 0 else (wideL l).2 + 1
theorem getD_drop0 (l : BL) (p k : Nat) : (l.drop p).getD k 0 = l.getD (p + k) 0 := by simp [List.getD, List.getElem?_drop]
theorem four_len (l : BL) (h : 0 ≤ fourL l) : 4 ≤ l.length := by
  rcases Nat.lt_or_ge 3 l.length with h1 | h1
  · omega
  · rw [four_short l 3 (by omega) h1] at h; omega
theorem getD_len (l : BL) (i : Nat) (c : UInt8) (hc : c ≠ 0) (h : l.getD i 0 = c) : i < l.length := by
  rcases Nat.lt_or_ge i l.length with h1 | h1
  · exact h1
  · simp [List.getD, List.getElem?_eq_none h1] at h
    exact absurd h.symm hc
set_option maxHeartbeats 2000000 in
set_option maxRecDepth 100000 in
theorem wide_any (s : ByteArray) (w : World) :
    Calls Tryz.prog 143 #[.string s] w fun e w' => (∃ r, e = .returned (.tuple #[.int .i32 r, .int .i64 (wn s.data.toList)]) ∧ (wn s.data.toList ≠ 0 → r = (wideL s.data.toList).1)) ∧ Below w.heap.size w w' := by
  have c1 := fun W => four_any s W
  obtain ⟨L, hL⟩ : ∃ L, s.data.toList = L := ⟨_, rfl⟩
  have hLs : L.length = s.size := by rw [← hL, ← size_eq]
  have hX4 : ∀ n, n ≤ s.size → (s.extract n s.size).data.toList = L.drop n := fun n h => by rw [drop_ba s n h, hL]
  rw [hL]
  simp only [hL] at c1
  clear hL
  have hr := fourL_range L
  obtain ⟨a, ha⟩ : ∃ a, fourL L = a := ⟨_, rfl⟩
  simp only [ha] at c1
  rw [ha] at hr
  have h04 : 0 ≤ a → 4 ≤ s.size := fun h => by rw [← hLs]; exact four_len L (by rw [ha]; exact h)
  by_cases hc1 : a < 0
  · have hw0 : wideL L = (0, 0) := by unfold wideL; rw [ha, if_pos hc1]
    have hwn : wn L = 0 := by unfold wn; rw [hw0]; rfl
    rw [hwn]
    have hdec : a < 55296 := by omega
    have hdec2 : decide (0 ≤ a) = false := decide_eq_false (by omega)
    have HX := Lib.hid hX4
    clear hX4 h04
    go_enter Tryz.func143, Tryz.ntmps143
    go_wp2_with fail
    refine (c1 _).mono ?_
    rintro e w1 ⟨rfl, hb1⟩
    have HB := Lib.hid hb1
    clear hb1
    go_wp2_with fail
    refine (sized_any false 5 _).mono ?_
    rintro e w2 ⟨rfl, rfl⟩
    go_wp2
    go_ret2
    exact ⟨⟨_, rfl, fun h => absurd rfl h⟩, HB.out⟩
  by_cases hc2 : a < 55296 ∨ 57343 < a
  · have hw0 : wideL L = (a, 4) := by unfold wideL; rw [ha, if_neg hc1, if_pos hc2]
    have hwn : wn L = 5 := by unfold wn; rw [hw0]; rfl
    rw [hwn, hw0]
    have hdec2 : decide (0 ≤ a) = true := decide_eq_true (by omega)
    have HX := Lib.hid hX4
    clear hX4 h04
    rcases hc2 with hc2 | hc2
    · go_enter Tryz.func143, Tryz.ntmps143
      go_wp2_with fail
      refine (c1 _).mono ?_
      rintro e w1 ⟨rfl, hb1⟩
      have HB := Lib.hid hb1
      clear hb1
      go_wp2_with fail
      refine (sized_any true 5 _).mono ?_
      rintro e w2 ⟨rfl, rfl⟩
      go_wp2
      go_ret2
      exact ⟨⟨_, rfl, fun _ => rfl⟩, HB.out⟩
    · have hdec : decide (a < 55296) = false := decide_eq_false (by omega)
      go_enter Tryz.func143, Tryz.ntmps143
      go_wp2_with fail
      refine (c1 _).mono ?_
      rintro e w1 ⟨rfl, hb1⟩
      have HB := Lib.hid hb1
      clear hb1
      go_wp2_with fail
      refine (sized_any true 5 _).mono ?_
      rintro e w2 ⟨rfl, rfl⟩
      go_wp2
      go_ret2
      exact ⟨⟨_, rfl, fun _ => rfl⟩, HB.out⟩
  · have hs4 := h04 (by omega)
    have hdec : decide (a < 55296) = false := decide_eq_false (by omega)
    have hdec0 : decide (57343 < a) = false := decide_eq_false (by omega)
    have hs4z : (4 : Int) ≤ (s.size : Int) := by omega
    obtain ⟨X, hX⟩ : ∃ X, s.extract 4 s.size = X := ⟨_, rfl⟩
    have hXL : X.data.toList = L.drop 4 := by rw [← hX]; exact hX4 4 hs4
    have cP : ∀ W, Calls Tryz.prog 60 #[.string X, .string ⟨#[92, 117]⟩] W fun e w' => e = .returned (.bool (Lib.hasPrefix (L.drop 4) [92, 117])) ∧ w' = W := fun W => by
      have h := Tryz.strings_HasPrefix X ⟨#[92, 117]⟩ W
      rw [hXL] at h
      exact h
    have hpx := prefix_u (L.drop 4)
    rw [getD_drop0, getD_drop0] at hpx
    have hc1a : 0 ≤ a := by omega
    by_cases hp : L.getD 4 0 = 92 ∧ L.getD 5 0 = 117
    · rw [show Lib.hasPrefix (L.drop 4) [92, 117] = true from hpx.2 hp] at cP
      have h6 : 6 ≤ s.size := by rw [← hLs]; exact getD_len L 5 117 (by decide) hp.2
      have h6z : (6 : Int) ≤ (s.size : Int) := by omega
      obtain ⟨Y, hY⟩ : ∃ Y, s.extract 6 s.size = Y := ⟨_, rfl⟩
      have hYL : Y.data.toList = L.drop 6 := by rw [← hY]; exact hX4 6 h6
      have c2 := fun W => four_any Y W
      simp only [hYL] at c2
      have hr2 := fourL_range (L.drop 6)
      obtain ⟨b, hb⟩ : ∃ b, fourL (L.drop 6) = b := ⟨_, rfl⟩
      simp only [hb] at c2
      rw [hb] at hr2
      by_cases hq : 56320 ≤ a ∨ b < 56320 ∨ 57343 < b
      · have hw0 : wideL L = (0, 0) := by
          unfold wideL
          rw [ha, if_neg hc1, if_neg hc2, hb, if_pos]
          rcases hq with h | h | h
          · exact .inl h
          · exact .inr (.inr (.inr (.inl h)))
          · exact .inr (.inr (.inr (.inr h)))
        have hwn : wn L = 0 := by unfold wn; rw [hw0]; rfl
        rw [hwn]
        clear hpx hX4 h04 hXL hYL hp hc2 hw0
        by_cases hq1 : 56320 ≤ a
        · have hq1d : decide (56320 ≤ a) = true := decide_eq_true hq1
          clear hq
          go_enter Tryz.func143, Tryz.ntmps143
          go_wp2_with fail
          refine (c1 _).mono ?_
          rintro e w1 ⟨rfl, hb1⟩
          have HB := Lib.hid hb1
          clear hb1
          go_wp2_with fail
          refine (cP _).mono ?_
          rintro e w2 ⟨rfl, rfl⟩
          go_wp2_with fail
          refine (c2 _).mono ?_
          rintro e w3 ⟨rfl, hb3⟩
          have HB3 := Lib.hid (HB.out.trans (hb3.mono HB.out.size))
          clear hb3
          go_wp2
          go_ret2
          exact ⟨⟨_, rfl, fun h => absurd rfl h⟩, HB3.out⟩
        have hq1d : decide (56320 ≤ a) = false := decide_eq_false hq1
        by_cases hq2 : b < 56320
        · have hq2d : decide (b < 56320) = true := decide_eq_true hq2
          clear hq
          go_enter Tryz.func143, Tryz.ntmps143
          go_wp2_with fail
          refine (c1 _).mono ?_
          rintro e w1 ⟨rfl, hb1⟩
          have HB := Lib.hid hb1
          clear hb1
          go_wp2_with fail
          refine (cP _).mono ?_
          rintro e w2 ⟨rfl, rfl⟩
          go_wp2_with fail
          refine (c2 _).mono ?_
          rintro e w3 ⟨rfl, hb3⟩
          have HB3 := Lib.hid (HB.out.trans (hb3.mono HB.out.size))
          clear hb3
          go_wp2
          go_ret2
          exact ⟨⟨_, rfl, fun h => absurd rfl h⟩, HB3.out⟩
        · have hq2d : decide (b < 56320) = false := decide_eq_false hq2
          have hq3d : decide (57343 < b) = true := decide_eq_true (by omega)
          clear hq
          go_enter Tryz.func143, Tryz.ntmps143
          go_wp2_with fail
          refine (c1 _).mono ?_
          rintro e w1 ⟨rfl, hb1⟩
          have HB := Lib.hid hb1
          clear hb1
          go_wp2_with fail
          refine (cP _).mono ?_
          rintro e w2 ⟨rfl, rfl⟩
          go_wp2_with fail
          refine (c2 _).mono ?_
          rintro e w3 ⟨rfl, hb3⟩
          have HB3 := Lib.hid (HB.out.trans (hb3.mono HB.out.size))
          clear hb3
          go_wp2
          go_ret2
          exact ⟨⟨_, rfl, fun h => absurd rfl h⟩, HB3.out⟩
      · have hw0 : wideL L = (65536 + (a - 55296) * 1024 + (b - 56320), 10) := by
          unfold wideL
          rw [ha, if_neg hc1, if_neg hc2, hb, if_neg]
          rintro (h | h | h | h | h)
          · exact hq (.inl h)
          · exact h hp.1
          · exact h hp.2
          · exact hq (.inr (.inl h))
          · exact hq (.inr (.inr h))
        have hwn : wn L = 11 := by unfold wn; rw [hw0]; rfl
        rw [hwn, hw0]
        have hq1d : decide (56320 ≤ a) = false := decide_eq_false (by omega)
        have hq2d : decide (b < 56320) = false := decide_eq_false (by omega)
        have hq3d : decide (57343 < b) = false := decide_eq_false (by omega)
        have HQ := Lib.hid (show 55296 ≤ a ∧ a < 56320 ∧ 56320 ≤ b ∧ b ≤ 57343 by omega)
        clear hpx hX4 h04 hXL hYL hp hc2 hw0 hq
        go_enter Tryz.func143, Tryz.ntmps143
        go_wp2_with fail
        refine (c1 _).mono ?_
        rintro e w1 ⟨rfl, hb1⟩
        have HB := Lib.hid hb1
        clear hb1
        go_wp2_with fail
        refine (cP _).mono ?_
        rintro e w2 ⟨rfl, rfl⟩
        go_wp2_with fail
        refine (c2 _).mono ?_
        rintro e w3 ⟨rfl, hb3⟩
        have HB3 := Lib.hid (HB.out.trans (hb3.mono HB.out.size))
        clear hb3
        go_wp2
        go_ret2
        refine ⟨⟨_, rfl, fun _ => ?_⟩, HB3.out⟩
        show 65536 + (a - 55296) * 1024 + b - 56320 = 65536 + (a - 55296) * 1024 + (b - 56320)
        omega
    · have hf : Lib.hasPrefix (L.drop 4) [92, 117] = false := by
        rcases h : Lib.hasPrefix (L.drop 4) [92, 117] with _ | _
        · rfl
        · exact absurd (hpx.1 h) hp
      rw [hf] at cP
      have hw0 : wideL L = (0, 0) := by
        unfold wideL
        rw [ha, if_neg hc1, if_neg hc2, if_pos]
        by_cases h4 : L.getD 4 0 = 92
        · exact .inr (.inr (.inl (fun h5 => hp ⟨h4, h5⟩)))
        · exact .inr (.inl h4)
      have hwn : wn L = 0 := by unfold wn; rw [hw0]; rfl
      rw [hwn]
      clear hpx hX4 h04 hXL hp hc2 hw0 hf
      go_enter Tryz.func143, Tryz.ntmps143
      go_wp2_with fail
      refine (c1 _).mono ?_
      rintro e w1 ⟨rfl, hb1⟩
      have HB := Lib.hid hb1
      clear hb1
      go_wp2_with fail
      refine (cP _).mono ?_
      rintro e w2 ⟨rfl, rfl⟩
      go_wp2
      go_ret2
      exact ⟨⟨_, rfl, fun h => absurd rfl h⟩, HB.out⟩
def eN (l : BL) : Nat := if escL (l.getD 0 0).toNat ≠ 0 then 1 else if l.getD 0 0 ≠ 117 then 0 else wn (l.drop 1)
def eR (l : BL) : Int := if escL (l.getD 0 0).toNat ≠ 0 then (escL (l.getD 0 0).toNat : Int) else (wideL (l.drop 1)).1
def meantU (k : Nat) : Nat := if k = 0 then 8 else if k = 1 then 12 else if k = 2 then 10 else if k = 3 then 13 else 9
theorem meant_at (K : Nat) (h : K < 5) : ∀ hh, ((ByteArray.mk #[8, 12, 10, 13, 9])[K]'hh).toNat = meantU K := by
  have key : ∀ k : Fin 5, ((ByteArray.mk #[8, 12, 10, 13, 9])[k.val]'(k.isLt)).toNat = meantU k.val := by decide +kernel
  intro hh
  exact key ⟨K, h⟩
theorem esc_cases (b : UInt8) :
    (0 ≤ Lib.indexByte [98, 102, 110, 114, 116] b ∧ Lib.indexByte [98, 102, 110, 114, 116] b < 5 ∧ meantU (Lib.indexByte [98, 102, 110, 114, 116] b).toNat = escL b.toNat ∧ escL b.toNat ≠ 0) ∨
    (Lib.indexByte [98, 102, 110, 114, 116] b = -1 ∧ ((b.toNat = 34 ∧ escL b.toNat = 34) ∨ (b.toNat = 92 ∧ escL b.toNat = 92) ∨ (b.toNat = 47 ∧ escL b.toNat = 47) ∨ (b.toNat ≠ 34 ∧ b.toNat ≠ 92 ∧ b.toNat ≠ 47 ∧ escL b.toNat = 0))) := by
  have key : ∀ k : Fin 256, (0 ≤ Lib.indexByte [98, 102, 110, 114, 116] (UInt8.ofNat k.val) ∧ Lib.indexByte [98, 102, 110, 114, 116] (UInt8.ofNat k.val) < 5 ∧ meantU (Lib.indexByte [98, 102, 110, 114, 116] (UInt8.ofNat k.val)).toNat = escL k.val ∧ escL k.val ≠ 0) ∨
    (Lib.indexByte [98, 102, 110, 114, 116] (UInt8.ofNat k.val) = -1 ∧ ((k.val = 34 ∧ escL k.val = 34) ∨ (k.val = 92 ∧ escL k.val = 92) ∨ (k.val = 47 ∧ escL k.val = 47) ∨ (k.val ≠ 34 ∧ k.val ≠ 92 ∧ k.val ≠ 47 ∧ escL k.val = 0))) := by decide +kernel
  have := key ⟨b.toNat, b.toNat_lt⟩
  simpa using this
set_option maxHeartbeats 2000000 in
set_option maxRecDepth 100000 in
theorem escaped_any (s : ByteArray) (w : World) :
    Calls Tryz.prog 133 #[.string s] w fun e w' => (∃ r, e = .returned (.tuple #[.int .i32 r, .int .i64 (eN s.data.toList)]) ∧ (eN s.data.toList ≠ 0 → r = eR s.data.toList)) ∧ Below w.heap.size w w' := by
  obtain ⟨L, hL⟩ : ∃ L, s.data.toList = L := ⟨_, rfl⟩
  have hLs : L.length = s.size := by rw [← hL, ← size_eq]
  rw [hL]
  by_cases h0 : s.size = 0
  · have hLn : L = [] := List.eq_nil_of_length_eq_zero (by omega)
    have hs0 : s = ⟨#[]⟩ := by
      rw [← ba_list s, hL, hLn]
    subst hLn
    rw [show eN [] = 0 by decide]
    clear hL hLs h0
    subst hs0
    go_enter Tryz.func133, Tryz.ntmps133
    go_wp2
    go_ret2
    exact ⟨⟨_, rfl, fun h => absurd rfl h⟩, Below.refl _ _⟩
  have h1 : 0 < s.size := by omega
  have h1z : (0 : Int) < (s.size : Int) := by omega
  have h1z1 : (1 : Int) ≤ (s.size : Int) := by omega
  obtain ⟨b, hb⟩ : ∃ b, s[0]'h1 = b := ⟨_, rfl⟩
  have hbL : L.getD 0 0 = b := by rw [← hL, getD_get!', Utf8W.get!_of_lt s 0 h1, hb]
  have hne : s.toList.isEmpty = false := by
    rw [Lib.toList_data, hL]
    cases L with
    | nil => simp at hLs; omega
    | cons _ _ => rfl
  have cI : ∀ W, Calls Tryz.prog 55 #[.string ⟨#[98, 102, 110, 114, 116]⟩, .int .u8 (b.toNat : Int)] W fun e w' => e = .returned (.int .i64 (Lib.indexByte [98, 102, 110, 114, 116] b)) ∧ w' = W := fun W => by
    have h := Tryz.strings_IndexByte ⟨#[98, 102, 110, 114, 116]⟩ (b.toNat : Int) W
    rw [show ((b.toNat : Int).toNat.toUInt8) = b by simp] at h
    exact h
  have hc := esc_cases b
  obtain ⟨Z, hZ⟩ : ∃ Z, Lib.indexByte [98, 102, 110, 114, 116] b = Z := ⟨_, rfl⟩
  rw [hZ] at hc
  simp only [hZ] at cI
  obtain ⟨Y, hY⟩ : ∃ Y, s.extract 1 s.size = Y := ⟨_, rfl⟩
  have hYL : Y.data.toList = L.drop 1 := by rw [← hY, drop_ba s 1 (by omega), hL]
  have cW := fun W => wide_any Y W
  simp only [hYL] at cW
  clear hZ hYL hL h0
  rcases hc with ⟨hz0, hz5, hm, hne0⟩ | ⟨rfl, hc⟩
  · obtain ⟨k, rfl⟩ : ∃ k : Nat, Z = k := ⟨Z.toNat, by omega⟩
    have hN : eN L = 1 := by unfold eN; rw [hbL, if_pos hne0]
    have hR : eR L = escL b.toNat := by unfold eR; rw [hbL, if_pos hne0]
    rw [Int.toNat_natCast] at hm
    have hix : ∀ hh, ((ByteArray.mk #[8, 12, 10, 13, 9])[k]'hh).toNat = escL b.toNat := fun hh => by rw [meant_at k (by omega) hh, hm]
    have hle : escL b.toNat ≤ 92 := by
      unfold escL
      repeat' split
      all_goals omega
    rw [hN, hR]
    obtain ⟨E, hE⟩ : ∃ E, escL b.toNat = E := ⟨_, rfl⟩
    rw [hE] at hix hle
    rw [hE]
    clear hm hne0 hE cW hN hR
    go_enter Tryz.func133, Tryz.ntmps133
    go_wp2_with fail
    refine (cI _).mono ?_
    rintro e w1 ⟨rfl, rfl⟩
    have hkz : (k : Int) < 5 := by omega
    have hw8 : IntKind.i32.wrap (E : Int) = (E : Int) := IntWalk.i32_in _ (by omega)
    go_wp2
    go_ret2
    exact ⟨⟨_, rfl, fun _ => rfl⟩, Below.refl _ _⟩
  · rcases hc with ⟨hb34, hE⟩ | ⟨hb34, hE⟩ | ⟨hb34, hE⟩ | ⟨hn1, hn2, hn3, hE⟩
    · have hN : eN L = 1 := by unfold eN; rw [hbL, hE]; rfl
      have hR : eR L = 34 := by unfold eR; rw [hbL, hE]; rfl
      have hz : (b.toNat : Int) = 34 := by omega
      rw [hN, hR]
      simp only [hz] at cI
      clear hE cW hN hR hbL
      go_enter Tryz.func133, Tryz.ntmps133
      go_wp2_with fail
      refine (cI _).mono ?_
      rintro e w1 ⟨rfl, rfl⟩
      go_wp2
      go_ret2
      exact ⟨⟨_, rfl, fun _ => rfl⟩, Below.refl _ _⟩
    · have hN : eN L = 1 := by unfold eN; rw [hbL, hE]; rfl
      have hR : eR L = 92 := by unfold eR; rw [hbL, hE]; rfl
      have hz : (b.toNat : Int) = 92 := by omega
      rw [hN, hR]
      simp only [hz] at cI
      clear hE cW hN hR hbL
      go_enter Tryz.func133, Tryz.ntmps133
      go_wp2_with fail
      refine (cI _).mono ?_
      rintro e w1 ⟨rfl, rfl⟩
      go_wp2
      go_ret2
      exact ⟨⟨_, rfl, fun _ => rfl⟩, Below.refl _ _⟩
    · have hN : eN L = 1 := by unfold eN; rw [hbL, hE]; rfl
      have hR : eR L = 47 := by unfold eR; rw [hbL, hE]; rfl
      have hz : (b.toNat : Int) = 47 := by omega
      rw [hN, hR]
      simp only [hz] at cI
      clear hE cW hN hR hbL
      go_enter Tryz.func133, Tryz.ntmps133
      go_wp2_with fail
      refine (cI _).mono ?_
      rintro e w1 ⟨rfl, rfl⟩
      go_wp2
      go_ret2
      exact ⟨⟨_, rfl, fun _ => rfl⟩, Below.refl _ _⟩
    · have hz1 : ((b.toNat : Int) == 34) = false := beq_eq_false_iff_ne.2 (by omega)
      have hz2 : ((b.toNat : Int) == 92) = false := beq_eq_false_iff_ne.2 (by omega)
      have hz3 : ((b.toNat : Int) == 47) = false := beq_eq_false_iff_ne.2 (by omega)
      have hz1' : ¬ (b.toNat : Int) = 34 := by omega
      have hz2' : ¬ (b.toNat : Int) = 92 := by omega
      have hz3' : ¬ (b.toNat : Int) = 47 := by omega
      by_cases hu : b = 117
      · have hN : eN L = wn (L.drop 1) := by unfold eN; rw [hbL, hE, hu]; rfl
        have hR : eR L = (wideL (L.drop 1)).1 := by unfold eR; rw [hbL, hE]; rfl
        have hz4 : (b.toNat : Int) = 117 := by rw [hu]; rfl
        rw [hN, hR]
        obtain ⟨N, hNN⟩ : ∃ N, wn (L.drop 1) = N := ⟨_, rfl⟩
        obtain ⟨R, hRR⟩ : ∃ R, (wideL (L.drop 1)).1 = R := ⟨_, rfl⟩
        simp only [hNN, hRR] at cW
        rw [hNN, hRR]
        simp only [hz4] at cI
        clear hE hN hR hbL hu hn1 hn2 hn3 hNN hRR
        go_enter Tryz.func133, Tryz.ntmps133
        go_wp2_with fail
        refine (cI _).mono ?_
        rintro e w1 ⟨rfl, rfl⟩
        go_wp2_with fail
        refine (cW _).mono ?_
        rintro e w2 ⟨⟨r, rfl, hr⟩, hb2⟩
        have HR := Lib.hid (And.intro hr hb2)
        clear hr hb2
        go_wp2
        go_ret2
        exact ⟨⟨_, rfl, HR.out.1⟩, HR.out.2⟩
      · have hu2 : ¬ b.toNat = 117 := fun h => hu (UInt8.toNat_inj.1 h)
        have hN : eN L = 0 := by unfold eN; rw [hbL, hE, if_neg (by decide), if_pos hu]
        have hz4 : ((b.toNat : Int) == 117) = false := beq_eq_false_iff_ne.2 (by omega)
        have hz4' : ¬ (b.toNat : Int) = 117 := by omega
        rw [hN]
        clear hE hN hbL hu hu2 hn1 hn2 hn3 cW
        go_enter Tryz.func133, Tryz.ntmps133
        go_wp2_with fail
        refine (cI _).mono ?_
        rintro e w1 ⟨rfl, rfl⟩
        go_wp2
        go_ret2
        exact ⟨⟨_, rfl, fun h => absurd rfl h⟩, Below.refl _ _⟩
end Go.Proofs.YtccnfnoonpfdfaaGreatDoor
namespace Go.Proofs.YtccnfnoonpfdfaaGreatDoor
open Go.Shelf Go.RowKit Go.Lib
theorem char_low (l : BL) (h : (decodeL l).1 < 32) : charL l = (0, 0) := by unfold charL; rw [if_pos (.inl h)]
theorem char_err (l : BL) (h1 : (decodeL l).1 = 65533) (h2 : (decodeL l).2 = 1) : charL l = (0, 0) := by unfold charL; rw [if_pos (.inr ⟨h1, h2⟩)]
theorem char_self (l : BL) (h1 : ¬ (decodeL l).1 < 32) (h2 : ¬ ((decodeL l).1 = 65533 ∧ (decodeL l).2 = 1)) (h3 : (decodeL l).1 ≠ 92) : charL l = (((decodeL l).1 : Int), (decodeL l).2) := by
  unfold charL; rw [if_neg (fun h => h.elim h1 h2), if_pos h3]
theorem char_esc (l : BL) (h : (decodeL l).1 = 92) : (charL l).2 = (if eN (l.drop 1) = 0 then 0 else eN (l.drop 1) + 1) ∧ (eN (l.drop 1) ≠ 0 → (charL l).1 = eR (l.drop 1)) := by
  unfold charL eN eR wn
  rw [if_neg (by omega), if_neg (by omega), getD_drop0, List.drop_drop]
  by_cases h1 : escL (l.getD (1 + 0) 0).toNat ≠ 0
  · rw [if_pos h1, if_pos h1, if_pos h1]
    exact ⟨rfl, fun _ => rfl⟩
  · rw [if_neg h1, if_neg h1, if_neg h1]
    by_cases h2 : l.getD (1 + 0) 0 ≠ 117
    · rw [if_pos h2, if_pos h2]
      exact ⟨rfl, fun h => absurd rfl h⟩
    · rw [if_neg h2, if_neg h2]
      by_cases h3 : (wideL (l.drop (1 + 1))).2 = 0
      · rw [if_pos h3, if_pos h3]
        exact ⟨rfl, fun h => absurd rfl h⟩
      · rw [if_neg h3, if_neg h3, if_neg (by omega)]
        exact ⟨rfl, fun _ => rfl⟩
theorem eN_le (l : BL) : eN l ≤ 11 := by
  have h : (wideL (l.drop 1)).2 ≤ 10 := by
    unfold wideL
    repeat' split
    all_goals (dsimp only; omega)
  unfold eN wn
  repeat' split
  all_goals omega
theorem decode_ascii_w (l : BL) (h : (decodeL l).1 < 128) : (decodeL l).2 = 1 ∧ (l.getD 0 0).toNat = (decodeL l).1 := by
  rw [decodeL_N] at h ⊢
  rcases decodeN_shape l.length (l.getD 0 0).toNat (l.getD 1 0).toNat (l.getD 2 0).toNat (l.getD 3 0).toNat with ⟨c, e⟩ | ⟨c1, c2, c3, cv, e⟩ | ⟨c1, c2, c3, c4, cv, cs, e⟩ | ⟨c1, c2, c3, c4, c5, cv, cw, e⟩ | e
  all_goals rw [e] at h ⊢
  all_goals dsimp only at h ⊢
  · exact ⟨rfl, rfl⟩
  all_goals omega
set_option maxHeartbeats 2000000 in
set_option maxRecDepth 100000 in
theorem next_any (s : ByteArray) (w : World) (hne : s.data.toList ≠ []) (hT : Tabs w) :
    Calls Tryz.prog 122 #[.string s] w fun e w' => (∃ r, e = .returned (.tuple #[.int .i32 r, .int .i64 (charL s.data.toList).2]) ∧ ((charL s.data.toList).2 ≠ 0 → r = (charL s.data.toList).1)) ∧ Below w.heap.size w w' := by
  have cD := dec_any s w hT hne
  obtain ⟨L, hL⟩ : ∃ L, s.data.toList = L := ⟨_, rfl⟩
  have hLs : L.length = s.size := by rw [← hL, ← size_eq]
  rw [hL] at cD hne ⊢
  have hKw := decodeL_width L
  have hdrop : 1 ≤ s.size → (s.extract 1 s.size).data.toList = L.drop 1 := fun h => by rw [drop_ba s 1 h, hL]
  have hl1 : 0 < L.length := List.length_pos_iff.2 hne
  have cl := char_low L; have ce := char_err L; have cs := char_self L; have cx := char_esc L
  obtain ⟨R, hR⟩ : ∃ R, (decodeL L).1 = R := ⟨_, rfl⟩
  obtain ⟨K, hK⟩ : ∃ K, (decodeL L).2 = K := ⟨_, rfl⟩
  rw [hR, hK] at cD ce cs
  rw [hR] at cl cx
  rw [hK] at hKw
  have h1z : (1 : Int) ≤ (s.size : Int) := by omega
  have hK0 : ((K : Int) == 0) = false := beq_eq_false_iff_ne.2 (by omega)
  have hK00 : ¬ (K : Int) = 0 := by omega
  have hK02 : ¬ K = 0 := by omega
  have hK03 : decide (K = 0) = false := decide_eq_false hK02
  have hK04 : (K == 0) = false := beq_eq_false_iff_ne.2 hK02
  obtain ⟨X, hX⟩ : ∃ X, s.extract 1 s.size = X := ⟨_, rfl⟩
  have hXL : X.data.toList = L.drop 1 := by rw [← hX]; exact hdrop (by omega)
  have cE := fun W => escaped_any X W
  simp only [hXL] at cE
  clear hL hne hdrop hl1 hR hK hXL hT
  by_cases h1 : R < 32
  · rw [cl h1]
    have hd1 : decide ((R : Int) < 32) = true := decide_eq_true (by omega)
    clear cl ce cs cx cE
    go_enter Tryz.func122, Tryz.ntmps122
    go_wp2_with fail
    refine cD.mono ?_
    rintro e w1 ⟨rfl, hb1⟩
    have HB := Lib.hid hb1
    clear hb1
    go_wp2
    go_ret2
    exact ⟨⟨_, rfl, fun h => absurd rfl h⟩, HB.out⟩
  have hd1 : decide ((R : Int) < 32) = false := decide_eq_false (by omega)
  by_cases h2 : R = 65533 ∧ K = 1
  · rw [ce h2.1 h2.2]
    obtain ⟨rfl, rfl⟩ := h2
    clear cl ce cs cx cE
    go_enter Tryz.func122, Tryz.ntmps122
    go_wp2_with fail
    refine cD.mono ?_
    rintro e w1 ⟨rfl, hb1⟩
    have HB := Lib.hid hb1
    clear hb1
    go_wp2
    go_ret2
    exact ⟨⟨_, rfl, fun h => absurd rfl h⟩, HB.out⟩
  by_cases h3 : R = 92
  · obtain ⟨hn, hr⟩ := cx h3
    have hR92 : (R : Int) = 92 := by omega
    rw [hR92] at cD
    obtain ⟨C, hC⟩ : ∃ C, charL L = C := ⟨_, rfl⟩
    rw [hC] at hn hr
    rw [hC]
    obtain ⟨N, hN⟩ : ∃ N, eN (L.drop 1) = N := ⟨_, rfl⟩
    have hN11 := eN_le (L.drop 1)
    simp only [hN] at cE
    rw [hN] at hn hr hN11
    have HR := Lib.hid (And.intro hn hr)
    clear cl ce cs cx h2 hn hr hC hN h1 hd1 h3 hR92 R
    go_enter Tryz.func122, Tryz.ntmps122
    go_wp2_with fail
    refine cD.mono ?_
    rintro e w1 ⟨rfl, hb1⟩
    have HB := Lib.hid hb1
    clear hb1
    go_wp2_with fail
    refine (cE _).mono ?_
    rintro e w2 ⟨⟨r, rfl, hr⟩, hb2⟩
    have HE := Lib.hid (And.intro hr (HB.out.trans (hb2.mono HB.out.size)))
    clear hr hb2
    have hwN : IntKind.i64.wrap ((N : Int) + 1) = ((N + 1 : Nat) : Int) := by rw [IntWalk.i64_in _ (by omega)]; omega
    by_cases hN0 : N = 0
    · subst hN0
      clear hwN hN11
      go_wp2_with fail
      refine (sized_any false _ _).mono ?_
      rintro e w3 ⟨rfl, rfl⟩
      go_wp2
      go_ret2
      have hC2 : C.2 = 0 := by rw [HR.out.1]; simp
      rw [hC2]
      exact ⟨⟨_, rfl, fun h => absurd rfl h⟩, HE.out.2⟩
    · have hdN : decide (0 < N) = true := decide_eq_true (by omega)
      go_wp2_with fail
      refine (sized_any true ((N : Int) + 1) _).mono ?_
      rintro e w3 ⟨rfl, rfl⟩
      go_wp2
      go_ret2
      have hC2 : C.2 = N + 1 := by rw [HR.out.1, if_neg hN0]
      rw [hC2]
      exact ⟨⟨_, rfl, fun _ => by rw [HE.out.1 hN0, HR.out.2 hN0]⟩, HE.out.2⟩
  · rw [cs h1 h2 h3]
    have hz92 : ((R : Int) == 92) = false := beq_eq_false_iff_ne.2 (by omega)
    have hz92' : ¬ (R : Int) = 92 := by omega
    by_cases h65 : R = 65533
    · have hK1 : ((K : Int) == 1) = false := beq_eq_false_iff_ne.2 (fun h => h2 ⟨h65, by omega⟩)
      have h65z : (R : Int) = 65533 := by omega
      clear cl ce cs cx cE h2 h3 h65
      go_enter Tryz.func122, Tryz.ntmps122
      go_wp2_with fail
      refine cD.mono ?_
      rintro e w1 ⟨rfl, hb1⟩
      have HB := Lib.hid hb1
      clear hb1
      go_wp2
      go_ret2
      exact ⟨⟨_, rfl, fun _ => h65z.symm⟩, HB.out⟩
    · have h65z : ((R : Int) == 65533) = false := beq_eq_false_iff_ne.2 (by omega)
      have h65z' : ¬ (R : Int) = 65533 := by omega
      clear cl ce cs cx cE h2 h3 h65
      go_enter Tryz.func122, Tryz.ntmps122
      go_wp2_with fail
      refine cD.mono ?_
      rintro e w1 ⟨rfl, hb1⟩
      have HB := Lib.hid hb1
      clear hb1
      go_wp2
      go_ret2
      exact ⟨⟨_, rfl, fun _ => rfl⟩, HB.out⟩
end Go.Proofs.YtccnfnoonpfdfaaGreatDoor
namespace Go.Proofs.YtccnfnoonpfdfaaGreatDoor
open Go.Shelf Go.RowKit Go.Lib
theorem charL_le (l : BL) (hne : l ≠ []) : (charL l).2 ≤ l.length := by
  have hK := decodeL_le l hne
  have hl1 : 0 < l.length := List.length_pos_iff.2 hne
  unfold charL
  split
  · dsimp only; omega
  split
  · exact hK
  split
  · rename_i h
    have : 1 < l.length := getD_len l 1 (l.getD 1 0) (fun e => h (by rw [e]; decide)) rfl
    dsimp only; omega
  split
  · dsimp only; omega
  split
  · dsimp only; omega
  · rename_i h
    dsimp only
    unfold wideL at h ⊢
    by_cases h1 : fourL (l.drop 2) < 0
    · rw [if_pos h1] at h; exact absurd rfl h
    rw [if_neg h1] at h ⊢
    have h4 := four_len (l.drop 2) (by omega)
    rw [List.length_drop] at h4
    by_cases h2 : fourL (l.drop 2) < 55296 ∨ 57343 < fourL (l.drop 2)
    · rw [if_pos h2]; dsimp only; omega
    rw [if_neg h2] at h ⊢
    split at h
    · exact absurd rfl h
    · rename_i h3
      rw [if_neg h3]
      have h5 : 0 ≤ fourL ((l.drop 2).drop 6) := by
        rcases Int.lt_or_le (fourL ((l.drop 2).drop 6)) 56320 with hx | hx
        · exact absurd (.inr (.inr (.inr (.inl hx)))) h3
        · omega
      have h6 := four_len _ h5
      rw [List.drop_drop, List.length_drop] at h6
      dsimp only; omega
theorem err_made (w : World) : Calls Tryz.prog 30 #[.int .i64 1, .string ⟨#[116, 101, 120, 116]⟩] w fun e w' => (∃ v, e = .returned v ∧ Chain w' 1 v 1) ∧ Below w.heap.size w w' := by
  refine (faultNew_some 1 ⟨#[116, 101, 120, 116]⟩ w (by decide)).mono ?_
  rintro e w' ⟨rfl, rfl⟩
  exact ⟨⟨_, rfl, _, _, _, rfl, heap_alloc_new w _, rfl⟩, (Below.refl _ _).alloc (Nat.le_refl _) _⟩
/-- What Unquote answers. -/
def Unq (l : BL) (e : Ending) (w' : World) : Prop :=
  match readL l with
  | none => ∃ v, e = .returned (.tuple #[.string ⟨#[]⟩, .int .i64 0, v]) ∧ Chain w' 1 v 1
  | some (t, m) => e = .returned (.tuple #[.string (BA t), .int .i64 m, .nilIface])
/-- what is read, of a part of which acc is read, by pos bytes. -/
def goOn (acc : BL) (pos : Nat) : Option (BL × Nat) → Option (BL × Nat)
  | none => none
  | some (t, m) => some (acc ++ t, m + pos)
theorem goOn_step (acc : BL) (pos : Nat) (l : BL) (hne : l ≠ []) (hq : l.getD 0 0 ≠ 34) (hz : (charL l).2 ≠ 0) :
    goOn acc pos (readB l) = goOn (acc ++ encodeRune (charL l).1) (pos + (charL l).2) (readB (l.drop (charL l).2)) := by
  rw [readB_step l hne hq hz]
  cases readB (l.drop (charL l).2) with
  | none => rfl
  | some p =>
    obtain ⟨t, m⟩ := p
    simp only [goOn]
    rw [List.append_assoc, show (charL l).2 + m + pos = m + (pos + (charL l).2) by omega]
set_option maxHeartbeats 4000000 in
set_option maxRecDepth 100000 in
theorem unquote_any (s : ByteArray) (w : World) (hs : s.size ≤ 1099511627776) (hT : Tabs w) :
    Calls Tryz.prog 96 #[.string s] w fun e w' => Unq s.data.toList e w' ∧ Below w.heap.size w w' := by
  obtain ⟨L, hL⟩ : ∃ L, s.data.toList = L := ⟨_, rfl⟩
  have hLs : L.length = s.size := by rw [← hL, ← size_eq]
  have HT := Lib.hid hT
  have HL := Lib.hid hL
  clear hT
  rw [hL]
  by_cases h0 : s.size = 0
  · have hLn : L = [] := List.eq_nil_of_length_eq_zero (by omega)
    have hs0 : s = ⟨#[]⟩ := by
      rw [← ba_list s, hL, hLn]
    subst hLn
    clear hL HL hLs h0 hs HT
    subst hs0
    go_enter Tryz.func96, Tryz.ntmps96
    go_wp2_with fail
    refine (err_made _).mono ?_
    rintro e w1 ⟨⟨v, rfl, hc⟩, hb1⟩
    have H := Lib.hid (And.intro hc (((Below.refl _ w).alloc (Nat.le_refl _) _).trans (hb1.mono (by simp))))
    clear hc hb1
    go_wp2
    go_ret3
    exact ⟨⟨v, rfl, H.out.1⟩, H.out.2⟩
  have h1 : 0 < s.size := by omega
  have h1z : (0 : Int) < (s.size : Int) := by omega
  have hLne : s.toList.isEmpty = false := by
    rw [Lib.toList_data, hL]
    cases L with
    | nil => simp at hLs; omega
    | cons _ _ => rfl
  obtain ⟨b0, hb0⟩ : ∃ b, s[0]'h1 = b := ⟨_, rfl⟩
  have hb0L : L.getD 0 0 = b0 := by rw [← hL, getD_get!', Utf8W.get!_of_lt s 0 h1, hb0]
  clear hL h0
  by_cases hq : b0 = 34
  · have hqz : (b0.toNat : Int) = 34 := by rw [hq]; rfl
    have hRL : readL L = goOn [] 1 (readB (L.drop 1)) := by
      unfold readL
      rw [if_neg (by rw [hb0L, hq]; decide)]
      cases readB (L.drop 1) with
      | none => rfl
      | some p => rfl
    have HQ := Lib.hid hRL
    clear hRL hb0L hq
    go_enter Tryz.func96, Tryz.ntmps96
    go_wp2
    go_loopg [6] (s.size - 1) (fun gk iv wr => ∃ (pos : Nat) (acc : BL), gk + pos = s.size ∧ 1 ≤ pos ∧ iv = .int .i64 pos ∧ BH w.heap.size w.heap.size acc wr ∧ readL L = goOn acc pos (readB (L.drop pos)) ∧ acc.length ≤ 4 * pos ∧ Below w.heap.size w wr)
    case atStart => exact ⟨1, [], by omega, by omega, rfl, Lib.IsBuilderF.of (Lib.fresh_isBuilder _ _ w), HQ.out, by simp, (Below.refl _ w).alloc (Nat.le_refl _) _⟩
    case round =>
      obtain ⟨pos, acc, hg, hp1, rfl, hB, hacc, hal, hbw⟩ := hrel
      have HB := Lib.hid (And.intro hB (And.intro hacc (And.intro hal hbw)))
      clear hB hacc hal hbw
      by_cases hp : pos < s.size
      · have hpz : (pos : Int) < (s.size : Int) := by omega
        have hple : (pos : Int) ≤ (s.size : Int) := by omega
        have hp0 : (0 : Int) ≤ (pos : Int) := by omega
        obtain ⟨b, hb⟩ : ∃ b, s[pos]'hp = b := ⟨_, rfl⟩
        have hbL : L.getD pos 0 = b := by rw [← HL.out, getD_get!', Utf8W.get!_of_lt s pos hp, hb]
        have hw1 : IntKind.i64.wrap ((pos : Int) + 1) = ((pos + 1 : Nat) : Int) := by rw [IntWalk.i64_in _ (by omega)]; omega
        obtain ⟨D, hD⟩ : ∃ D, L.drop pos = D := ⟨_, rfl⟩
        have hDne : D ≠ [] := fun e => by
          have := congrArg List.length (hD.trans e)
          rw [List.length_drop] at this
          simp at this
          omega
        have hbD : D.getD 0 0 = b := by rw [← hD, getD_drop0, Nat.add_zero, hbL]
        have hsz := HB.out.2.2.2.size
        by_cases hbq : b = 34
        · have hbz : (b.toNat : Int) = 34 := by rw [hbq]; rfl
          have hans : readL L = some (acc, pos + 1) := by
            rw [HB.out.2.1, hD, readB_quote D hDne (by rw [hbD, hbq])]
            simp only [goOn, List.append_nil]
            rw [Nat.add_comm]
          have HA := Lib.hid (And.intro hans hsz)
          clear hans hbq hD hDne hbD hbL hsz
          go_wp2_with fail
          refine (bh_get _ _ acc _ HB.out.1 HA.out.2).mono ?_
          rintro e w2 ⟨rfl, hb2⟩
          have H2 := Lib.hid (HB.out.2.2.2.trans hb2)
          clear hb2
          go_wp2
          go_ret3
          refine ⟨?_, H2.out⟩
          unfold Unq
          rw [HA.out.1]
          rfl
        · have hbz : ¬ (b.toNat : Int) = 34 := fun h => hbq (UInt8.toNat_inj.1 (by show b.toNat = 34; omega))
          have hbz2 : ((b.toNat : Int) == 34) = false := beq_eq_false_iff_ne.2 hbz
          obtain ⟨X, hX⟩ : ∃ X, s.extract pos s.size = X := ⟨_, rfl⟩
          have hXD : X.data.toList = D := by rw [← hX, drop_ba s pos (by omega), HL.out, hD]
          have cN : Calls Tryz.prog 122 #[.string X] wr _ := next_any X wr (by rw [hXD]; exact hDne) (HT.out.below HB.out.2.2.2)
          rw [hXD] at cN
          have hNle := charL_le D hDne
          have hrng := charL_range D
          have hDl : D.length = s.size - pos := by rw [← hD, List.length_drop]; omega
          have hgo := goOn_step acc pos D hDne (by rw [hbD]; exact hbq)
          have hbad := readB_bad D (by rw [hbD]; exact hbq)
          obtain ⟨N, hN⟩ : ∃ N, (charL D).2 = N := ⟨_, rfl⟩
          obtain ⟨R, hR⟩ : ∃ R, (charL D).1 = R := ⟨_, rfl⟩
          rw [hN, hR] at cN
          rw [hN] at hNle hbad
          rw [hR] at hrng
          simp only [hN, hR] at hgo
          by_cases hN0 : N = 0
          · have hans : readL L = none := by
              rw [HB.out.2.1, hD, hbad hN0]
              rfl
            subst hN0
            have HA := Lib.hid (And.intro hans hsz)
            clear hans hbq hD hDne hbD hbL hsz hgo hbad hNle hrng hDl hXD hN hR
            go_wp2_with fail
            refine cN.mono ?_
            rintro e w2 ⟨⟨r, rfl, _⟩, hb2⟩
            have H2 := Lib.hid (HB.out.2.2.2.trans (hb2.mono HA.out.2))
            clear hb2 cN
            go_wp2_with fail
            refine (err_made _).mono ?_
            rintro e w3 ⟨⟨v, rfl, hc⟩, hb3⟩
            have H3 := Lib.hid (And.intro hc (H2.out.trans (hb3.mono H2.out.size)))
            clear hc hb3
            go_wp2
            go_ret3
            refine ⟨?_, H3.out.2⟩
            unfold Unq
            rw [HA.out.1]
            exact ⟨v, rfl, H3.out.1⟩
          · have hNz : ¬ (N : Int) = 0 := by omega
            have hNz2 : ((N : Int) == 0) = false := beq_eq_false_iff_ne.2 hNz
            have hNz3 : decide (N = 0) = false := decide_eq_false hN0
            have hNz4 : (N == 0) = false := beq_eq_false_iff_ne.2 hN0
            have hwN : IntKind.i64.wrap ((pos : Int) + (N : Int)) = ((pos + N : Nat) : Int) := by rw [IntWalk.i64_in _ (by omega)]; omega
            have hg1 := hgo hN0
            have hdd : D.drop N = L.drop (pos + N) := by rw [← hD, List.drop_drop]
            have hel : (encodeRune R).length ≤ 4 := by
              have := encodeRuneZ_length R
              unfold encodeRune
              rw [List.length_map]
              omega
            have hNle2 : pos + N ≤ s.size := by omega
            rw [hdd] at hg1
            have hst : readL L = goOn (acc ++ encodeRune R) (pos + N) (readB (L.drop (pos + N))) := by rw [HB.out.2.1, hD]; exact hg1
            have hal4 : acc.length + 4 ≤ 140737488355328 := by have := HB.out.2.2.1; omega
            have HA := Lib.hid (And.intro hst (And.intro hsz (And.intro hel (And.intro hrng (And.intro hal4 hNle2)))))
            clear hst hg1 hgo hbad hNle hrng hDl hXD hN hR hdd hel hsz hal4 hbq hD hDne hbD hbL hNle2 hbz
            go_wp2_with fail
            refine cN.mono ?_
            rintro e w2 ⟨⟨r, rfl, hr⟩, hb2⟩
            obtain rfl := hr hN0
            have H2 := Lib.hid (And.intro (HB.out.1.below hb2) (HB.out.2.2.2.trans (hb2.mono HA.out.2.1)))
            clear hb2 cN hr
            go_wp2_with fail
            refine (bh_rune _ _ acc r (by have := HA.out.2.2.2.1; omega) (by have := HA.out.2.2.2.1; omega) _ H2.out.1 HA.out.2.2.2.2.1 H2.out.2.size).mono ?_
            rintro e w3 ⟨⟨v, rfl⟩, h3, hb3⟩
            have H3 := Lib.hid (And.intro h3 (H2.out.2.trans hb3))
            clear h3 hb3
            go_wp2
            go_roundg (gk - N)
            case rel =>
              refine ⟨pos + N, acc ++ encodeRune r, ?_, by omega, rfl, H3.out.1, HA.out.1, ?_, H3.out.2⟩
              · have := HA.out.2.2.2.2.2; omega
              · have := HA.out.2.2.1
                have h5 := HB.out.2.2.1
                rw [List.length_append]
                omega
            case measure => omega
      · have hpz : ¬ (pos : Int) < (s.size : Int) := by omega
        have hans : readL L = none := by
          rw [HB.out.2.1, List.drop_eq_nil_of_le (by omega), readB_nil]
          rfl
        have HA := Lib.hid hans
        clear hans
        go_wp2_with fail
        refine (err_made _).mono ?_
        rintro e w3 ⟨⟨v, rfl, hc⟩, hb3⟩
        have H3 := Lib.hid (And.intro hc (HB.out.2.2.2.trans (hb3.mono HB.out.2.2.2.size)))
        clear hc hb3
        go_wp2
        go_ret3
        refine ⟨?_, H3.out.2⟩
        unfold Unq
        rw [HA.out]
        exact ⟨v, rfl, H3.out.1⟩
  · have hqz : ¬ (b0.toNat : Int) = 34 := fun h => hq (UInt8.toNat_inj.1 (by show b0.toNat = 34; omega))
    have hqz2 : ((b0.toNat : Int) == 34) = false := beq_eq_false_iff_ne.2 hqz
    have hqz3 : ((b0.toNat : Int) != 34) = true := by simp [bne, hqz2]
    have hRL : readL L = none := by
      unfold readL
      rw [if_pos (by rw [hb0L]; exact hq)]
    have HQ := Lib.hid hRL
    clear hRL hb0L hq hqz
    go_enter Tryz.func96, Tryz.ntmps96
    go_wp2_with fail
    refine (err_made _).mono ?_
    rintro e w1 ⟨⟨v, rfl, hc⟩, hb1⟩
    have H := Lib.hid (And.intro hc (((Below.refl _ w).alloc (Nat.le_refl _) _).trans (hb1.mono (by simp))))
    clear hc hb1
    go_wp2
    go_ret3
    refine ⟨?_, H.out.2⟩
    unfold Unq
    rw [HQ.out]
    exact ⟨v, rfl, H.out.1⟩
end Go.Proofs.YtccnfnoonpfdfaaGreatDoor
namespace Go.Proofs.YtccnfnoonpfdfaaGreatDoor
open Go.Shelf Go.RowKit Go.Lib
theorem app_list (a b : ByteArray) : (a ++ b).data.toList = a.data.toList ++ b.data.toList := by
  rw [ByteArray.data_append, Array.toList_append]
theorem digit_ext (K : Nat) (h : K < 16) : ((ByteArray.mk #[48, 49, 50, 51, 52, 53, 54, 55, 56, 57, 97, 98, 99, 100, 101, 102]).extract K (K + 1)).data.toList = [hexD K] := by
  have key : ∀ k : Fin 16, ((ByteArray.mk #[48, 49, 50, 51, 52, 53, 54, 55, 56, 57, 97, 98, 99, 100, 101, 102]).extract k.val (k.val + 1)).data.toList = [hexD k.val] := by decide +kernel
  exact key ⟨K, h⟩
theorem chunk_law (R K : Nat) (piece : BL) (h1 : R < 32) (h8 : R ≠ 8) (h9 : R ≠ 9) (h10 : R ≠ 10) (h12 : R ≠ 12) (h13 : R ≠ 13) : chunkC R K piece = [92, 117, 48, 48, hexD (R / 16), hexD (R % 16)] := by
  unfold chunkC
  rw [if_neg (by omega), if_neg h8, if_neg h9, if_neg h10, if_neg h12, if_neg h13, if_pos h1]
set_option maxHeartbeats 8000000 in
set_option maxRecDepth 100000 in
theorem put_any (s : ByteArray) (w : World) (hs : s.size ≤ 1099511627776) :
    Calls Tryz.prog 29 #[.string s] w fun e w' => e = .returned (.string (BA (quoteL s.data.toList))) ∧ Below w.heap.size w w' := by
  obtain ⟨L, hL⟩ : ∃ L, s.data.toList = L := ⟨_, rfl⟩
  have hLs : L.length = s.size := by rw [← hL, ← size_eq]
  have HL := Lib.hid hL
  rw [hL]
  clear hL
  go_enter Tryz.func29, Tryz.ntmps29
  go_wp2
  go_loopg [3, 5] s.size (fun gk ov iv wr => ∃ (pos : Nat) (acc : BL) (O : ByteArray), gk + pos = s.size ∧ iv = .int .i64 pos ∧ ov = .string O ∧ O.data.toList = 34 :: acc ∧ acc ++ chunks (L.drop pos) = chunks L ∧ acc.length ≤ 6 * pos ∧ Below w.heap.size w wr)
  case atStart => exact ⟨0, [], ⟨#[34]⟩, by omega, rfl, rfl, rfl, rfl, by simp, Below.refl _ _⟩
  case round =>
    obtain ⟨pos, acc, O, hg, rfl, rfl, hO, hacc, hal, hbw⟩ := hrel
    have hOs : O.size = acc.length + 1 := by rw [size_eq, hO, List.length_cons]
    have HB := Lib.hid (And.intro hO (And.intro hacc (And.intro hal hbw)))
    have hOb : O.size ≤ 8796093022208 := by omega
    clear hO hacc hal hbw
    by_cases hp : pos < s.size
    · have hpz : (pos : Int) < (s.size : Int) := by omega
      have hple : (pos : Int) ≤ (s.size : Int) := by omega
      obtain ⟨D, hD⟩ : ∃ D, L.drop pos = D := ⟨_, rfl⟩
      have hDne : D ≠ [] := fun e => by
        have := congrArg List.length (hD.trans e)
        rw [List.length_drop] at this
        simp at this
        omega
      have hKle := decodeL_le D hDne
      have hKw := decodeL_width D
      have hRle := decodeL_rune D
      have hasc := decode_ascii_w D
      have hDl : D.length = s.size - pos := by rw [← hD, List.length_drop]; omega
      have hch := chunks_at L acc pos _ (by omega) HB.out.2.1
      rw [hD] at hch
      obtain ⟨X, hX⟩ : ∃ X, s.extract pos s.size = X := ⟨_, rfl⟩
      have hXD : X.data.toList = D := by rw [← hX, drop_ba s pos (by omega), HL.out, hD]
      have cF : ∀ W, Calls Tryz.prog 53 #[.string X] W _ := fun W => first_any X W
      simp only [hXD, firstL, if_neg hDne] at cF
      have hcl : chunkL D = chunkC (decodeL D).1 (decodeL D).2 (D.take (decodeL D).2) := rfl
      rw [hcl] at hch
      have hcln := (chunkL_length D hDne).1
      rw [hcl] at hcln
      obtain ⟨R, hR⟩ : ∃ R, (decodeL D).1 = R := ⟨_, rfl⟩
      obtain ⟨K, hK⟩ : ∃ K, (decodeL D).2 = K := ⟨_, rfl⟩
      rw [hR, hK] at hch hcln
      simp only [hR, hK] at cF
      rw [hR] at hRle hasc
      rw [hK] at hKle hKw hasc
      obtain ⟨Y, hY⟩ : ∃ Y, s.extract pos (pos + K) = Y := ⟨_, rfl⟩
      have hYD : Y.data.toList = D.take K := by rw [← hY, piece_ba s pos K (by omega), HL.out, hD]
      have hYs : Y.size ≤ 1099511627776 := by
        rw [← hY, ByteArray.size_extract]; omega
      have hwK : IntKind.i64.wrap ((pos : Int) + (K : Int)) = ((pos + K : Nat) : Int) := by rw [IntWalk.i64_in _ (by omega)]; omega
      have hbK : ((pos + K : Nat) : Int) ≤ (s.size : Int) := by omega
      have hbp : (pos : Int) ≤ ((pos + K : Nat) : Int) := by omega
      have hsum : ∀ n : Nat, n ≤ 1099511627776 → ¬ 9223372036854775807 < O.size + n := fun n hn => by omega
      have hfin : ∀ (C : BL) (T : ByteArray) (W : World), C = chunkC R K (D.take K) → T.data.toList = C → Below w.heap.size w W →
          ∃ (pos' : Nat) (acc' : BL) (O' : ByteArray), (gk - K) + pos' = s.size ∧ Value.int .i64 ((pos + K : Nat) : Int) = .int .i64 pos' ∧ Value.string (O ++ T) = .string O' ∧ O'.data.toList = 34 :: acc' ∧ acc' ++ chunks (L.drop pos') = chunks L ∧ acc'.length ≤ 6 * pos' ∧ Below w.heap.size w W := fun C T W hC hT h2 => by
        refine ⟨pos + K, acc ++ C, O ++ T, by omega, rfl, rfl, ?_, ?_, ?_, h2⟩
        · rw [app_list, HB.out.1, hT]; rfl
        · rw [hC]; exact hch
        · have h5 := HB.out.2.2.1
          rw [hC, List.length_append]
          omega
      have HF := Lib.hid hfin
      have HY := Lib.hid (And.intro hYD hYs)
      have HS := Lib.hid hsum
      clear hfin hYs hYD hsum hch hcln hcl hXD hDl hDne hD hR hK
      by_cases hA : R = 65533 ∧ K = 1
      · obtain ⟨rfl, rfl⟩ := hA
        have hcat : ¬ 9223372036854775807 < O.size + 6 := HS.out 6 (by omega)
        clear hasc
        go_wp2_with fail
        refine (cF _).mono ?_
        rintro e w2 ⟨rfl, hb2⟩
        have H2 := Lib.hid (HB.out.2.2.2.trans (hb2.mono HB.out.2.2.2.size))
        clear hb2
        go_wp2
        go_roundg (gk - 1)
        case rel => exact HF.out [92, 117, 102, 102, 102, 100] ⟨#[92, 117, 102, 102, 102, 100]⟩ _ (by simp [chunkC]) rfl H2.out
        case measure => omega
      by_cases h8 : R = 8
      · subst h8
        have hcat : ¬ 9223372036854775807 < O.size + 2 := HS.out 2 (by omega)
        clear hasc hA
        go_wp2_with fail
        refine (cF _).mono ?_
        rintro e w2 ⟨rfl, hb2⟩
        have H2 := Lib.hid (HB.out.2.2.2.trans (hb2.mono HB.out.2.2.2.size))
        clear hb2
        go_wp2
        go_roundg (gk - K)
        case rel => exact HF.out [92, 98] ⟨#[92, 98]⟩ _ (by simp [chunkC]) rfl H2.out
        case measure => omega
      by_cases h9 : R = 9
      · subst h9
        have hcat : ¬ 9223372036854775807 < O.size + 2 := HS.out 2 (by omega)
        clear hasc hA
        go_wp2_with fail
        refine (cF _).mono ?_
        rintro e w2 ⟨rfl, hb2⟩
        have H2 := Lib.hid (HB.out.2.2.2.trans (hb2.mono HB.out.2.2.2.size))
        clear hb2
        go_wp2
        go_roundg (gk - K)
        case rel => exact HF.out [92, 116] ⟨#[92, 116]⟩ _ (by simp [chunkC]) rfl H2.out
        case measure => omega
      by_cases h10 : R = 10
      · subst h10
        have hcat : ¬ 9223372036854775807 < O.size + 2 := HS.out 2 (by omega)
        clear hasc hA
        go_wp2_with fail
        refine (cF _).mono ?_
        rintro e w2 ⟨rfl, hb2⟩
        have H2 := Lib.hid (HB.out.2.2.2.trans (hb2.mono HB.out.2.2.2.size))
        clear hb2
        go_wp2
        go_roundg (gk - K)
        case rel => exact HF.out [92, 110] ⟨#[92, 110]⟩ _ (by simp [chunkC]) rfl H2.out
        case measure => omega
      by_cases h12 : R = 12
      · subst h12
        have hcat : ¬ 9223372036854775807 < O.size + 2 := HS.out 2 (by omega)
        clear hasc hA
        go_wp2_with fail
        refine (cF _).mono ?_
        rintro e w2 ⟨rfl, hb2⟩
        have H2 := Lib.hid (HB.out.2.2.2.trans (hb2.mono HB.out.2.2.2.size))
        clear hb2
        go_wp2
        go_roundg (gk - K)
        case rel => exact HF.out [92, 102] ⟨#[92, 102]⟩ _ (by simp [chunkC]) rfl H2.out
        case measure => omega
      by_cases h13 : R = 13
      · subst h13
        have hcat : ¬ 9223372036854775807 < O.size + 2 := HS.out 2 (by omega)
        clear hasc hA
        go_wp2_with fail
        refine (cF _).mono ?_
        rintro e w2 ⟨rfl, hb2⟩
        have H2 := Lib.hid (HB.out.2.2.2.trans (hb2.mono HB.out.2.2.2.size))
        clear hb2
        go_wp2
        go_roundg (gk - K)
        case rel => exact HF.out [92, 114] ⟨#[92, 114]⟩ _ (by simp [chunkC]) rfl H2.out
        case measure => omega
      have z8 : ((R : Int) == 8) = false := beq_eq_false_iff_ne.2 (by omega)
      have z9 : ((R : Int) == 9) = false := beq_eq_false_iff_ne.2 (by omega)
      have z10 : ((R : Int) == 10) = false := beq_eq_false_iff_ne.2 (by omega)
      have z12 : ((R : Int) == 12) = false := beq_eq_false_iff_ne.2 (by omega)
      have z13 : ((R : Int) == 13) = false := beq_eq_false_iff_ne.2 (by omega)
      have y8 : ¬ (R : Int) = 8 := by omega
      have y9 : ¬ (R : Int) = 9 := by omega
      have y10 : ¬ (R : Int) = 10 := by omega
      have y12 : ¬ (R : Int) = 12 := by omega
      have y13 : ¬ (R : Int) = 13 := by omega
      by_cases h32 : R < 32
      · have h32z : (R : Int) < 32 := by omega
        have z65 : ((R : Int) == 65533) = false := beq_eq_false_iff_ne.2 (by omega)
        have y65 : ¬ (R : Int) = 65533 := by omega
        have HC := Lib.hid (chunk_law R K (D.take K) h32 h8 h9 h10 h12 h13)
        have HD1 := Lib.hid (digit_ext (R / 16) (by omega))
        have HD2 := Lib.hid (digit_ext (R % 16) (by omega))
        clear hasc hA h8 h9 h10 h12 h13
        go_wp2_with fail
        refine (cF _).mono ?_
        rintro e w2 ⟨rfl, hb2⟩
        have H2 := Lib.hid (HB.out.2.2.2.trans (hb2.mono HB.out.2.2.2.size))
        clear hb2
        go_wp2
        go_quiet (fail)
        go_wp2
        go_roundg (gk - K)
        case rel =>
          have h := HF.out [92, 117, 48, 48, hexD (R / 16), hexD (R % 16)] (⟨#[92, 117, 48, 48]⟩ ++ (ByteArray.mk #[48, 49, 50, 51, 52, 53, 54, 55, 56, 57, 97, 98, 99, 100, 101, 102]).extract (R / 16) (R / 16 + 1) ++ (ByteArray.mk #[48, 49, 50, 51, 52, 53, 54, 55, 56, 57, 97, 98, 99, 100, 101, 102]).extract (R % 16) (R % 16 + 1)) (w2.drewN nq) HC.out.symm (by rw [app_list, app_list, HD1.out, HD2.out]; rfl) (below_drewNv H2.out _)
          rw [← ByteArray.append_assoc, ← ByteArray.append_assoc] at h
          exact h
        case measure => omega
      · have h32z : ¬ (R : Int) < 32 := by omega
        have d32 : decide ((R : Int) < 32) = false := decide_eq_false h32z
        by_cases hq : R = 34 ∨ R = 92
        · have HC := Lib.hid (chunk_self R K (D.take K) hA h32 hq)
          obtain rfl : K = 1 := (hasc (by rcases hq with h | h <;> omega)).1
          have h1c : (⟨#[92]⟩ : ByteArray).size = 1 := rfl
          have hcat1 : ¬ 9223372036854775807 < O.size + 1 := HS.out 1 (by omega)
          have hcat2 : ¬ 9223372036854775807 < O.size + 1 + Y.size := by have := HY.out.2; omega
          have hfin2 : ∀ W, Below w.heap.size w W → ∃ (pos' : Nat) (acc' : BL) (O' : ByteArray), (gk - 1) + pos' = s.size ∧ Value.int .i64 ((pos + 1 : Nat) : Int) = .int .i64 pos' ∧ Value.string (O ++ ⟨#[92]⟩ ++ Y) = .string O' ∧ O'.data.toList = 34 :: acc' ∧ acc' ++ chunks (L.drop pos') = chunks L ∧ acc'.length ≤ 6 * pos' ∧ Below w.heap.size w W := fun W hW => by
            have h := HF.out (92 :: D.take 1) (⟨#[92]⟩ ++ Y) W HC.out.symm (by rw [app_list, HY.out.1]; rfl) hW
            rw [← ByteArray.append_assoc] at h
            exact h
          have HF2 := Lib.hid hfin2
          clear hfin2 hasc hA h8 h9 h10 h12 h13 h32
          rcases hq with hq | hq
          · have hqz : (R : Int) = 34 := by omega
            rw [hqz] at cF
            clear z8 z9 z10 z12 z13 y8 y9 y10 y12 y13 d32 h32z hq hqz hRle
            go_wp2_with fail
            refine (cF _).mono ?_
            rintro e w2 ⟨rfl, hb2⟩
            have H2 := Lib.hid (HB.out.2.2.2.trans (hb2.mono HB.out.2.2.2.size))
            clear hb2
            go_wp2
            go_roundg (gk - 1)
            case rel => exact HF2.out _ H2.out
            case measure => omega
          · have hqz : (R : Int) = 92 := by omega
            rw [hqz] at cF
            clear z8 z9 z10 z12 z13 y8 y9 y10 y12 y13 d32 h32z hq hqz hRle
            go_wp2_with fail
            refine (cF _).mono ?_
            rintro e w2 ⟨rfl, hb2⟩
            have H2 := Lib.hid (HB.out.2.2.2.trans (hb2.mono HB.out.2.2.2.size))
            clear hb2
            go_wp2
            go_roundg (gk - 1)
            case rel => exact HF2.out _ H2.out
            case measure => omega
        · have HC := Lib.hid (chunk_piece R K (D.take K) hA h32 hq)
          have z34 : ((R : Int) == 34) = false := beq_eq_false_iff_ne.2 (by omega)
          have z92 : ((R : Int) == 92) = false := beq_eq_false_iff_ne.2 (by omega)
          have y34 : ¬ (R : Int) = 34 := by omega
          have y92 : ¬ (R : Int) = 92 := by omega
          have hcat2 : ¬ 9223372036854775807 < O.size + Y.size := by have := HY.out.2; omega
          by_cases h65 : R = 65533
          · have hK1 : ((K : Int) == 1) = false := beq_eq_false_iff_ne.2 (fun h => hA ⟨h65, by omega⟩)
            have h65z : (R : Int) = 65533 := by omega
            rw [h65z] at cF
            clear z8 z9 z10 z12 z13 y8 y9 y10 y12 y13 d32 h32z hq hRle z34 z92 y34 y92 hasc hA h8 h9 h10 h12 h13 h32 h65 h65z
            go_wp2_with fail
            refine (cF _).mono ?_
            rintro e w2 ⟨rfl, hb2⟩
            have H2 := Lib.hid (HB.out.2.2.2.trans (hb2.mono HB.out.2.2.2.size))
            clear hb2
            go_wp2
            go_roundg (gk - K)
            case rel => exact HF.out _ Y _ HC.out.symm HY.out.1 H2.out
            case measure => omega
          · have z65 : ((R : Int) == 65533) = false := beq_eq_false_iff_ne.2 (by omega)
            have y65 : ¬ (R : Int) = 65533 := by omega
            clear hq hRle hasc hA h8 h9 h10 h12 h13 h32 h65
            go_wp2_with fail
            refine (cF _).mono ?_
            rintro e w2 ⟨rfl, hb2⟩
            have H2 := Lib.hid (HB.out.2.2.2.trans (hb2.mono HB.out.2.2.2.size))
            clear hb2
            go_wp2
            go_roundg (gk - K)
            case rel => exact HF.out _ Y _ HC.out.symm HY.out.1 H2.out
            case measure => omega
    · have hpz : ¬ (pos : Int) < (s.size : Int) := by omega
      have hq := HB.out.2.1
      rw [List.drop_eq_nil_of_le (by omega), chunks_nil, List.append_nil] at hq
      have hO2 := HB.out.1
      rw [hq] at hO2
      have hcat : ¬ 9223372036854775807 < O.size + 1 := by omega
      have HQ := Lib.hid (show BA (quoteL L) = O ++ ⟨#[34]⟩ by
        rw [← ba_list (O ++ ⟨#[34]⟩), app_list, hO2]
        rfl)
      clear hq hO2
      go_wp2
      go_ret
      rw [HQ.out]
      exact ⟨rfl, HB.out.2.2.2⟩
end Go.Proofs.YtccnfnoonpfdfaaGreatDoor
namespace Go.Proofs.YtccnfnoonpfdfaaGreatDoor
open Go.Shelf Go.RowKit Go.Lib
set_option maxRecDepth 100000 in
theorem valid_any (s : ByteArray) (w : World) (hs : s.size ≤ 1099511627776) (hT : Tabs w) :
    Calls Tryz.prog 41 #[.string s] w fun e w' => e = .returned (.bool (Lib.validD s.data.toList)) ∧ Below w.heap.size w w' := by
  have c := Tryz.utf8_ValidString s w (by omega) hT
  clear hT
  go_enter Tryz.func41, Tryz.ntmps41
  go_wp2_with fail
  refine c.mono ?_
  rintro e w1 ⟨rfl, hb1⟩
  have HB := Lib.hid hb1
  clear hb1 c
  go_wp2
  go_ret
  exact ⟨rfl, HB.out⟩
end Go.Proofs.YtccnfnoonpfdfaaGreatDoor
namespace Go.Proofs.YtccnfnoonpfdfaaGreatDoor
open Go.Shelf Go.RowKit Go.Lib
end Go.Proofs.YtccnfnoonpfdfaaGreatDoor
namespace Go.Proofs.YtccnfnoonpfdfaaGreatDoor
open Go.Lib
theorem ub (z : Int) (h0 : 0 ≤ z) (h1 : z < 256) : (z.toNat.toUInt8).toNat = z.toNat := by
  rw [Nat.toUInt8, UInt8.toNat_ofNat']
  omega
theorem drop_len (C X : BL) : (C ++ X).drop C.length = X := by simp
theorem dec_enc (r : Nat) (hv : Lib.validRune (r : Int) = true) (rest : BL) : decodeL (encodeRune (r : Int) ++ rest) = (r, (encodeRune (r : Int)).length) := by
  have hv2 : ((0 : Int) ≤ r ∧ (r : Int) < 0xD800) ∨ ((0xDFFF : Int) < r ∧ (r : Int) ≤ 0x10FFFF) := of_decide_eq_true hv
  rw [decodeL_N]
  unfold encodeRune
  by_cases c1 : r ≤ 127
  · rw [encodeRuneZ_one (by omega) (by omega)]
    simp only [List.map_cons, List.map_nil, List.cons_append, List.nil_append, List.getD_cons_zero, List.length_cons, List.length_nil]
    rw [ub _ (by omega) (by omega), decodeN_ascii _ _ _ _ _ (by omega)]
    simp
  by_cases c2 : r ≤ 2047
  · rw [encodeRuneZ_two (by omega) (by omega)]
    simp only [List.map_cons, List.map_nil, List.cons_append, List.nil_append, List.getD_cons_zero, List.getD_cons_succ, List.length_cons, List.length_nil]
    rw [ub _ (by omega) (by omega), ub _ (by omega) (by omega)]
    unfold decodeN
    rw [if_neg (by omega), if_pos (by omega), if_pos (by omega)]
    refine Prod.ext ?_ rfl
    dsimp only
    omega
  by_cases c3 : r ≤ 65535
  · rw [encodeRuneZ_three (by omega)]
    simp only [List.map_cons, List.map_nil, List.cons_append, List.nil_append, List.getD_cons_zero, List.getD_cons_succ, List.length_cons, List.length_nil]
    rw [ub _ (by omega) (by omega), ub _ (by omega) (by omega), ub _ (by omega) (by omega)]
    have key : (224 + (r : Int) / 4096).toNat % 16 * 4096 + (128 + (r : Int) / 64 % 64).toNat % 64 * 64 + (128 + (r : Int) % 64).toNat % 64 = r := by omega
    unfold decodeN
    rw [if_neg (by omega), if_neg (by omega), if_pos (by omega), key, if_pos (by omega)]
  · rw [encodeRuneZ_four (by omega) (by omega)]
    simp only [List.map_cons, List.map_nil, List.cons_append, List.nil_append, List.getD_cons_zero, List.getD_cons_succ, List.length_cons, List.length_nil]
    rw [ub _ (by omega) (by omega), ub _ (by omega) (by omega), ub _ (by omega) (by omega), ub _ (by omega) (by omega)]
    have key : (240 + (r : Int) / 262144).toNat % 8 * 262144 + (128 + (r : Int) / 4096 % 64).toNat % 64 * 4096 + (128 + (r : Int) / 64 % 64).toNat % 64 * 64 + (128 + (r : Int) % 64).toNat % 64 = r := by omega
    unfold decodeN
    rw [if_neg (by omega), if_neg (by omega), if_neg (by omega), if_pos (by omega), key, if_pos (by omega)]
theorem dec_cut (r : Nat) (hv : Lib.validRune (r : Int) = true) (j : Nat) (h0 : 0 < j) (hj : j < (encodeRune (r : Int)).length) : decodeL ((encodeRune (r : Int)).take j) = (65533, 1) ∧ ((encodeRune (r : Int)).take j).getD 0 0 ≠ 34 := by
  have hv2 : ((0 : Int) ≤ r ∧ (r : Int) < 0xD800) ∨ ((0xDFFF : Int) < r ∧ (r : Int) ≤ 0x10FFFF) := of_decide_eq_true hv
  have h34 : ∀ z : Int, 0 ≤ z → z < 256 → 34 < z → z.toNat.toUInt8 ≠ 34 := fun z a b c e => by
    have := ub z a b
    rw [e] at this
    have h2 : (34 : UInt8).toNat = 34 := rfl
    omega
  rw [decodeL_N]
  unfold encodeRune at hj ⊢
  by_cases c1 : r ≤ 127
  · rw [encodeRuneZ_one (by omega) (by omega)] at hj
    simp at hj
    omega
  by_cases c2 : r ≤ 2047
  · rw [encodeRuneZ_two (by omega) (by omega)] at hj ⊢
    simp only [List.map_cons, List.map_nil, List.length_cons, List.length_nil] at hj ⊢
    obtain rfl : j = 1 := by omega
    simp only [List.take_succ_cons, List.take_zero, List.getD_cons_zero, List.getD_cons_succ, List.length_cons, List.length_nil]
    refine ⟨?_, h34 _ (by omega) (by omega) (by omega)⟩
    rw [ub _ (by omega) (by omega)]
    exact decodeN_alone _ _ _ _ _ (by omega) (.inl (by omega))
  by_cases c3 : r ≤ 65535
  · rw [encodeRuneZ_three (by omega)] at hj ⊢
    simp only [List.map_cons, List.map_nil, List.length_cons, List.length_nil] at hj ⊢
    match j, h0, hj with
    | 1, _, _ =>
      simp only [List.take_succ_cons, List.take_zero, List.getD_cons_zero, List.getD_cons_succ, List.length_cons, List.length_nil]
      refine ⟨?_, h34 _ (by omega) (by omega) (by omega)⟩
      rw [ub _ (by omega) (by omega)]
      exact decodeN_alone _ _ _ _ _ (by omega) (.inl (by omega))
    | 2, _, _ =>
      simp only [List.take_succ_cons, List.take_zero, List.getD_cons_zero, List.getD_cons_succ, List.length_cons, List.length_nil]
      refine ⟨?_, h34 _ (by omega) (by omega) (by omega)⟩
      rw [ub _ (by omega) (by omega), ub _ (by omega) (by omega)]
      unfold decodeN
      rw [if_neg (by omega), if_neg (by omega), if_neg (by omega), if_neg (by omega)]
  · rw [encodeRuneZ_four (by omega) (by omega)] at hj ⊢
    simp only [List.map_cons, List.map_nil, List.length_cons, List.length_nil] at hj ⊢
    match j, h0, hj with
    | 1, _, _ =>
      simp only [List.take_succ_cons, List.take_zero, List.getD_cons_zero, List.getD_cons_succ, List.length_cons, List.length_nil]
      refine ⟨?_, h34 _ (by omega) (by omega) (by omega)⟩
      rw [ub _ (by omega) (by omega)]
      exact decodeN_alone _ _ _ _ _ (by omega) (.inl (by omega))
    | 2, _, _ =>
      simp only [List.take_succ_cons, List.take_zero, List.getD_cons_zero, List.getD_cons_succ, List.length_cons, List.length_nil]
      refine ⟨?_, h34 _ (by omega) (by omega) (by omega)⟩
      rw [ub _ (by omega) (by omega), ub _ (by omega) (by omega)]
      unfold decodeN
      rw [if_neg (by omega), if_neg (by omega), if_neg (by omega), if_neg (by omega)]
    | 3, _, _ =>
      simp only [List.take_succ_cons, List.take_zero, List.getD_cons_zero, List.getD_cons_succ, List.length_cons, List.length_nil]
      refine ⟨?_, h34 _ (by omega) (by omega) (by omega)⟩
      rw [ub _ (by omega) (by omega), ub _ (by omega) (by omega), ub _ (by omega) (by omega)]
      unfold decodeN
      rw [if_neg (by omega), if_neg (by omega), if_neg (by omega), if_neg (by omega)]
theorem dec_scalar (l : BL) : Lib.validRune ((decodeL l).1 : Int) = true := by
  have hlt := fun b : UInt8 => b.toNat_lt
  rw [decodeL_N]
  unfold Lib.validRune
  refine decide_eq_true ?_
  have h0 := hlt (l.getD 0 0)
  rcases decodeN_shape l.length (l.getD 0 0).toNat (l.getD 1 0).toNat (l.getD 2 0).toNat (l.getD 3 0).toNat with ⟨c, e⟩ | ⟨c1, c2, c3, cv, e⟩ | ⟨c1, c2, c3, c4, cv, cs, e⟩ | ⟨c1, c2, c3, c4, c5, cv, cw, e⟩ | e
  all_goals (rw [e]; dsimp only; omega)
theorem charL_esc (t : BL) : decodeL (92 :: t) = (92, 1) := decodeL_ascii 92 t (by decide)
theorem char_short (c : UInt8) (rest : BL) (h : escL c.toNat ≠ 0) : charL (92 :: c :: rest) = ((escL c.toNat : Int), 2) := by
  unfold charL
  rw [charL_esc]
  simp only [List.getD_cons_zero, List.getD_cons_succ]
  rw [if_neg (by omega), if_neg (by omega), if_pos h]
theorem char_hex (a b c d : Nat) (rest : BL) (ha : a < 16) (hb : b < 16) (hc : c < 16) (hd : d < 16) (h : ((a * 16 + b) * 16 + c) * 16 + d < 55296 ∨ 57343 < ((a * 16 + b) * 16 + c) * 16 + d) :
    charL (92 :: 117 :: hexD a :: hexD b :: hexD c :: hexD d :: rest) = (((((a * 16 + b) * 16 + c) * 16 + d : Nat) : Int), 6) := by
  unfold charL
  rw [charL_esc]
  simp only [List.getD_cons_zero, List.getD_cons_succ]
  rw [if_neg (by omega), if_neg (by omega), if_neg (by decide), if_neg (by decide)]
  have hw : wideL (hexD a :: hexD b :: hexD c :: hexD d :: rest) = (((((a * 16 + b) * 16 + c) * 16 + d : Nat) : Int), 4) := by
    unfold wideL
    rw [fourL_hex a b c d rest ha hb hc hd, if_neg (by omega), if_pos (by omega)]
    refine Prod.ext ?_ rfl
    dsimp only
    omega
  rw [show List.drop 2 (92 :: 117 :: hexD a :: hexD b :: hexD c :: hexD d :: rest) = hexD a :: hexD b :: hexD c :: hexD d :: rest from rfl, hw]
  rfl
theorem chunk_char (l : BL) (hne : l ≠ []) (rest : BL) : (chunkL l ++ rest).getD 0 0 ≠ 34 ∧ charL (chunkL l ++ rest) = (((decodeL l).1 : Int), (chunkL l).length) := by
  have hv := dec_scalar l
  have hen := encode_decode l hne
  obtain ⟨R, hR⟩ : ∃ R, (decodeL l).1 = R := ⟨_, rfl⟩
  obtain ⟨K, hK⟩ : ∃ K, (decodeL l).2 = K := ⟨_, rfl⟩
  unfold chunkL
  rw [hR, hK] at hen
  rw [hR] at hv
  rw [hR, hK]
  unfold chunkC
  split
  · rename_i h
    rw [h.1]
    exact ⟨by simp, char_hex 15 15 15 13 rest (by omega) (by omega) (by omega) (by omega) (by omega)⟩
  rename_i hA
  split
  · rename_i h; rw [h]; exact ⟨by simp, char_short 98 rest (by decide)⟩
  split
  · rename_i h; rw [h]; exact ⟨by simp, char_short 116 rest (by decide)⟩
  split
  · rename_i h; rw [h]; exact ⟨by simp, char_short 110 rest (by decide)⟩
  split
  · rename_i h; rw [h]; exact ⟨by simp, char_short 102 rest (by decide)⟩
  split
  · rename_i h; rw [h]; exact ⟨by simp, char_short 114 rest (by decide)⟩
  split
  · rename_i h
    refine ⟨by simp, ?_⟩
    have := char_hex 0 0 (R / 16) (R % 16) rest (by omega) (by omega) (by omega) (by omega) (by omega)
    rw [show ((0 * 16 + 0) * 16 + R / 16) * 16 + R % 16 = R by omega] at this
    exact this
  split
  · rename_i h
    rw [← hen hA]
    rcases h with h | h
    · rw [h]; exact ⟨by simp, char_short 34 rest (by decide)⟩
    · rw [h]; exact ⟨by simp, char_short 92 rest (by decide)⟩
  · rename_i h32 hq
    rw [← hen hA]
    have hd := dec_enc R hv rest
    have hlen := congrArg List.length (hen hA)
    rw [List.length_take] at hlen
    have hle := decodeL_le l hne
    rw [hK] at hle
    have hl : (encodeRune (R : Int)).length = K := by omega
    refine ⟨fun e => ?_, ?_⟩
    · obtain ⟨b, t, ht⟩ : ∃ b t, encodeRune (R : Int) ++ rest = b :: t := by
        cases hx : encodeRune (R : Int) ++ rest with
        | nil =>
          have := congrArg List.length hx
          have hw := decodeL_width l
          rw [List.length_append, hl] at this
          simp at this
          omega
        | cons b t => exact ⟨b, t, rfl⟩
      rw [ht] at e hd
      simp only [List.getD_cons_zero] at e
      rw [e, decodeL_ascii 34 t (by decide)] at hd
      have := congrArg Prod.fst hd
      simp at this
      omega
    · unfold charL
      rw [hd, hl]
      dsimp only
      rw [if_neg (fun h => h.elim (by omega) hA), if_pos (by omega)]
theorem back_read (l behind : BL) : readB (chunks l ++ 34 :: behind) = some (mendL l, (chunks l).length + 1) := by
  induction l using by_chars with
  | h0 => rw [chunks_nil, List.nil_append, readB_quote _ (by simp) rfl]; rfl
  | h1 l hne ih =>
    have hc := chunk_char l hne (chunks (l.drop (decodeL l).2) ++ 34 :: behind)
    have hcl := (chunkL_length l hne).2
    rw [chunks_step l hne, List.append_assoc, readB_step _ (by intro e; have := congrArg List.length e; simp at this) hc.1 (by rw [hc.2]; dsimp only; omega), hc.2]
    dsimp only
    rw [drop_len, ih, mend_step l hne, List.length_append]
    simp only [Option.some.injEq, Prod.mk.injEq, true_and]
    omega
theorem quote_read (l behind : BL) : readL (quoteL l ++ behind) = some (mendL l, (quoteL l).length) := by
  have h : quoteL l ++ behind = 34 :: (chunks l ++ 34 :: behind) := by unfold quoteL; simp
  unfold readL
  rw [h, if_neg (by simp), List.drop_succ_cons, List.drop_zero, back_read]
  unfold quoteL
  simp
theorem validD_enc (r : Nat) (hv : Lib.validRune (r : Int) = true) (rest : BL) : Lib.validD (encodeRune (r : Int) ++ rest) = Lib.validD rest := by
  have hd := dec_enc r hv rest
  have hne : encodeRune (r : Int) ++ rest ≠ [] := fun e => by
    have h1 := encodeRuneZ_length (r : Int)
    have := congrArg List.length e
    unfold encodeRune at this
    rw [List.length_append, List.length_map, List.length_nil] at this
    omega
  rw [validD_step _ hne, hd]
  dsimp only
  rw [if_neg, drop_len]
  rintro ⟨h1, h2⟩
  rw [h1] at h2
  revert h2
  decide
theorem mend_same (l : BL) (h : Lib.validD l = true) : mendL l = l := by
  induction l using by_chars with
  | h0 => rfl
  | h1 l hne ih =>
    rw [validD_step l hne] at h
    by_cases hb : (decodeL l).1 = 65533 ∧ (decodeL l).2 = 1
    · rw [if_pos hb] at h; exact absurd h (by decide)
    · rw [if_neg hb] at h
      rw [mend_step l hne, ih h, encode_decode l hne hb, List.take_append_drop]
theorem hexD_low : ∀ k : Fin 16, (hexD k.val).toNat < 128 := by decide
theorem chunk_valid (l : BL) (hne : l ≠ []) (rest : BL) : Lib.validD (chunkL l ++ rest) = Lib.validD rest := by
  have hv := dec_scalar l
  have hen := encode_decode l hne
  obtain ⟨R, hR⟩ : ∃ R, (decodeL l).1 = R := ⟨_, rfl⟩
  obtain ⟨K, hK⟩ : ∃ K, (decodeL l).2 = K := ⟨_, rfl⟩
  unfold chunkL
  rw [hR, hK] at hen
  rw [hR] at hv
  rw [hR, hK]
  have asc : ∀ C : BL, (∀ b ∈ C, b.toNat < 128) → Lib.validD (C ++ rest) = Lib.validD rest := fun C hC => by
    rw [validD_ascii C.length (C ++ rest) (by rw [List.take_left]; exact hC), drop_len]
  unfold chunkC
  split
  · exact asc _ (by decide)
  rename_i hA
  split
  · exact asc _ (by decide)
  split
  · exact asc _ (by decide)
  split
  · exact asc _ (by decide)
  split
  · exact asc _ (by decide)
  split
  · exact asc _ (by decide)
  split
  · rename_i h
    refine asc _ (fun b hb => ?_)
    have h1 := hexD_low ⟨R / 16, by omega⟩
    have h2 := hexD_low ⟨R % 16, by omega⟩
    simp only [List.mem_cons, List.not_mem_nil, or_false] at hb
    rcases hb with rfl | rfl | rfl | rfl | rfl | rfl
    · decide
    · decide
    · decide
    · decide
    · exact h1
    · exact h2
  split
  · rw [← hen hA, List.cons_append, validD_cons _ _ (by decide)]
    exact validD_enc R hv rest
  · rw [← hen hA]
    exact validD_enc R hv rest
theorem chunks_valid (l rest : BL) : Lib.validD (chunks l ++ rest) = Lib.validD rest := by
  induction l using by_chars with
  | h0 => rw [chunks_nil, List.nil_append]
  | h1 l hne ih => rw [chunks_step l hne, List.append_assoc, chunk_valid l hne, ih]
theorem quote_valid (l : BL) : Lib.validD (quoteL l) = true := by
  unfold quoteL
  rw [validD_cons _ _ (by decide), chunks_valid]
  decide
theorem char_one : charL [92] = (0, 0) := by decide +kernel
theorem four_cut (l : BL) (h : l.length < 4) : fourL l = -1 := by
  unfold fourL
  rw [if_pos]
  refine .inr (.inr (.inr ?_))
  rw [show l.getD 3 0 = 0 by simp [List.getD, List.getElem?_eq_none (show l.length ≤ 3 by omega)]]
  decide
theorem char_cut_hex (t : BL) (h : t.length < 4) : (charL (92 :: 117 :: t)).2 = 0 := by
  unfold charL
  rw [charL_esc]
  simp only [List.getD_cons_zero, List.getD_cons_succ]
  rw [if_neg (by omega), if_neg (by omega), if_neg (by decide), if_neg (by decide)]
  rw [show List.drop 2 (92 :: 117 :: t) = t from rfl]
  have hw : wideL t = (0, 0) := by unfold wideL; rw [four_cut t h, if_pos (by omega)]
  rw [hw]
  rfl
theorem chunk_cut (l : BL) (hne : l ≠ []) (j : Nat) (h0 : 0 < j) (hj : j < (chunkL l).length) : ((chunkL l).take j).getD 0 0 ≠ 34 ∧ (charL ((chunkL l).take j)).2 = 0 := by
  have hv := dec_scalar l
  have hen := encode_decode l hne
  have hle := decodeL_le l hne
  obtain ⟨R, hR⟩ : ∃ R, (decodeL l).1 = R := ⟨_, rfl⟩
  obtain ⟨K, hK⟩ : ∃ K, (decodeL l).2 = K := ⟨_, rfl⟩
  unfold chunkL at hj ⊢
  rw [hR, hK] at hen hj
  rw [hR] at hv
  rw [hK] at hle
  rw [hR, hK]
  have one : ∀ c : UInt8, j < [92, c].length → (([92, c] : BL).take j).getD 0 0 ≠ 34 ∧ (charL (([92, c] : BL).take j)).2 = 0 := fun c h => by
    simp only [List.length_cons, List.length_nil] at h
    obtain rfl : j = 1 := by omega
    simp only [List.take_succ_cons, List.take_zero]
    exact ⟨by simp, by rw [char_one]⟩
  have six : ∀ a b c d : UInt8, j < [92, 117, a, b, c, d].length → (([92, 117, a, b, c, d] : BL).take j).getD 0 0 ≠ 34 ∧ (charL (([92, 117, a, b, c, d] : BL).take j)).2 = 0 := fun a b c d h => by
    simp only [List.length_cons, List.length_nil] at h
    match j, h0, h with
    | 1, _, _ => simp only [List.take_succ_cons, List.take_zero]; exact ⟨by simp, by rw [char_one]⟩
    | 2, _, _ => simp only [List.take_succ_cons, List.take_zero]; exact ⟨by simp, char_cut_hex _ (by simp)⟩
    | 3, _, _ => simp only [List.take_succ_cons, List.take_zero]; exact ⟨by simp, char_cut_hex _ (by simp)⟩
    | 4, _, _ => simp only [List.take_succ_cons, List.take_zero]; exact ⟨by simp, char_cut_hex _ (by simp)⟩
    | 5, _, _ => simp only [List.take_succ_cons, List.take_zero]; exact ⟨by simp, char_cut_hex _ (by simp)⟩
  unfold chunkC at hj ⊢
  split
  · rename_i h; rw [if_pos h] at hj; exact six _ _ _ _ hj
  rename_i hA
  rw [if_neg hA] at hj
  split
  · rename_i h; rw [if_pos h] at hj; exact one _ hj
  rename_i h8
  rw [if_neg h8] at hj
  split
  · rename_i h; rw [if_pos h] at hj; exact one _ hj
  rename_i h9
  rw [if_neg h9] at hj
  split
  · rename_i h; rw [if_pos h] at hj; exact one _ hj
  rename_i h10
  rw [if_neg h10] at hj
  split
  · rename_i h; rw [if_pos h] at hj; exact one _ hj
  rename_i h12
  rw [if_neg h12] at hj
  split
  · rename_i h; rw [if_pos h] at hj; exact one _ hj
  rename_i h13
  rw [if_neg h13] at hj
  split
  · rename_i h; rw [if_pos h] at hj; exact six _ _ _ _ hj
  rename_i h32
  rw [if_neg h32] at hj
  split
  · rename_i h
    rw [if_pos h, ← hen hA] at hj
    rw [← hen hA]
    rcases h with h | h
    · rw [h] at hj ⊢; exact one 34 hj
    · rw [h] at hj ⊢; exact one 92 hj
  · rename_i h
    rw [if_neg h, ← hen hA] at hj
    rw [← hen hA]
    obtain ⟨h1, h2⟩ := dec_cut R hv j h0 hj
    refine ⟨h2, ?_⟩
    unfold charL
    rw [h1]
    rfl
theorem cut_read (l : BL) : ∀ j, j ≤ (chunks l).length → readB ((chunks l ++ [34]).take j) = none := by
  induction l using by_chars with
  | h0 =>
    intro j hj
    rw [chunks_nil] at hj ⊢
    simp at hj
    subst hj
    rfl
  | h1 l hne ih =>
    intro j hj
    rw [chunks_step l hne, List.length_append] at hj
    rw [chunks_step l hne, List.append_assoc]
    by_cases hc : j < (chunkL l).length
    · rw [List.take_append_of_le_length (by omega)]
      by_cases h0 : j = 0
      · rw [h0]; rfl
      · obtain ⟨h1, h2⟩ := chunk_cut l hne j (by omega) hc
        exact readB_bad _ h1 h2
    · obtain ⟨i, rfl⟩ : ∃ i, j = (chunkL l).length + i := ⟨j - (chunkL l).length, by omega⟩
      rw [List.take_length_add_append]
      have hcc := chunk_char l hne ((chunks (l.drop (decodeL l).2) ++ [34]).take i)
      have hcl := (chunkL_length l hne).2
      rw [readB_step _ (by intro e; have := congrArg List.length e; rw [List.length_append, List.length_nil] at this; omega) hcc.1 (by rw [hcc.2]; dsimp only; omega), hcc.2]
      dsimp only
      rw [drop_len, ih i (by omega)]
theorem short_read (l : BL) (k : Nat) (h : k < (quoteL l).length) : readL ((quoteL l).take k) = none := by
  unfold quoteL at h ⊢
  rw [List.length_cons, List.length_append, List.length_singleton] at h
  cases k with
  | zero => rfl
  | succ k =>
    rw [List.take_succ_cons]
    unfold readL
    rw [if_neg (by simp), List.drop_succ_cons, List.drop_zero, cut_read l k (by omega)]
end Go.Proofs.YtccnfnoonpfdfaaGreatDoor
namespace Go.Proofs.YtccnfnoonpfdfaaGreatDoor
open Go.Shelf Go.RowKit Go.Lib
theorem runes_one (r : Int) : runesBytes [r] = BA (encodeRune r) := by
  unfold runesBytes
  rw [List.foldl_cons, List.foldl_nil, encode_ba]
  have : ∀ b : ByteArray, ByteArray.empty ++ b = b := fun b => by simp
  exact this _
end Go.Proofs.YtccnfnoonpfdfaaGreatDoor
namespace Go.Proofs.YtccnfnoonpfdfaaGreatDoor
open Go.Shelf Go.RowKit Go.Lib
end Go.Proofs.YtccnfnoonpfdfaaGreatDoor
namespace Go.Proofs.YtccnfnoonpfdfaaGreatDoor
open Go.Shelf Go.RowKit Go.Lib
set_option maxHeartbeats 4000000 in
set_option maxRecDepth 100000 in
theorem hex_any (c : Nat) (w : World) (hc : c < 256) :
    Calls Tryz.prog 141 #[.int .u8 c] w fun e w' => e = .returned (.int .i64 (hexV c)) ∧ w' = w := by
  by_cases h0 : c < 48
  · have hv : hexV c = -1 := by unfold hexV; rw [if_neg (by omega), if_neg (by omega), if_neg (by omega)]
    have g48 : decide ((48 : Int) ≤ (c : Int)) = false := decide_eq_false (by omega)
    have j48 : ¬ (48 : Int) ≤ (c : Int) := by omega
    have g97 : decide ((97 : Int) ≤ (c : Int)) = false := decide_eq_false (by omega)
    have j97 : ¬ (97 : Int) ≤ (c : Int) := by omega
    have g65 : decide ((65 : Int) ≤ (c : Int)) = false := decide_eq_false (by omega)
    have j65 : ¬ (65 : Int) ≤ (c : Int) := by omega
    have g57 : decide ((c : Int) ≤ (57 : Int)) = true := decide_eq_true (by omega)
    have j57 : (c : Int) ≤ (57 : Int) := by omega
    have g102 : decide ((c : Int) ≤ (102 : Int)) = true := decide_eq_true (by omega)
    have j102 : (c : Int) ≤ (102 : Int) := by omega
    have g70 : decide ((c : Int) ≤ (70 : Int)) = true := decide_eq_true (by omega)
    have j70 : (c : Int) ≤ (70 : Int) := by omega
    rw [hv]
    clear hv h0
    go_enter Tryz.func141, Tryz.ntmps141
    go_wp2
    go_ret
    exact ⟨rfl, rfl⟩
  by_cases h1 : 48 ≤ c ∧ c ≤ 57
  · have hv : hexV c = (c : Int) - 48 := by unfold hexV; rw [if_pos (by omega)]
    have g48 : decide ((48 : Int) ≤ (c : Int)) = true := decide_eq_true (by omega)
    have j48 : (48 : Int) ≤ (c : Int) := by omega
    have g97 : decide ((97 : Int) ≤ (c : Int)) = false := decide_eq_false (by omega)
    have j97 : ¬ (97 : Int) ≤ (c : Int) := by omega
    have g65 : decide ((65 : Int) ≤ (c : Int)) = false := decide_eq_false (by omega)
    have j65 : ¬ (65 : Int) ≤ (c : Int) := by omega
    have g57 : decide ((c : Int) ≤ (57 : Int)) = true := decide_eq_true (by omega)
    have j57 : (c : Int) ≤ (57 : Int) := by omega
    have g102 : decide ((c : Int) ≤ (102 : Int)) = true := decide_eq_true (by omega)
    have j102 : (c : Int) ≤ (102 : Int) := by omega
    have g70 : decide ((c : Int) ≤ (70 : Int)) = true := decide_eq_true (by omega)
    have j70 : (c : Int) ≤ (70 : Int) := by omega
    rw [hv]
    clear hv h0 h1
    go_enter Tryz.func141, Tryz.ntmps141
    go_wp2
    go_ret
    exact ⟨rfl, rfl⟩
  by_cases h2 : 57 < c ∧ c < 65
  · have hv : hexV c = -1 := by unfold hexV; rw [if_neg (by omega), if_neg (by omega), if_neg (by omega)]
    have g48 : decide ((48 : Int) ≤ (c : Int)) = true := decide_eq_true (by omega)
    have j48 : (48 : Int) ≤ (c : Int) := by omega
    have g97 : decide ((97 : Int) ≤ (c : Int)) = false := decide_eq_false (by omega)
    have j97 : ¬ (97 : Int) ≤ (c : Int) := by omega
    have g65 : decide ((65 : Int) ≤ (c : Int)) = false := decide_eq_false (by omega)
    have j65 : ¬ (65 : Int) ≤ (c : Int) := by omega
    have g57 : decide ((c : Int) ≤ (57 : Int)) = false := decide_eq_false (by omega)
    have j57 : ¬ (c : Int) ≤ (57 : Int) := by omega
    have g102 : decide ((c : Int) ≤ (102 : Int)) = true := decide_eq_true (by omega)
    have j102 : (c : Int) ≤ (102 : Int) := by omega
    have g70 : decide ((c : Int) ≤ (70 : Int)) = true := decide_eq_true (by omega)
    have j70 : (c : Int) ≤ (70 : Int) := by omega
    rw [hv]
    clear hv h0 h1 h2
    go_enter Tryz.func141, Tryz.ntmps141
    go_wp2
    go_ret
    exact ⟨rfl, rfl⟩
  by_cases h3 : 65 ≤ c ∧ c ≤ 70
  · have hv : hexV c = (c : Int) - 55 := by unfold hexV; rw [if_neg (by omega), if_neg (by omega), if_pos (by omega)]
    have g48 : decide ((48 : Int) ≤ (c : Int)) = true := decide_eq_true (by omega)
    have j48 : (48 : Int) ≤ (c : Int) := by omega
    have g97 : decide ((97 : Int) ≤ (c : Int)) = false := decide_eq_false (by omega)
    have j97 : ¬ (97 : Int) ≤ (c : Int) := by omega
    have g65 : decide ((65 : Int) ≤ (c : Int)) = true := decide_eq_true (by omega)
    have j65 : (65 : Int) ≤ (c : Int) := by omega
    have g57 : decide ((c : Int) ≤ (57 : Int)) = false := decide_eq_false (by omega)
    have j57 : ¬ (c : Int) ≤ (57 : Int) := by omega
    have g102 : decide ((c : Int) ≤ (102 : Int)) = true := decide_eq_true (by omega)
    have j102 : (c : Int) ≤ (102 : Int) := by omega
    have g70 : decide ((c : Int) ≤ (70 : Int)) = true := decide_eq_true (by omega)
    have j70 : (c : Int) ≤ (70 : Int) := by omega
    rw [hv]
    clear hv h0 h1 h2 h3
    go_enter Tryz.func141, Tryz.ntmps141
    go_wp2
    go_ret
    exact ⟨ret_int (by omega), rfl⟩
  by_cases h4 : 70 < c ∧ c < 97
  · have hv : hexV c = -1 := by unfold hexV; rw [if_neg (by omega), if_neg (by omega), if_neg (by omega)]
    have g48 : decide ((48 : Int) ≤ (c : Int)) = true := decide_eq_true (by omega)
    have j48 : (48 : Int) ≤ (c : Int) := by omega
    have g97 : decide ((97 : Int) ≤ (c : Int)) = false := decide_eq_false (by omega)
    have j97 : ¬ (97 : Int) ≤ (c : Int) := by omega
    have g65 : decide ((65 : Int) ≤ (c : Int)) = true := decide_eq_true (by omega)
    have j65 : (65 : Int) ≤ (c : Int) := by omega
    have g57 : decide ((c : Int) ≤ (57 : Int)) = false := decide_eq_false (by omega)
    have j57 : ¬ (c : Int) ≤ (57 : Int) := by omega
    have g102 : decide ((c : Int) ≤ (102 : Int)) = true := decide_eq_true (by omega)
    have j102 : (c : Int) ≤ (102 : Int) := by omega
    have g70 : decide ((c : Int) ≤ (70 : Int)) = false := decide_eq_false (by omega)
    have j70 : ¬ (c : Int) ≤ (70 : Int) := by omega
    rw [hv]
    clear hv h0 h1 h2 h3 h4
    go_enter Tryz.func141, Tryz.ntmps141
    go_wp2
    go_ret
    exact ⟨rfl, rfl⟩
  by_cases h5 : 97 ≤ c ∧ c ≤ 102
  · have hv : hexV c = (c : Int) - 87 := by unfold hexV; rw [if_neg (by omega), if_pos (by omega)]
    have g48 : decide ((48 : Int) ≤ (c : Int)) = true := decide_eq_true (by omega)
    have j48 : (48 : Int) ≤ (c : Int) := by omega
    have g97 : decide ((97 : Int) ≤ (c : Int)) = true := decide_eq_true (by omega)
    have j97 : (97 : Int) ≤ (c : Int) := by omega
    have g65 : decide ((65 : Int) ≤ (c : Int)) = true := decide_eq_true (by omega)
    have j65 : (65 : Int) ≤ (c : Int) := by omega
    have g57 : decide ((c : Int) ≤ (57 : Int)) = false := decide_eq_false (by omega)
    have j57 : ¬ (c : Int) ≤ (57 : Int) := by omega
    have g102 : decide ((c : Int) ≤ (102 : Int)) = true := decide_eq_true (by omega)
    have j102 : (c : Int) ≤ (102 : Int) := by omega
    have g70 : decide ((c : Int) ≤ (70 : Int)) = false := decide_eq_false (by omega)
    have j70 : ¬ (c : Int) ≤ (70 : Int) := by omega
    rw [hv]
    clear hv h0 h1 h2 h3 h4 h5
    go_enter Tryz.func141, Tryz.ntmps141
    go_wp2
    go_ret
    exact ⟨ret_int (by omega), rfl⟩
  have h6 : 102 < c := by omega
  have hv : hexV c = -1 := by unfold hexV; rw [if_neg (by omega), if_neg (by omega), if_neg (by omega)]
  have g48 : decide ((48 : Int) ≤ (c : Int)) = true := decide_eq_true (by omega)
  have j48 : (48 : Int) ≤ (c : Int) := by omega
  have g97 : decide ((97 : Int) ≤ (c : Int)) = true := decide_eq_true (by omega)
  have j97 : (97 : Int) ≤ (c : Int) := by omega
  have g65 : decide ((65 : Int) ≤ (c : Int)) = true := decide_eq_true (by omega)
  have j65 : (65 : Int) ≤ (c : Int) := by omega
  have g57 : decide ((c : Int) ≤ (57 : Int)) = false := decide_eq_false (by omega)
  have j57 : ¬ (c : Int) ≤ (57 : Int) := by omega
  have g102 : decide ((c : Int) ≤ (102 : Int)) = false := decide_eq_false (by omega)
  have j102 : ¬ (c : Int) ≤ (102 : Int) := by omega
  have g70 : decide ((c : Int) ≤ (70 : Int)) = false := decide_eq_false (by omega)
  have j70 : ¬ (c : Int) ≤ (70 : Int) := by omega
  rw [hv]
  clear hv h0 h1 h2 h3 h4 h5 h6
  go_enter Tryz.func141, Tryz.ntmps141
  go_wp2
  go_ret
  exact ⟨rfl, rfl⟩
set_option maxHeartbeats 4000000 in
set_option maxRecDepth 100000 in
theorem unit_law (s : ByteArray) (at_ : Nat) (w : World) (hat : at_ ≤ 1099511627776) :
    Calls Tryz.prog 126 #[.string s, .int .i64 at_] w fun e w' => e = .returned (.int .i64 (fourL (s.data.toList.drop at_))) ∧ Below w.heap.size w w' := by
  obtain ⟨D, hD⟩ : ∃ D, s.data.toList.drop at_ = D := ⟨_, rfl⟩
  have hDl : D.length = s.size - at_ := by rw [← hD, List.length_drop, ← size_eq]
  have hget : ∀ j, D.getD j 0 = s.get! (at_ + j) := fun j => by rw [← hD, getD_drop0, getD_get!']
  rw [hD]
  clear hD
  have HG := Lib.hid hget
  clear hget
  have hw4 : IntKind.i64.wrap ((at_ : Int) + 4) = ((at_ + 4 : Nat) : Int) := by rw [IntWalk.i64_in _ (by omega)]; omega
  go_enter Tryz.func126, Tryz.ntmps126
  go_wp2
  go_loopg [5, 6] 4 (fun gk nv iv wr => ∃ j : Nat, gk + j = 4 ∧ iv = .int .i64 ((at_ + j : Nat) : Int) ∧ nv = .int .i64 (valN D j) ∧ (∀ k, k < j → 0 ≤ hv D k) ∧ Below w.heap.size w wr)
  case atStart => exact ⟨0, rfl, rfl, rfl, fun k hk => by omega, Below.refl _ _⟩
  case round =>
    obtain ⟨j, hg, rfl, rfl, hok, hbw⟩ := hrel
    have HB := Lib.hid (And.intro hok hbw)
    clear hok hbw
    obtain ⟨I, hI⟩ : ∃ I, at_ + j = I := ⟨_, rfl⟩
    simp only [hI]
    by_cases hj : j < 4
    · have hlt : (I : Int) < ((at_ + 4 : Nat) : Int) := by omega
      have hwI : IntKind.i64.wrap ((I : Int) + 1) = ((I + 1 : Nat) : Int) := by rw [IntWalk.i64_in _ (by omega)]; omega
      by_cases hs : I < s.size
      · have hsz : ¬ (s.size : Int) ≤ (I : Int) := by omega
        have hsz2 : decide ((s.size : Int) ≤ (I : Int)) = false := decide_eq_false hsz
        have hsz3 : (I : Int) < (s.size : Int) := by omega
        obtain ⟨b, hb⟩ : ∃ b, s[I]'hs = b := ⟨_, rfl⟩
        have hbv : hv D j = hexV b.toNat := by unfold hv; rw [HG.out j, hI, Utf8W.get!_of_lt s I hs, hb]
        have hr := valN_range D j HB.out.1
        have cH := fun W => hex_any b.toNat W b.toNat_lt
        have hle := hexV_le b.toNat
        obtain ⟨V, hV⟩ : ∃ V, hexV b.toNat = V := ⟨_, rfl⟩
        obtain ⟨N, hN⟩ : ∃ N, valN D j = N := ⟨_, rfl⟩
        simp only [hV] at cH
        rw [hV] at hbv hle
        rw [hN] at hr
        simp only [hN]
        have hN4 : N < 4096 := by
          have : (16 : Int) ^ j ≤ 4096 := by
            match j, hj with
            | 0, _ => decide
            | 1, _ => decide
            | 2, _ => decide
            | 3, _ => decide
          omega
        have hN0 := hr.1
        have HH := Lib.hid (And.intro hN hbv)
        clear hN hbv hr hV
        by_cases hneg : V < 0
        · have d1 : decide (V < 0) = true := decide_eq_true hneg
          go_wp2_with fail
          refine (cH _).mono ?_
          rintro e w2 ⟨rfl, rfl⟩
          go_wp2
          go_ret
          rw [four_bad D j hj (by rw [HH.out.2]; exact hneg)]
          exact ⟨rfl, HB.out.2⟩
        · have d1 : decide (V < 0) = false := decide_eq_false hneg
          have hw1 : IntKind.i64.wrap (N * 16) = N * 16 := IntWalk.i64_in _ (by omega)
          have hw2 : IntKind.i64.wrap (N * 16 + V) = N * 16 + V := IntWalk.i64_in _ (by omega)
          go_wp2_with fail
          refine (cH _).mono ?_
          rintro e w2 ⟨rfl, rfl⟩
          go_wp2_with fail
          refine (cH _).mono ?_
          rintro e w3 ⟨rfl, rfl⟩
          go_wp2
          go_roundg (gk - 1)
          case rel =>
            refine ⟨j + 1, by omega, ?_, ?_, ?_, HB.out.2⟩
            · rw [← hI]; rfl
            · show Value.int .i64 _ = .int .i64 (valN D j * 16 + hv D j)
              rw [HH.out.1, HH.out.2]
            · intro k hk
              by_cases hkj : k = j
              · rw [hkj, HH.out.2]; omega
              · exact HB.out.1 k (by omega)
          case measure => omega
      · have hsz : (s.size : Int) ≤ (I : Int) := by omega
        have hsz2 : decide ((s.size : Int) ≤ (I : Int)) = true := decide_eq_true hsz
        have hf := four_short D j hj (by omega)
        have HF := Lib.hid hf
        clear hf
        go_wp2
        go_ret
        rw [HF.out]
        exact ⟨rfl, HB.out.2⟩
    · obtain rfl : j = 4 := by omega
      have hlt : ¬ (I : Int) < ((at_ + 4 : Nat) : Int) := by omega
      go_wp2
      go_ret
      rw [four_ok D HB.out.1]
      exact ⟨rfl, HB.out.2⟩
end Go.Proofs.YtccnfnoonpfdfaaGreatDoor
namespace Go.Proofs.YtccnfnoonpfdfaaGreatDoor
open Go.Shelf Go.RowKit Go.Lib
theorem ret_pair {a b : Int} {c d : Int} (h : a = c) (k : b = d) : Ending.returned (.tuple #[.int .i32 a, .int .i64 b]) = .returned (.tuple #[.int .i32 c, .int .i64 d]) := by rw [h, k]
theorem escL_none (b : UInt8) (h0 : ¬ b = 34) (h1 : ¬ b = 92) (h2 : ¬ b = 47) (h3 : ¬ b = 98) (h4 : ¬ b = 102) (h5 : ¬ b = 110) (h6 : ¬ b = 114) (h7 : ¬ b = 116) : escL b.toNat = 0 := by
  have n : ∀ k : UInt8, ¬ b = k → ¬ b.toNat = k.toNat := fun k h e => h (UInt8.toNat_inj.1 e)
  have a0 : ¬ b.toNat = 34 := n 34 h0
  have a1 : ¬ b.toNat = 92 := n 92 h1
  have a2 : ¬ b.toNat = 47 := n 47 h2
  have a3 : ¬ b.toNat = 98 := n 98 h3
  have a4 : ¬ b.toNat = 102 := n 102 h4
  have a5 : ¬ b.toNat = 110 := n 110 h5
  have a6 : ¬ b.toNat = 114 := n 114 h6
  have a7 : ¬ b.toNat = 116 := n 116 h7
  unfold escL
  rw [if_neg a0, if_neg a1, if_neg a2, if_neg a3, if_neg a4, if_neg a5, if_neg a6, if_neg a7]
theorem char_x (D : BL) (h : (decodeL D).1 = 92) (hx : escL (D.getD 1 0).toNat ≠ 0) : charL D = ((escL (D.getD 1 0).toNat : Int), 2) := by
  unfold charL
  rw [if_neg (by omega), if_neg (by omega), if_pos hx]
theorem char_n (D : BL) (h : (decodeL D).1 = 92) (hx : escL (D.getD 1 0).toNat = 0) (hu : D.getD 1 0 ≠ 117) : charL D = (0, 0) := by
  unfold charL
  rw [if_neg (by omega), if_neg (by omega), if_neg (by omega), if_pos hu]
theorem char_w (D : BL) (h : (decodeL D).1 = 92) (hu : D.getD 1 0 = 117) : charL D = if (wideL (D.drop 2)).2 = 0 then (0, 0) else ((wideL (D.drop 2)).1, (wideL (D.drop 2)).2 + 2) := by
  unfold charL
  rw [if_neg (by omega), if_neg (by omega), if_neg (by rw [hu]; decide), if_neg (by rw [hu]; decide)]
set_option maxHeartbeats 8000000 in
set_option maxRecDepth 100000 in
theorem char_plain (s : ByteArray) (at_ : Nat) (w : World) (_hs : s.size ≤ 1099511627000) (hat : at_ < s.size) (h92 : (decodeL (s.data.toList.drop at_)).1 ≠ 92) :
    Calls Tryz.prog 103 #[.string s, .int .i64 at_] w fun e w' => e = .returned (.tuple #[.int .i32 (charL (s.data.toList.drop at_)).1, .int .i64 (charL (s.data.toList.drop at_)).2]) ∧ Below w.heap.size w w' := by
  obtain ⟨L, hL⟩ : ∃ L, s.data.toList = L := ⟨_, rfl⟩
  have hLs : L.length = s.size := by rw [← hL, ← size_eq]
  have hgL : ∀ i, s.get! i = L.getD i 0 := fun i => by rw [← getD_get!', hL]
  have cU := fun n (hn : n ≤ 1099511627776) W => unit_law s n W hn
  simp only [hL] at cU; rw [hL] at h92
  obtain ⟨D, hD⟩ : ∃ D, L.drop at_ = D := ⟨_, rfl⟩
  have hDl : D.length = s.size - at_ := by rw [← hD, List.length_drop]; omega
  have hDne : D ≠ [] := fun e => by rw [e] at hDl; simp at hDl; omega
  have hgD : ∀ j, D.getD j 0 = s.get! (at_ + j) := fun j => by rw [← hD, getD_drop0, hgL]
  have hdd : ∀ j, L.drop (at_ + j) = D.drop j := fun j => by rw [← hD, List.drop_drop]
  obtain ⟨X, hX⟩ : ∃ X, s.extract at_ s.size = X := ⟨_, rfl⟩
  have hXD : X.data.toList = D := by rw [← hX, drop_ba s at_ (by omega), hL, hD]
  have cF : ∀ W, Calls Tryz.prog 53 #[.string X] W _ := fun W => first_any X W
  simp only [hXD, firstL, if_neg hDne] at cF
  rw [hL, hD]
  rw [hD] at h92
  have hKw := decodeL_width D
  have hatz : (at_ : Int) ≤ (s.size : Int) := by omega
  have ce := char_err D; have cl := char_low D; have cs := char_self D; have cx := char_x D; have cn := char_n D; have cw := char_w D
  obtain ⟨R, hR⟩ : ∃ R, (decodeL D).1 = R := ⟨_, rfl⟩
  obtain ⟨K, hK⟩ : ∃ K, (decodeL D).2 = K := ⟨_, rfl⟩
  simp only [hR, hK] at cF ce cl cs cx cn cw h92
  rw [hK] at hKw
  clear hL hXD hR hK
  clear cU cx cn cw hgL hgD hdd
  by_cases h1 : R < 32
  · rw [cl h1]
    have hd1 : decide ((R : Int) < 32) = true := decide_eq_true (by omega)
    clear ce cl cs h92
    go_enter Tryz.func103, Tryz.ntmps103
    go_wp2_with fail
    refine (cF _).mono ?_
    rintro e w1 ⟨rfl, hb1⟩
    have HB := Lib.hid hb1
    clear hb1
    go_wp2
    go_ret2
    exact ⟨rfl, HB.out⟩
  have hd1 : decide ((R : Int) < 32) = false := decide_eq_false (by omega)
  by_cases h2 : R = 65533 ∧ K = 1
  · rw [ce h2.1 h2.2]
    obtain ⟨rfl, rfl⟩ := h2
    clear ce cl cs h92 hd1 h1
    go_enter Tryz.func103, Tryz.ntmps103
    go_wp2_with fail
    refine (cF _).mono ?_
    rintro e w1 ⟨rfl, hb1⟩
    have HB := Lib.hid hb1
    clear hb1
    go_wp2
    go_ret2
    exact ⟨rfl, HB.out⟩
  rw [cs h1 h2 h92]
  have z1 : ((R : Int) == 92) = false := beq_eq_false_iff_ne.2 (by omega)
  have z2 : ((R : Int) != 92) = true := by simp [bne, z1]
  by_cases h65 : R = 65533
  · have hK1 : ((K : Int) == 1) = false := beq_eq_false_iff_ne.2 (fun h => h2 ⟨h65, by omega⟩)
    have h65z : (R : Int) = 65533 := by omega
    rw [h65z] at cF
    rw [h65z]
    clear ce cl cs h92 hd1 h1 h2 h65 h65z z1 z2
    go_enter Tryz.func103, Tryz.ntmps103
    go_wp2_with fail
    refine (cF _).mono ?_
    rintro e w1 ⟨rfl, hb1⟩
    have HB := Lib.hid hb1
    clear hb1
    go_wp2
    go_ret2
    exact ⟨rfl, HB.out⟩
  · have h65z : ((R : Int) == 65533) = false := beq_eq_false_iff_ne.2 (by omega)
    clear ce cl cs h92 h1 h2 h65
    go_enter Tryz.func103, Tryz.ntmps103
    go_wp2_with fail
    refine (cF _).mono ?_
    rintro e w1 ⟨rfl, hb1⟩
    have HB := Lib.hid hb1
    clear hb1
    go_wp2
    go_ret2
    exact ⟨rfl, HB.out⟩
set_option maxHeartbeats 8000000 in
set_option maxRecDepth 100000 in
theorem char_back (s : ByteArray) (at_ : Nat) (w : World) (hs : s.size ≤ 1099511627000) (hat : at_ < s.size) (h92 : (decodeL (s.data.toList.drop at_)).1 = 92) :
    Calls Tryz.prog 103 #[.string s, .int .i64 at_] w fun e w' => e = .returned (.tuple #[.int .i32 (charL (s.data.toList.drop at_)).1, .int .i64 (charL (s.data.toList.drop at_)).2]) ∧ Below w.heap.size w w' := by
  obtain ⟨L, hL⟩ : ∃ L, s.data.toList = L := ⟨_, rfl⟩
  have hLs : L.length = s.size := by rw [← hL, ← size_eq]
  have hgL : ∀ i, s.get! i = L.getD i 0 := fun i => by rw [← getD_get!', hL]
  have cU := fun n (hn : n ≤ 1099511627776) W => unit_law s n W hn
  simp only [hL] at cU; rw [hL] at h92
  obtain ⟨D, hD⟩ : ∃ D, L.drop at_ = D := ⟨_, rfl⟩
  have hDl : D.length = s.size - at_ := by rw [← hD, List.length_drop]; omega
  have hDne : D ≠ [] := fun e => by rw [e] at hDl; simp at hDl; omega
  have hgD : ∀ j, D.getD j 0 = s.get! (at_ + j) := fun j => by rw [← hD, getD_drop0, hgL]
  have hdd : ∀ j, L.drop (at_ + j) = D.drop j := fun j => by rw [← hD, List.drop_drop]
  obtain ⟨X, hX⟩ : ∃ X, s.extract at_ s.size = X := ⟨_, rfl⟩
  have hXD : X.data.toList = D := by rw [← hX, drop_ba s at_ (by omega), hL, hD]
  have cF : ∀ W, Calls Tryz.prog 53 #[.string X] W _ := fun W => first_any X W
  simp only [hXD, firstL, if_neg hDne] at cF
  rw [hL, hD]
  rw [hD] at h92
  have hKw := decodeL_width D
  have hatz : (at_ : Int) ≤ (s.size : Int) := by omega
  have ce := char_err D; have cl := char_low D; have cs := char_self D; have cx := char_x D; have cn := char_n D; have cw := char_w D
  obtain ⟨R, hR⟩ : ∃ R, (decodeL D).1 = R := ⟨_, rfl⟩
  obtain ⟨K, hK⟩ : ∃ K, (decodeL D).2 = K := ⟨_, rfl⟩
  simp only [hR, hK] at cF ce cl cs cx cn cw h92
  rw [hK] at hKw
  clear hL hXD hR hK
  clear ce cl cs
  subst h92
  have w1e : IntKind.i64.wrap ((at_ : Int) + 1) = ((at_ + 1 : Nat) : Int) := by rw [IntWalk.i64_in _ (by omega)]; omega
  have w2e : IntKind.i64.wrap ((at_ : Int) + 2) = ((at_ + 2 : Nat) : Int) := by rw [IntWalk.i64_in _ (by omega)]; omega
  have w6e : IntKind.i64.wrap ((at_ : Int) + 6) = ((at_ + 6 : Nat) : Int) := by rw [IntWalk.i64_in _ (by omega)]; omega
  have w7e : IntKind.i64.wrap ((at_ : Int) + 7) = ((at_ + 7 : Nat) : Int) := by rw [IntWalk.i64_in _ (by omega)]; omega
  have w8e : IntKind.i64.wrap ((at_ : Int) + 8) = ((at_ + 8 : Nat) : Int) := by rw [IntWalk.i64_in _ (by omega)]; omega
  obtain ⟨I1, hI1⟩ : ∃ I, at_ + 1 = I := ⟨_, rfl⟩
  rw [hI1] at w1e
  by_cases h1 : I1 < s.size
  · have h1z : ¬ (s.size : Int) ≤ (I1 : Int) := by omega
    have h1y : (I1 : Int) < (s.size : Int) := by omega
    obtain ⟨b, hb⟩ : ∃ b, s[I1]'h1 = b := ⟨_, rfl⟩
    have hbD : D.getD 1 0 = b := by rw [hgD, hI1, Utf8W.get!_of_lt s I1 h1, hb]
    rw [hbD] at cx cn cw
    by_cases hx0 : b = 34
    · subst hx0
      rw [cx rfl (by decide), show (escL ((34 : UInt8)).toNat : Int) = 34 from rfl]
      clear cx cn cw cU hgL hgD hdd hbD
      go_enter Tryz.func103, Tryz.ntmps103
      go_wp2_with fail
      refine (cF _).mono ?_
      rintro e w1 ⟨rfl, hb1⟩
      have HB := Lib.hid hb1
      clear hb1
      have hconv : (convert 22 22 (.slice (some ⟨w1.heap.size, 0, none⟩) 8 8)).run Tryz.prog (w1.alloc (.cells #[.int .u8 34, .int .u8 92, .int .u8 47, .int .u8 98, .int .u8 102, .int .u8 110, .int .u8 114, .int .u8 116] 5)) = .ok (.slice (some ⟨w1.heap.size, 0, none⟩) 8 8) (w1.alloc (.cells #[.int .u8 34, .int .u8 92, .int .u8 47, .int .u8 98, .int .u8 102, .int .u8 110, .int .u8 114, .int .u8 116] 5 (8, 9))) :=
        Lib.run_convert_bytes_const w1 _ _ _ 8 8 Tryz.underlying22 Tryz.underlying5
      have hcm := fun j => World.cell?_alloc_mark w1 #[.int .u8 34, .int .u8 92, .int .u8 47, .int .u8 98, .int .u8 102, .int .u8 110, .int .u8 114, .int .u8 116] 5 (8, 9) j
      go_wp2
      refine wp_loop_rounds 1 ?_
      rw [rounds_succ]
      go_wp2
      go_ret2
      exact ⟨rfl, (HB.out.alloc HB.out.size _).alloc (by have := HB.out.size; simp; omega) _⟩
    by_cases hx1 : b = 92
    · subst hx1
      rw [cx rfl (by decide), show (escL ((92 : UInt8)).toNat : Int) = 92 from rfl]
      clear cx cn cw cU hgL hgD hdd hbD
      go_enter Tryz.func103, Tryz.ntmps103
      go_wp2_with fail
      refine (cF _).mono ?_
      rintro e w1 ⟨rfl, hb1⟩
      have HB := Lib.hid hb1
      clear hb1
      have hconv : (convert 22 22 (.slice (some ⟨w1.heap.size, 0, none⟩) 8 8)).run Tryz.prog (w1.alloc (.cells #[.int .u8 34, .int .u8 92, .int .u8 47, .int .u8 98, .int .u8 102, .int .u8 110, .int .u8 114, .int .u8 116] 5)) = .ok (.slice (some ⟨w1.heap.size, 0, none⟩) 8 8) (w1.alloc (.cells #[.int .u8 34, .int .u8 92, .int .u8 47, .int .u8 98, .int .u8 102, .int .u8 110, .int .u8 114, .int .u8 116] 5 (8, 9))) :=
        Lib.run_convert_bytes_const w1 _ _ _ 8 8 Tryz.underlying22 Tryz.underlying5
      have hcm := fun j => World.cell?_alloc_mark w1 #[.int .u8 34, .int .u8 92, .int .u8 47, .int .u8 98, .int .u8 102, .int .u8 110, .int .u8 114, .int .u8 116] 5 (8, 9) j
      go_wp2
      refine wp_loop_rounds 2 ?_
      rw [rounds_succ]
      go_wp2
      rw [rounds_succ]
      go_wp2
      go_ret2
      exact ⟨rfl, (HB.out.alloc HB.out.size _).alloc (by have := HB.out.size; simp; omega) _⟩
    by_cases hx2 : b = 47
    · subst hx2
      rw [cx rfl (by decide), show (escL ((47 : UInt8)).toNat : Int) = 47 from rfl]
      clear cx cn cw cU hgL hgD hdd hbD
      go_enter Tryz.func103, Tryz.ntmps103
      go_wp2_with fail
      refine (cF _).mono ?_
      rintro e w1 ⟨rfl, hb1⟩
      have HB := Lib.hid hb1
      clear hb1
      have hconv : (convert 22 22 (.slice (some ⟨w1.heap.size, 0, none⟩) 8 8)).run Tryz.prog (w1.alloc (.cells #[.int .u8 34, .int .u8 92, .int .u8 47, .int .u8 98, .int .u8 102, .int .u8 110, .int .u8 114, .int .u8 116] 5)) = .ok (.slice (some ⟨w1.heap.size, 0, none⟩) 8 8) (w1.alloc (.cells #[.int .u8 34, .int .u8 92, .int .u8 47, .int .u8 98, .int .u8 102, .int .u8 110, .int .u8 114, .int .u8 116] 5 (8, 9))) :=
        Lib.run_convert_bytes_const w1 _ _ _ 8 8 Tryz.underlying22 Tryz.underlying5
      have hcm := fun j => World.cell?_alloc_mark w1 #[.int .u8 34, .int .u8 92, .int .u8 47, .int .u8 98, .int .u8 102, .int .u8 110, .int .u8 114, .int .u8 116] 5 (8, 9) j
      go_wp2
      refine wp_loop_rounds 3 ?_
      rw [rounds_succ]
      go_wp2
      rw [rounds_succ]
      go_wp2
      rw [rounds_succ]
      go_wp2
      go_ret2
      exact ⟨rfl, (HB.out.alloc HB.out.size _).alloc (by have := HB.out.size; simp; omega) _⟩
    by_cases hx3 : b = 98
    · subst hx3
      rw [cx rfl (by decide), show (escL ((98 : UInt8)).toNat : Int) = 8 from rfl]
      clear cx cn cw cU hgL hgD hdd hbD
      go_enter Tryz.func103, Tryz.ntmps103
      go_wp2_with fail
      refine (cF _).mono ?_
      rintro e w1 ⟨rfl, hb1⟩
      have HB := Lib.hid hb1
      clear hb1
      have hconv : (convert 22 22 (.slice (some ⟨w1.heap.size, 0, none⟩) 8 8)).run Tryz.prog (w1.alloc (.cells #[.int .u8 34, .int .u8 92, .int .u8 47, .int .u8 98, .int .u8 102, .int .u8 110, .int .u8 114, .int .u8 116] 5)) = .ok (.slice (some ⟨w1.heap.size, 0, none⟩) 8 8) (w1.alloc (.cells #[.int .u8 34, .int .u8 92, .int .u8 47, .int .u8 98, .int .u8 102, .int .u8 110, .int .u8 114, .int .u8 116] 5 (8, 9))) :=
        Lib.run_convert_bytes_const w1 _ _ _ 8 8 Tryz.underlying22 Tryz.underlying5
      have hcm := fun j => World.cell?_alloc_mark w1 #[.int .u8 34, .int .u8 92, .int .u8 47, .int .u8 98, .int .u8 102, .int .u8 110, .int .u8 114, .int .u8 116] 5 (8, 9) j
      go_wp2
      refine wp_loop_rounds 4 ?_
      rw [rounds_succ]
      go_wp2
      rw [rounds_succ]
      go_wp2
      rw [rounds_succ]
      go_wp2
      rw [rounds_succ]
      go_wp2
      go_ret2
      exact ⟨rfl, (HB.out.alloc HB.out.size _).alloc (by have := HB.out.size; simp; omega) _⟩
    by_cases hx4 : b = 102
    · subst hx4
      rw [cx rfl (by decide), show (escL ((102 : UInt8)).toNat : Int) = 12 from rfl]
      clear cx cn cw cU hgL hgD hdd hbD
      go_enter Tryz.func103, Tryz.ntmps103
      go_wp2_with fail
      refine (cF _).mono ?_
      rintro e w1 ⟨rfl, hb1⟩
      have HB := Lib.hid hb1
      clear hb1
      have hconv : (convert 22 22 (.slice (some ⟨w1.heap.size, 0, none⟩) 8 8)).run Tryz.prog (w1.alloc (.cells #[.int .u8 34, .int .u8 92, .int .u8 47, .int .u8 98, .int .u8 102, .int .u8 110, .int .u8 114, .int .u8 116] 5)) = .ok (.slice (some ⟨w1.heap.size, 0, none⟩) 8 8) (w1.alloc (.cells #[.int .u8 34, .int .u8 92, .int .u8 47, .int .u8 98, .int .u8 102, .int .u8 110, .int .u8 114, .int .u8 116] 5 (8, 9))) :=
        Lib.run_convert_bytes_const w1 _ _ _ 8 8 Tryz.underlying22 Tryz.underlying5
      have hcm := fun j => World.cell?_alloc_mark w1 #[.int .u8 34, .int .u8 92, .int .u8 47, .int .u8 98, .int .u8 102, .int .u8 110, .int .u8 114, .int .u8 116] 5 (8, 9) j
      go_wp2
      refine wp_loop_rounds 5 ?_
      rw [rounds_succ]
      go_wp2
      rw [rounds_succ]
      go_wp2
      rw [rounds_succ]
      go_wp2
      rw [rounds_succ]
      go_wp2
      rw [rounds_succ]
      go_wp2
      go_ret2
      exact ⟨rfl, (HB.out.alloc HB.out.size _).alloc (by have := HB.out.size; simp; omega) _⟩
    by_cases hx5 : b = 110
    · subst hx5
      rw [cx rfl (by decide), show (escL ((110 : UInt8)).toNat : Int) = 10 from rfl]
      clear cx cn cw cU hgL hgD hdd hbD
      go_enter Tryz.func103, Tryz.ntmps103
      go_wp2_with fail
      refine (cF _).mono ?_
      rintro e w1 ⟨rfl, hb1⟩
      have HB := Lib.hid hb1
      clear hb1
      have hconv : (convert 22 22 (.slice (some ⟨w1.heap.size, 0, none⟩) 8 8)).run Tryz.prog (w1.alloc (.cells #[.int .u8 34, .int .u8 92, .int .u8 47, .int .u8 98, .int .u8 102, .int .u8 110, .int .u8 114, .int .u8 116] 5)) = .ok (.slice (some ⟨w1.heap.size, 0, none⟩) 8 8) (w1.alloc (.cells #[.int .u8 34, .int .u8 92, .int .u8 47, .int .u8 98, .int .u8 102, .int .u8 110, .int .u8 114, .int .u8 116] 5 (8, 9))) :=
        Lib.run_convert_bytes_const w1 _ _ _ 8 8 Tryz.underlying22 Tryz.underlying5
      have hcm := fun j => World.cell?_alloc_mark w1 #[.int .u8 34, .int .u8 92, .int .u8 47, .int .u8 98, .int .u8 102, .int .u8 110, .int .u8 114, .int .u8 116] 5 (8, 9) j
      go_wp2
      refine wp_loop_rounds 6 ?_
      rw [rounds_succ]
      go_wp2
      rw [rounds_succ]
      go_wp2
      rw [rounds_succ]
      go_wp2
      rw [rounds_succ]
      go_wp2
      rw [rounds_succ]
      go_wp2
      rw [rounds_succ]
      go_wp2
      go_ret2
      exact ⟨rfl, (HB.out.alloc HB.out.size _).alloc (by have := HB.out.size; simp; omega) _⟩
    by_cases hx6 : b = 114
    · subst hx6
      rw [cx rfl (by decide), show (escL ((114 : UInt8)).toNat : Int) = 13 from rfl]
      clear cx cn cw cU hgL hgD hdd hbD
      go_enter Tryz.func103, Tryz.ntmps103
      go_wp2_with fail
      refine (cF _).mono ?_
      rintro e w1 ⟨rfl, hb1⟩
      have HB := Lib.hid hb1
      clear hb1
      have hconv : (convert 22 22 (.slice (some ⟨w1.heap.size, 0, none⟩) 8 8)).run Tryz.prog (w1.alloc (.cells #[.int .u8 34, .int .u8 92, .int .u8 47, .int .u8 98, .int .u8 102, .int .u8 110, .int .u8 114, .int .u8 116] 5)) = .ok (.slice (some ⟨w1.heap.size, 0, none⟩) 8 8) (w1.alloc (.cells #[.int .u8 34, .int .u8 92, .int .u8 47, .int .u8 98, .int .u8 102, .int .u8 110, .int .u8 114, .int .u8 116] 5 (8, 9))) :=
        Lib.run_convert_bytes_const w1 _ _ _ 8 8 Tryz.underlying22 Tryz.underlying5
      have hcm := fun j => World.cell?_alloc_mark w1 #[.int .u8 34, .int .u8 92, .int .u8 47, .int .u8 98, .int .u8 102, .int .u8 110, .int .u8 114, .int .u8 116] 5 (8, 9) j
      go_wp2
      refine wp_loop_rounds 7 ?_
      rw [rounds_succ]
      go_wp2
      rw [rounds_succ]
      go_wp2
      rw [rounds_succ]
      go_wp2
      rw [rounds_succ]
      go_wp2
      rw [rounds_succ]
      go_wp2
      rw [rounds_succ]
      go_wp2
      rw [rounds_succ]
      go_wp2
      go_ret2
      exact ⟨rfl, (HB.out.alloc HB.out.size _).alloc (by have := HB.out.size; simp; omega) _⟩
    by_cases hx7 : b = 116
    · subst hx7
      rw [cx rfl (by decide), show (escL ((116 : UInt8)).toNat : Int) = 9 from rfl]
      clear cx cn cw cU hgL hgD hdd hbD
      go_enter Tryz.func103, Tryz.ntmps103
      go_wp2_with fail
      refine (cF _).mono ?_
      rintro e w1 ⟨rfl, hb1⟩
      have HB := Lib.hid hb1
      clear hb1
      have hconv : (convert 22 22 (.slice (some ⟨w1.heap.size, 0, none⟩) 8 8)).run Tryz.prog (w1.alloc (.cells #[.int .u8 34, .int .u8 92, .int .u8 47, .int .u8 98, .int .u8 102, .int .u8 110, .int .u8 114, .int .u8 116] 5)) = .ok (.slice (some ⟨w1.heap.size, 0, none⟩) 8 8) (w1.alloc (.cells #[.int .u8 34, .int .u8 92, .int .u8 47, .int .u8 98, .int .u8 102, .int .u8 110, .int .u8 114, .int .u8 116] 5 (8, 9))) :=
        Lib.run_convert_bytes_const w1 _ _ _ 8 8 Tryz.underlying22 Tryz.underlying5
      have hcm := fun j => World.cell?_alloc_mark w1 #[.int .u8 34, .int .u8 92, .int .u8 47, .int .u8 98, .int .u8 102, .int .u8 110, .int .u8 114, .int .u8 116] 5 (8, 9) j
      go_wp2
      refine wp_loop_rounds 8 ?_
      rw [rounds_succ]
      go_wp2
      rw [rounds_succ]
      go_wp2
      rw [rounds_succ]
      go_wp2
      rw [rounds_succ]
      go_wp2
      rw [rounds_succ]
      go_wp2
      rw [rounds_succ]
      go_wp2
      rw [rounds_succ]
      go_wp2
      rw [rounds_succ]
      go_wp2
      go_ret2
      exact ⟨rfl, (HB.out.alloc HB.out.size _).alloc (by have := HB.out.size; simp; omega) _⟩
    have he0 : escL b.toNat = 0 := escL_none b hx0 hx1 hx2 hx3 hx4 hx5 hx6 hx7
    have p0 : ((b.toNat : Int) == 34) = false := beq_eq_false_iff_ne.2 (fun e => hx0 (UInt8.toNat_inj.1 (by show b.toNat = 34; omega)))
    have o0 : ¬ (b.toNat : Int) = 34 := fun e => hx0 (UInt8.toNat_inj.1 (by show b.toNat = 34; omega))
    have p1 : ((b.toNat : Int) == 92) = false := beq_eq_false_iff_ne.2 (fun e => hx1 (UInt8.toNat_inj.1 (by show b.toNat = 92; omega)))
    have o1 : ¬ (b.toNat : Int) = 92 := fun e => hx1 (UInt8.toNat_inj.1 (by show b.toNat = 92; omega))
    have p2 : ((b.toNat : Int) == 47) = false := beq_eq_false_iff_ne.2 (fun e => hx2 (UInt8.toNat_inj.1 (by show b.toNat = 47; omega)))
    have o2 : ¬ (b.toNat : Int) = 47 := fun e => hx2 (UInt8.toNat_inj.1 (by show b.toNat = 47; omega))
    have p3 : ((b.toNat : Int) == 98) = false := beq_eq_false_iff_ne.2 (fun e => hx3 (UInt8.toNat_inj.1 (by show b.toNat = 98; omega)))
    have o3 : ¬ (b.toNat : Int) = 98 := fun e => hx3 (UInt8.toNat_inj.1 (by show b.toNat = 98; omega))
    have p4 : ((b.toNat : Int) == 102) = false := beq_eq_false_iff_ne.2 (fun e => hx4 (UInt8.toNat_inj.1 (by show b.toNat = 102; omega)))
    have o4 : ¬ (b.toNat : Int) = 102 := fun e => hx4 (UInt8.toNat_inj.1 (by show b.toNat = 102; omega))
    have p5 : ((b.toNat : Int) == 110) = false := beq_eq_false_iff_ne.2 (fun e => hx5 (UInt8.toNat_inj.1 (by show b.toNat = 110; omega)))
    have o5 : ¬ (b.toNat : Int) = 110 := fun e => hx5 (UInt8.toNat_inj.1 (by show b.toNat = 110; omega))
    have p6 : ((b.toNat : Int) == 114) = false := beq_eq_false_iff_ne.2 (fun e => hx6 (UInt8.toNat_inj.1 (by show b.toNat = 114; omega)))
    have o6 : ¬ (b.toNat : Int) = 114 := fun e => hx6 (UInt8.toNat_inj.1 (by show b.toNat = 114; omega))
    have p7 : ((b.toNat : Int) == 116) = false := beq_eq_false_iff_ne.2 (fun e => hx7 (UInt8.toNat_inj.1 (by show b.toNat = 116; omega)))
    have o7 : ¬ (b.toNat : Int) = 116 := fun e => hx7 (UInt8.toNat_inj.1 (by show b.toNat = 116; omega))
    have cA := cU (at_ + 2) (by omega)
    rw [hdd] at cA
    have hA := fourL_range (D.drop 2)
    obtain ⟨A, hAe⟩ : ∃ A, fourL (D.drop 2) = A := ⟨_, rfl⟩
    simp only [hAe] at cA
    rw [hAe] at hA
    clear hx0 hx1 hx2 hx3 hx4 hx5 hx6 hx7
    by_cases hu : b = 117
    · subst hu
      have cw2 := cw rfl rfl
      clear cx cn cw he0
      by_cases hA0 : A < 0
      · have hz : wideL (D.drop 2) = (0, 0) := by unfold wideL; rw [hAe]; rw [if_pos hA0]
        rw [hz, if_pos rfl] at cw2
        rw [cw2]
        clear cw2 hz cU hgL hgD hdd hbD hAe
        have d0 : decide (A < 0) = true := decide_eq_true (by omega)
        have e0 : (A < 0) := by omega
        clear hA0
        go_enter Tryz.func103, Tryz.ntmps103
        go_wp2_with fail
        refine (cF _).mono ?_
        rintro e w1 ⟨rfl, hb1⟩
        have HB := Lib.hid hb1
        clear hb1
        have hconv : (convert 22 22 (.slice (some ⟨w1.heap.size, 0, none⟩) 8 8)).run Tryz.prog (w1.alloc (.cells #[.int .u8 34, .int .u8 92, .int .u8 47, .int .u8 98, .int .u8 102, .int .u8 110, .int .u8 114, .int .u8 116] 5)) = .ok (.slice (some ⟨w1.heap.size, 0, none⟩) 8 8) (w1.alloc (.cells #[.int .u8 34, .int .u8 92, .int .u8 47, .int .u8 98, .int .u8 102, .int .u8 110, .int .u8 114, .int .u8 116] 5 (8, 9))) :=
          Lib.run_convert_bytes_const w1 _ _ _ 8 8 Tryz.underlying22 Tryz.underlying5
        have hcm := fun j => World.cell?_alloc_mark w1 #[.int .u8 34, .int .u8 92, .int .u8 47, .int .u8 98, .int .u8 102, .int .u8 110, .int .u8 114, .int .u8 116] 5 (8, 9) j
        go_wp2
        refine wp_loop_rounds 9 ?_
        rw [rounds_succ]
        go_wp2
        rw [rounds_succ]
        go_wp2
        rw [rounds_succ]
        go_wp2
        rw [rounds_succ]
        go_wp2
        rw [rounds_succ]
        go_wp2
        rw [rounds_succ]
        go_wp2
        rw [rounds_succ]
        go_wp2
        rw [rounds_succ]
        go_wp2
        rw [rounds_succ]
        go_wp2_with fail
        have HB2 := Lib.hid (HB.out.alloc HB.out.size (.cells #[.int .u8 34, .int .u8 92, .int .u8 47, .int .u8 98, .int .u8 102, .int .u8 110, .int .u8 114, .int .u8 116] 5 (8, 9)))
        generalize w1.alloc (.cells #[.int .u8 34, .int .u8 92, .int .u8 47, .int .u8 98, .int .u8 102, .int .u8 110, .int .u8 114, .int .u8 116] 5 (8, 9)) = w2 at HB2 ⊢
        refine (cA _).mono ?_
        rintro e w3 ⟨rfl, hb3⟩
        have H3 := Lib.hid (HB2.out.trans (hb3.mono HB2.out.size))
        clear hb3
        go_wp2
        go_ret2
        exact ⟨rfl, H3.out⟩
      by_cases hA1 : 56320 ≤ A ∧ A ≤ 57343
      · have hz : wideL (D.drop 2) = (0, 0) := by unfold wideL; rw [hAe]; rw [if_neg hA0, if_neg (by omega), if_pos (.inl hA1.1)]
        rw [hz, if_pos rfl] at cw2
        rw [cw2]
        clear cw2 hz cU hgL hgD hdd hbD hAe
        have d0 : decide (A < 0) = false := decide_eq_false (by omega)
        have e0 : ¬ (A < 0) := by omega
        have d1 : decide (56320 ≤ A) = true := decide_eq_true (by omega)
        have e1 : (56320 ≤ A) := by omega
        have d2 : decide (A ≤ 57343) = true := decide_eq_true (by omega)
        have e2 : (A ≤ 57343) := by omega
        clear hA0 hA1
        go_enter Tryz.func103, Tryz.ntmps103
        go_wp2_with fail
        refine (cF _).mono ?_
        rintro e w1 ⟨rfl, hb1⟩
        have HB := Lib.hid hb1
        clear hb1
        have hconv : (convert 22 22 (.slice (some ⟨w1.heap.size, 0, none⟩) 8 8)).run Tryz.prog (w1.alloc (.cells #[.int .u8 34, .int .u8 92, .int .u8 47, .int .u8 98, .int .u8 102, .int .u8 110, .int .u8 114, .int .u8 116] 5)) = .ok (.slice (some ⟨w1.heap.size, 0, none⟩) 8 8) (w1.alloc (.cells #[.int .u8 34, .int .u8 92, .int .u8 47, .int .u8 98, .int .u8 102, .int .u8 110, .int .u8 114, .int .u8 116] 5 (8, 9))) :=
          Lib.run_convert_bytes_const w1 _ _ _ 8 8 Tryz.underlying22 Tryz.underlying5
        have hcm := fun j => World.cell?_alloc_mark w1 #[.int .u8 34, .int .u8 92, .int .u8 47, .int .u8 98, .int .u8 102, .int .u8 110, .int .u8 114, .int .u8 116] 5 (8, 9) j
        go_wp2
        refine wp_loop_rounds 9 ?_
        rw [rounds_succ]
        go_wp2
        rw [rounds_succ]
        go_wp2
        rw [rounds_succ]
        go_wp2
        rw [rounds_succ]
        go_wp2
        rw [rounds_succ]
        go_wp2
        rw [rounds_succ]
        go_wp2
        rw [rounds_succ]
        go_wp2
        rw [rounds_succ]
        go_wp2
        rw [rounds_succ]
        go_wp2_with fail
        have HB2 := Lib.hid (HB.out.alloc HB.out.size (.cells #[.int .u8 34, .int .u8 92, .int .u8 47, .int .u8 98, .int .u8 102, .int .u8 110, .int .u8 114, .int .u8 116] 5 (8, 9)))
        generalize w1.alloc (.cells #[.int .u8 34, .int .u8 92, .int .u8 47, .int .u8 98, .int .u8 102, .int .u8 110, .int .u8 114, .int .u8 116] 5 (8, 9)) = w2 at HB2 ⊢
        refine (cA _).mono ?_
        rintro e w3 ⟨rfl, hb3⟩
        have H3 := Lib.hid (HB2.out.trans (hb3.mono HB2.out.size))
        clear hb3
        go_wp2
        go_ret2
        exact ⟨rfl, H3.out⟩
      by_cases hA2 : A < 55296
      · have hz : wideL (D.drop 2) = (A, 4) := by unfold wideL; rw [hAe, if_neg hA0, if_pos (by omega)]
        rw [hz, if_neg (by simp)] at cw2
        rw [cw2]
        have hwA : IntKind.i32.wrap A = A := IntWalk.i32_in _ (by omega)
        clear cw2 hz cU hgL hgD hdd hbD hAe
        have d0 : decide (A < 0) = false := decide_eq_false (by omega)
        have e0 : ¬ (A < 0) := by omega
        have d1 : decide (56320 ≤ A) = false := decide_eq_false (by omega)
        have e1 : ¬ (56320 ≤ A) := by omega
        have d2 : decide (A < 55296) = true := decide_eq_true (by omega)
        have e2 : (A < 55296) := by omega
        clear hA0 hA1 hA2
        go_enter Tryz.func103, Tryz.ntmps103
        go_wp2_with fail
        refine (cF _).mono ?_
        rintro e w1 ⟨rfl, hb1⟩
        have HB := Lib.hid hb1
        clear hb1
        have hconv : (convert 22 22 (.slice (some ⟨w1.heap.size, 0, none⟩) 8 8)).run Tryz.prog (w1.alloc (.cells #[.int .u8 34, .int .u8 92, .int .u8 47, .int .u8 98, .int .u8 102, .int .u8 110, .int .u8 114, .int .u8 116] 5)) = .ok (.slice (some ⟨w1.heap.size, 0, none⟩) 8 8) (w1.alloc (.cells #[.int .u8 34, .int .u8 92, .int .u8 47, .int .u8 98, .int .u8 102, .int .u8 110, .int .u8 114, .int .u8 116] 5 (8, 9))) :=
          Lib.run_convert_bytes_const w1 _ _ _ 8 8 Tryz.underlying22 Tryz.underlying5
        have hcm := fun j => World.cell?_alloc_mark w1 #[.int .u8 34, .int .u8 92, .int .u8 47, .int .u8 98, .int .u8 102, .int .u8 110, .int .u8 114, .int .u8 116] 5 (8, 9) j
        go_wp2
        refine wp_loop_rounds 9 ?_
        rw [rounds_succ]
        go_wp2
        rw [rounds_succ]
        go_wp2
        rw [rounds_succ]
        go_wp2
        rw [rounds_succ]
        go_wp2
        rw [rounds_succ]
        go_wp2
        rw [rounds_succ]
        go_wp2
        rw [rounds_succ]
        go_wp2
        rw [rounds_succ]
        go_wp2
        rw [rounds_succ]
        go_wp2_with fail
        have HB2 := Lib.hid (HB.out.alloc HB.out.size (.cells #[.int .u8 34, .int .u8 92, .int .u8 47, .int .u8 98, .int .u8 102, .int .u8 110, .int .u8 114, .int .u8 116] 5 (8, 9)))
        generalize w1.alloc (.cells #[.int .u8 34, .int .u8 92, .int .u8 47, .int .u8 98, .int .u8 102, .int .u8 110, .int .u8 114, .int .u8 116] 5 (8, 9)) = w2 at HB2 ⊢
        refine (cA _).mono ?_
        rintro e w3 ⟨rfl, hb3⟩
        have H3 := Lib.hid (HB2.out.trans (hb3.mono HB2.out.size))
        clear hb3
        go_wp2
        go_ret2
        exact ⟨rfl, H3.out⟩
      by_cases hA3 : 57343 < A
      · have hz : wideL (D.drop 2) = (A, 4) := by unfold wideL; rw [hAe, if_neg hA0, if_pos (by omega)]
        rw [hz, if_neg (by simp)] at cw2
        rw [cw2]
        have hwA : IntKind.i32.wrap A = A := IntWalk.i32_in _ (by omega)
        clear cw2 hz cU hgL hgD hdd hbD hAe
        have d0 : decide (A < 0) = false := decide_eq_false (by omega)
        have e0 : ¬ (A < 0) := by omega
        have d1 : decide (56320 ≤ A) = true := decide_eq_true (by omega)
        have e1 : (56320 ≤ A) := by omega
        have d2 : decide (A ≤ 57343) = false := decide_eq_false (by omega)
        have e2 : ¬ (A ≤ 57343) := by omega
        have d3 : decide (A < 55296) = false := decide_eq_false (by omega)
        have e3 : ¬ (A < 55296) := by omega
        have d4 : decide (57343 < A) = true := decide_eq_true (by omega)
        have e4 : (57343 < A) := by omega
        clear hA0 hA1 hA2 hA3
        go_enter Tryz.func103, Tryz.ntmps103
        go_wp2_with fail
        refine (cF _).mono ?_
        rintro e w1 ⟨rfl, hb1⟩
        have HB := Lib.hid hb1
        clear hb1
        have hconv : (convert 22 22 (.slice (some ⟨w1.heap.size, 0, none⟩) 8 8)).run Tryz.prog (w1.alloc (.cells #[.int .u8 34, .int .u8 92, .int .u8 47, .int .u8 98, .int .u8 102, .int .u8 110, .int .u8 114, .int .u8 116] 5)) = .ok (.slice (some ⟨w1.heap.size, 0, none⟩) 8 8) (w1.alloc (.cells #[.int .u8 34, .int .u8 92, .int .u8 47, .int .u8 98, .int .u8 102, .int .u8 110, .int .u8 114, .int .u8 116] 5 (8, 9))) :=
          Lib.run_convert_bytes_const w1 _ _ _ 8 8 Tryz.underlying22 Tryz.underlying5
        have hcm := fun j => World.cell?_alloc_mark w1 #[.int .u8 34, .int .u8 92, .int .u8 47, .int .u8 98, .int .u8 102, .int .u8 110, .int .u8 114, .int .u8 116] 5 (8, 9) j
        go_wp2
        refine wp_loop_rounds 9 ?_
        rw [rounds_succ]
        go_wp2
        rw [rounds_succ]
        go_wp2
        rw [rounds_succ]
        go_wp2
        rw [rounds_succ]
        go_wp2
        rw [rounds_succ]
        go_wp2
        rw [rounds_succ]
        go_wp2
        rw [rounds_succ]
        go_wp2
        rw [rounds_succ]
        go_wp2
        rw [rounds_succ]
        go_wp2_with fail
        have HB2 := Lib.hid (HB.out.alloc HB.out.size (.cells #[.int .u8 34, .int .u8 92, .int .u8 47, .int .u8 98, .int .u8 102, .int .u8 110, .int .u8 114, .int .u8 116] 5 (8, 9)))
        generalize w1.alloc (.cells #[.int .u8 34, .int .u8 92, .int .u8 47, .int .u8 98, .int .u8 102, .int .u8 110, .int .u8 114, .int .u8 116] 5 (8, 9)) = w2 at HB2 ⊢
        refine (cA _).mono ?_
        rintro e w3 ⟨rfl, hb3⟩
        have H3 := Lib.hid (HB2.out.trans (hb3.mono HB2.out.size))
        clear hb3
        go_wp2
        go_ret2
        exact ⟨rfl, H3.out⟩
      have cB := cU (at_ + 8) (by omega)
      rw [hdd] at cB
      have hBr := fourL_range (D.drop 8)
      have hB4 := four_len (D.drop 8)
      have hwl : wideL (D.drop 2) = if D.getD 6 0 ≠ 92 ∨ D.getD 7 0 ≠ 117 ∨ fourL (D.drop 8) < 56320 ∨ 57343 < fourL (D.drop 8) then (0, 0) else (65536 + (A - 55296) * 1024 + (fourL (D.drop 8) - 56320), 10) := by
        unfold wideL
        rw [hAe, if_neg hA0, if_neg (by omega), getD_drop0, getD_drop0, List.drop_drop]
        by_cases hc : D.getD 6 0 ≠ 92 ∨ D.getD 7 0 ≠ 117 ∨ fourL (D.drop 8) < 56320 ∨ 57343 < fourL (D.drop 8)
        · rw [if_pos hc, if_pos (.inr hc)]
        · rw [if_neg hc, if_neg (fun h => h.elim (by omega) hc)]
      obtain ⟨B, hBe⟩ : ∃ B, fourL (D.drop 8) = B := ⟨_, rfl⟩
      simp only [hBe] at cB
      rw [hBe] at hBr hB4 hwl
      rw [List.length_drop] at hB4
      by_cases hB1 : B < 56320
      · rw [if_pos (.inr (.inr (.inl hB1)))] at hwl
        rw [hwl, if_pos rfl] at cw2
        rw [cw2]
        clear cw2 hwl cU hgL hgD hdd hbD hAe hBe hB4
        have d0 : decide (A < 0) = false := decide_eq_false (by omega)
        have e0 : ¬ (A < 0) := by omega
        have d1 : decide (56320 ≤ A) = false := decide_eq_false (by omega)
        have e1 : ¬ (56320 ≤ A) := by omega
        have d2 : decide (A < 55296) = false := decide_eq_false (by omega)
        have e2 : ¬ (A < 55296) := by omega
        have d3 : decide (57343 < A) = false := decide_eq_false (by omega)
        have e3 : ¬ (57343 < A) := by omega
        have d4 : decide (B < 56320) = true := decide_eq_true (by omega)
        have e4 : (B < 56320) := by omega
        clear hA0 hA1 hA2 hA3 hB1
        go_enter Tryz.func103, Tryz.ntmps103
        go_wp2_with fail
        refine (cF _).mono ?_
        rintro e w1 ⟨rfl, hb1⟩
        have HB := Lib.hid hb1
        clear hb1
        have hconv : (convert 22 22 (.slice (some ⟨w1.heap.size, 0, none⟩) 8 8)).run Tryz.prog (w1.alloc (.cells #[.int .u8 34, .int .u8 92, .int .u8 47, .int .u8 98, .int .u8 102, .int .u8 110, .int .u8 114, .int .u8 116] 5)) = .ok (.slice (some ⟨w1.heap.size, 0, none⟩) 8 8) (w1.alloc (.cells #[.int .u8 34, .int .u8 92, .int .u8 47, .int .u8 98, .int .u8 102, .int .u8 110, .int .u8 114, .int .u8 116] 5 (8, 9))) :=
          Lib.run_convert_bytes_const w1 _ _ _ 8 8 Tryz.underlying22 Tryz.underlying5
        have hcm := fun j => World.cell?_alloc_mark w1 #[.int .u8 34, .int .u8 92, .int .u8 47, .int .u8 98, .int .u8 102, .int .u8 110, .int .u8 114, .int .u8 116] 5 (8, 9) j
        go_wp2
        refine wp_loop_rounds 9 ?_
        rw [rounds_succ]
        go_wp2
        rw [rounds_succ]
        go_wp2
        rw [rounds_succ]
        go_wp2
        rw [rounds_succ]
        go_wp2
        rw [rounds_succ]
        go_wp2
        rw [rounds_succ]
        go_wp2
        rw [rounds_succ]
        go_wp2
        rw [rounds_succ]
        go_wp2
        rw [rounds_succ]
        go_wp2_with fail
        have HB2 := Lib.hid (HB.out.alloc HB.out.size (.cells #[.int .u8 34, .int .u8 92, .int .u8 47, .int .u8 98, .int .u8 102, .int .u8 110, .int .u8 114, .int .u8 116] 5 (8, 9)))
        generalize w1.alloc (.cells #[.int .u8 34, .int .u8 92, .int .u8 47, .int .u8 98, .int .u8 102, .int .u8 110, .int .u8 114, .int .u8 116] 5 (8, 9)) = w2 at HB2 ⊢
        refine (cA _).mono ?_
        rintro e w3 ⟨rfl, hb3⟩
        have H3 := Lib.hid (HB2.out.trans (hb3.mono HB2.out.size))
        clear hb3
        go_wp2_with fail
        refine (cB _).mono ?_
        rintro e w4 ⟨rfl, hb4⟩
        have H4 := Lib.hid (H3.out.trans (hb4.mono H3.out.size))
        clear hb4
        go_wp2
        go_ret2
        exact ⟨rfl, H4.out⟩
      by_cases hB2 : 57343 < B
      · rw [if_pos (.inr (.inr (.inr hB2)))] at hwl
        rw [hwl, if_pos rfl] at cw2
        rw [cw2]
        clear cw2 hwl cU hgL hgD hdd hbD hAe hBe hB4
        have d0 : decide (A < 0) = false := decide_eq_false (by omega)
        have e0 : ¬ (A < 0) := by omega
        have d1 : decide (56320 ≤ A) = false := decide_eq_false (by omega)
        have e1 : ¬ (56320 ≤ A) := by omega
        have d2 : decide (A < 55296) = false := decide_eq_false (by omega)
        have e2 : ¬ (A < 55296) := by omega
        have d3 : decide (57343 < A) = false := decide_eq_false (by omega)
        have e3 : ¬ (57343 < A) := by omega
        have d4 : decide (B < 56320) = false := decide_eq_false (by omega)
        have e4 : ¬ (B < 56320) := by omega
        have d5 : decide (57343 < B) = true := decide_eq_true (by omega)
        have e5 : (57343 < B) := by omega
        clear hA0 hA1 hA2 hA3 hB1 hB2
        go_enter Tryz.func103, Tryz.ntmps103
        go_wp2_with fail
        refine (cF _).mono ?_
        rintro e w1 ⟨rfl, hb1⟩
        have HB := Lib.hid hb1
        clear hb1
        have hconv : (convert 22 22 (.slice (some ⟨w1.heap.size, 0, none⟩) 8 8)).run Tryz.prog (w1.alloc (.cells #[.int .u8 34, .int .u8 92, .int .u8 47, .int .u8 98, .int .u8 102, .int .u8 110, .int .u8 114, .int .u8 116] 5)) = .ok (.slice (some ⟨w1.heap.size, 0, none⟩) 8 8) (w1.alloc (.cells #[.int .u8 34, .int .u8 92, .int .u8 47, .int .u8 98, .int .u8 102, .int .u8 110, .int .u8 114, .int .u8 116] 5 (8, 9))) :=
          Lib.run_convert_bytes_const w1 _ _ _ 8 8 Tryz.underlying22 Tryz.underlying5
        have hcm := fun j => World.cell?_alloc_mark w1 #[.int .u8 34, .int .u8 92, .int .u8 47, .int .u8 98, .int .u8 102, .int .u8 110, .int .u8 114, .int .u8 116] 5 (8, 9) j
        go_wp2
        refine wp_loop_rounds 9 ?_
        rw [rounds_succ]
        go_wp2
        rw [rounds_succ]
        go_wp2
        rw [rounds_succ]
        go_wp2
        rw [rounds_succ]
        go_wp2
        rw [rounds_succ]
        go_wp2
        rw [rounds_succ]
        go_wp2
        rw [rounds_succ]
        go_wp2
        rw [rounds_succ]
        go_wp2
        rw [rounds_succ]
        go_wp2_with fail
        have HB2 := Lib.hid (HB.out.alloc HB.out.size (.cells #[.int .u8 34, .int .u8 92, .int .u8 47, .int .u8 98, .int .u8 102, .int .u8 110, .int .u8 114, .int .u8 116] 5 (8, 9)))
        generalize w1.alloc (.cells #[.int .u8 34, .int .u8 92, .int .u8 47, .int .u8 98, .int .u8 102, .int .u8 110, .int .u8 114, .int .u8 116] 5 (8, 9)) = w2 at HB2 ⊢
        refine (cA _).mono ?_
        rintro e w3 ⟨rfl, hb3⟩
        have H3 := Lib.hid (HB2.out.trans (hb3.mono HB2.out.size))
        clear hb3
        go_wp2_with fail
        refine (cB _).mono ?_
        rintro e w4 ⟨rfl, hb4⟩
        have H4 := Lib.hid (H3.out.trans (hb4.mono H3.out.size))
        clear hb4
        go_wp2
        go_ret2
        exact ⟨rfl, H4.out⟩
      have hlen := hB4 (by omega)
      have l6 : at_ + 6 < s.size := by omega
      have l7 : at_ + 7 < s.size := by omega
      obtain ⟨I6, hI6⟩ : ∃ I, at_ + 6 = I := ⟨_, rfl⟩
      obtain ⟨I7, hI7⟩ : ∃ I, at_ + 7 = I := ⟨_, rfl⟩
      rw [hI6] at w6e l6
      rw [hI7] at w7e l7
      obtain ⟨c6, hc6⟩ : ∃ c, s[I6]'l6 = c := ⟨_, rfl⟩
      obtain ⟨c7, hc7⟩ : ∃ c, s[I7]'l7 = c := ⟨_, rfl⟩
      have g6 : D.getD 6 0 = c6 := by rw [hgD, hI6, Utf8W.get!_of_lt s I6 l6, hc6]
      have g7 : D.getD 7 0 = c7 := by rw [hgD, hI7, Utf8W.get!_of_lt s I7 l7, hc7]
      rw [g6, g7] at hwl
      have l6z : (I6 : Int) < (s.size : Int) := by omega
      have l7z : (I7 : Int) < (s.size : Int) := by omega
      by_cases h6 : c6 = 92
      · subst h6
        by_cases h7 : c7 = 117
        · subst h7
          rw [if_neg (by rintro (h | h | h | h); exact h rfl; exact h rfl; omega; omega)] at hwl
          rw [hwl, if_neg (by simp)] at cw2
          rw [cw2]
          have v1 : IntKind.i64.wrap (A - 55296) = A - 55296 := IntWalk.i64_in _ (by omega)
          have v2 : IntKind.i64.wrap ((A - 55296) * 1024) = (A - 55296) * 1024 := IntWalk.i64_in _ (by omega)
          have v3 : IntKind.i64.wrap (65536 + (A - 55296) * 1024) = 65536 + (A - 55296) * 1024 := IntWalk.i64_in _ (by omega)
          have v4 : IntKind.i64.wrap (65536 + (A - 55296) * 1024 + B) = 65536 + (A - 55296) * 1024 + B := IntWalk.i64_in _ (by omega)
          have v5 : IntKind.i64.wrap (65536 + (A - 55296) * 1024 + B - 56320) = 65536 + (A - 55296) * 1024 + B - 56320 := IntWalk.i64_in _ (by omega)
          have v6 : IntKind.i32.wrap (65536 + (A - 55296) * 1024 + B - 56320) = 65536 + (A - 55296) * 1024 + B - 56320 := IntWalk.i32_in _ (by omega)
          clear cw2 hwl cU hgL hgD hdd hbD hAe hBe hB4 g6 g7
          have d0 : decide (A < 0) = false := decide_eq_false (by omega)
          have e0 : ¬ (A < 0) := by omega
          have d1 : decide (56320 ≤ A) = false := decide_eq_false (by omega)
          have e1 : ¬ (56320 ≤ A) := by omega
          have d2 : decide (A < 55296) = false := decide_eq_false (by omega)
          have e2 : ¬ (A < 55296) := by omega
          have d3 : decide (57343 < A) = false := decide_eq_false (by omega)
          have e3 : ¬ (57343 < A) := by omega
          have d4 : decide (B < 56320) = false := decide_eq_false (by omega)
          have e4 : ¬ (B < 56320) := by omega
          have d5 : decide (57343 < B) = false := decide_eq_false (by omega)
          have e5 : ¬ (57343 < B) := by omega
          clear hA0 hA1 hA2 hA3 hB1 hB2
          go_enter Tryz.func103, Tryz.ntmps103
          go_wp2_with fail
          refine (cF _).mono ?_
          rintro e w1 ⟨rfl, hb1⟩
          have HB := Lib.hid hb1
          clear hb1
          have hconv : (convert 22 22 (.slice (some ⟨w1.heap.size, 0, none⟩) 8 8)).run Tryz.prog (w1.alloc (.cells #[.int .u8 34, .int .u8 92, .int .u8 47, .int .u8 98, .int .u8 102, .int .u8 110, .int .u8 114, .int .u8 116] 5)) = .ok (.slice (some ⟨w1.heap.size, 0, none⟩) 8 8) (w1.alloc (.cells #[.int .u8 34, .int .u8 92, .int .u8 47, .int .u8 98, .int .u8 102, .int .u8 110, .int .u8 114, .int .u8 116] 5 (8, 9))) :=
            Lib.run_convert_bytes_const w1 _ _ _ 8 8 Tryz.underlying22 Tryz.underlying5
          have hcm := fun j => World.cell?_alloc_mark w1 #[.int .u8 34, .int .u8 92, .int .u8 47, .int .u8 98, .int .u8 102, .int .u8 110, .int .u8 114, .int .u8 116] 5 (8, 9) j
          go_wp2
          refine wp_loop_rounds 9 ?_
          rw [rounds_succ]
          go_wp2
          rw [rounds_succ]
          go_wp2
          rw [rounds_succ]
          go_wp2
          rw [rounds_succ]
          go_wp2
          rw [rounds_succ]
          go_wp2
          rw [rounds_succ]
          go_wp2
          rw [rounds_succ]
          go_wp2
          rw [rounds_succ]
          go_wp2
          rw [rounds_succ]
          go_wp2_with fail
          have HB2 := Lib.hid (HB.out.alloc HB.out.size (.cells #[.int .u8 34, .int .u8 92, .int .u8 47, .int .u8 98, .int .u8 102, .int .u8 110, .int .u8 114, .int .u8 116] 5 (8, 9)))
          generalize w1.alloc (.cells #[.int .u8 34, .int .u8 92, .int .u8 47, .int .u8 98, .int .u8 102, .int .u8 110, .int .u8 114, .int .u8 116] 5 (8, 9)) = w2 at HB2 ⊢
          refine (cA _).mono ?_
          rintro e w3 ⟨rfl, hb3⟩
          have H3 := Lib.hid (HB2.out.trans (hb3.mono HB2.out.size))
          clear hb3
          go_wp2_with fail
          refine (cB _).mono ?_
          rintro e w4 ⟨rfl, hb4⟩
          have H4 := Lib.hid (H3.out.trans (hb4.mono H3.out.size))
          clear hb4
          go_wp2
          go_ret2
          exact ⟨ret_pair (by omega) rfl, H4.out⟩
        · have x7 : (((c7.toNat : Int)) != 117) = true := by
            have : ¬ (c7.toNat : Int) = 117 := fun e => h7 (UInt8.toNat_inj.1 (by show c7.toNat = 117; omega))
            simp [bne, this]
          rw [if_pos (.inr (.inl h7))] at hwl
          rw [hwl, if_pos rfl] at cw2
          rw [cw2]
          clear cw2 hwl cU hgL hgD hdd hbD hAe hBe hB4
          have d0 : decide (A < 0) = false := decide_eq_false (by omega)
          have e0 : ¬ (A < 0) := by omega
          have d1 : decide (56320 ≤ A) = false := decide_eq_false (by omega)
          have e1 : ¬ (56320 ≤ A) := by omega
          have d2 : decide (A < 55296) = false := decide_eq_false (by omega)
          have e2 : ¬ (A < 55296) := by omega
          have d3 : decide (57343 < A) = false := decide_eq_false (by omega)
          have e3 : ¬ (57343 < A) := by omega
          have d4 : decide (B < 56320) = false := decide_eq_false (by omega)
          have e4 : ¬ (B < 56320) := by omega
          have d5 : decide (57343 < B) = false := decide_eq_false (by omega)
          have e5 : ¬ (57343 < B) := by omega
          clear hA0 hA1 hA2 hA3 hB1 hB2 g6 g7 h7
          go_enter Tryz.func103, Tryz.ntmps103
          go_wp2_with fail
          refine (cF _).mono ?_
          rintro e w1 ⟨rfl, hb1⟩
          have HB := Lib.hid hb1
          clear hb1
          have hconv : (convert 22 22 (.slice (some ⟨w1.heap.size, 0, none⟩) 8 8)).run Tryz.prog (w1.alloc (.cells #[.int .u8 34, .int .u8 92, .int .u8 47, .int .u8 98, .int .u8 102, .int .u8 110, .int .u8 114, .int .u8 116] 5)) = .ok (.slice (some ⟨w1.heap.size, 0, none⟩) 8 8) (w1.alloc (.cells #[.int .u8 34, .int .u8 92, .int .u8 47, .int .u8 98, .int .u8 102, .int .u8 110, .int .u8 114, .int .u8 116] 5 (8, 9))) :=
            Lib.run_convert_bytes_const w1 _ _ _ 8 8 Tryz.underlying22 Tryz.underlying5
          have hcm := fun j => World.cell?_alloc_mark w1 #[.int .u8 34, .int .u8 92, .int .u8 47, .int .u8 98, .int .u8 102, .int .u8 110, .int .u8 114, .int .u8 116] 5 (8, 9) j
          go_wp2
          refine wp_loop_rounds 9 ?_
          rw [rounds_succ]
          go_wp2
          rw [rounds_succ]
          go_wp2
          rw [rounds_succ]
          go_wp2
          rw [rounds_succ]
          go_wp2
          rw [rounds_succ]
          go_wp2
          rw [rounds_succ]
          go_wp2
          rw [rounds_succ]
          go_wp2
          rw [rounds_succ]
          go_wp2
          rw [rounds_succ]
          go_wp2_with fail
          have HB2 := Lib.hid (HB.out.alloc HB.out.size (.cells #[.int .u8 34, .int .u8 92, .int .u8 47, .int .u8 98, .int .u8 102, .int .u8 110, .int .u8 114, .int .u8 116] 5 (8, 9)))
          generalize w1.alloc (.cells #[.int .u8 34, .int .u8 92, .int .u8 47, .int .u8 98, .int .u8 102, .int .u8 110, .int .u8 114, .int .u8 116] 5 (8, 9)) = w2 at HB2 ⊢
          refine (cA _).mono ?_
          rintro e w3 ⟨rfl, hb3⟩
          have H3 := Lib.hid (HB2.out.trans (hb3.mono HB2.out.size))
          clear hb3
          go_wp2_with fail
          refine (cB _).mono ?_
          rintro e w4 ⟨rfl, hb4⟩
          have H4 := Lib.hid (H3.out.trans (hb4.mono H3.out.size))
          clear hb4
          go_wp2
          go_ret2
          exact ⟨rfl, H4.out⟩
      · have x6 : (((c6.toNat : Int)) != 92) = true := by
          have : ¬ (c6.toNat : Int) = 92 := fun e => h6 (UInt8.toNat_inj.1 (by show c6.toNat = 92; omega))
          simp [bne, this]
        rw [if_pos (.inl h6)] at hwl
        rw [hwl, if_pos rfl] at cw2
        rw [cw2]
        clear cw2 hwl cU hgL hgD hdd hbD hAe hBe hB4
        have d0 : decide (A < 0) = false := decide_eq_false (by omega)
        have e0 : ¬ (A < 0) := by omega
        have d1 : decide (56320 ≤ A) = false := decide_eq_false (by omega)
        have e1 : ¬ (56320 ≤ A) := by omega
        have d2 : decide (A < 55296) = false := decide_eq_false (by omega)
        have e2 : ¬ (A < 55296) := by omega
        have d3 : decide (57343 < A) = false := decide_eq_false (by omega)
        have e3 : ¬ (57343 < A) := by omega
        have d4 : decide (B < 56320) = false := decide_eq_false (by omega)
        have e4 : ¬ (B < 56320) := by omega
        have d5 : decide (57343 < B) = false := decide_eq_false (by omega)
        have e5 : ¬ (57343 < B) := by omega
        clear hA0 hA1 hA2 hA3 hB1 hB2 g6 g7 h6
        go_enter Tryz.func103, Tryz.ntmps103
        go_wp2_with fail
        refine (cF _).mono ?_
        rintro e w1 ⟨rfl, hb1⟩
        have HB := Lib.hid hb1
        clear hb1
        have hconv : (convert 22 22 (.slice (some ⟨w1.heap.size, 0, none⟩) 8 8)).run Tryz.prog (w1.alloc (.cells #[.int .u8 34, .int .u8 92, .int .u8 47, .int .u8 98, .int .u8 102, .int .u8 110, .int .u8 114, .int .u8 116] 5)) = .ok (.slice (some ⟨w1.heap.size, 0, none⟩) 8 8) (w1.alloc (.cells #[.int .u8 34, .int .u8 92, .int .u8 47, .int .u8 98, .int .u8 102, .int .u8 110, .int .u8 114, .int .u8 116] 5 (8, 9))) :=
          Lib.run_convert_bytes_const w1 _ _ _ 8 8 Tryz.underlying22 Tryz.underlying5
        have hcm := fun j => World.cell?_alloc_mark w1 #[.int .u8 34, .int .u8 92, .int .u8 47, .int .u8 98, .int .u8 102, .int .u8 110, .int .u8 114, .int .u8 116] 5 (8, 9) j
        go_wp2
        refine wp_loop_rounds 9 ?_
        rw [rounds_succ]
        go_wp2
        rw [rounds_succ]
        go_wp2
        rw [rounds_succ]
        go_wp2
        rw [rounds_succ]
        go_wp2
        rw [rounds_succ]
        go_wp2
        rw [rounds_succ]
        go_wp2
        rw [rounds_succ]
        go_wp2
        rw [rounds_succ]
        go_wp2
        rw [rounds_succ]
        go_wp2_with fail
        have HB2 := Lib.hid (HB.out.alloc HB.out.size (.cells #[.int .u8 34, .int .u8 92, .int .u8 47, .int .u8 98, .int .u8 102, .int .u8 110, .int .u8 114, .int .u8 116] 5 (8, 9)))
        generalize w1.alloc (.cells #[.int .u8 34, .int .u8 92, .int .u8 47, .int .u8 98, .int .u8 102, .int .u8 110, .int .u8 114, .int .u8 116] 5 (8, 9)) = w2 at HB2 ⊢
        refine (cA _).mono ?_
        rintro e w3 ⟨rfl, hb3⟩
        have H3 := Lib.hid (HB2.out.trans (hb3.mono HB2.out.size))
        clear hb3
        go_wp2_with fail
        refine (cB _).mono ?_
        rintro e w4 ⟨rfl, hb4⟩
        have H4 := Lib.hid (H3.out.trans (hb4.mono H3.out.size))
        clear hb4
        go_wp2
        go_ret2
        exact ⟨rfl, H4.out⟩
    · have hz := cn rfl he0 hu
      rw [hz]
      have xu : ((b.toNat : Int) != 117) = true := by
        have : ¬ (b.toNat : Int) = 117 := fun e => hu (UInt8.toNat_inj.1 (by show b.toNat = 117; omega))
        simp [bne, this]
      clear cx cn cw he0 hz hu cU hgL hgD hdd hbD hAe
      go_enter Tryz.func103, Tryz.ntmps103
      go_wp2_with fail
      refine (cF _).mono ?_
      rintro e w1 ⟨rfl, hb1⟩
      have HB := Lib.hid hb1
      clear hb1
      have hconv : (convert 22 22 (.slice (some ⟨w1.heap.size, 0, none⟩) 8 8)).run Tryz.prog (w1.alloc (.cells #[.int .u8 34, .int .u8 92, .int .u8 47, .int .u8 98, .int .u8 102, .int .u8 110, .int .u8 114, .int .u8 116] 5)) = .ok (.slice (some ⟨w1.heap.size, 0, none⟩) 8 8) (w1.alloc (.cells #[.int .u8 34, .int .u8 92, .int .u8 47, .int .u8 98, .int .u8 102, .int .u8 110, .int .u8 114, .int .u8 116] 5 (8, 9))) :=
        Lib.run_convert_bytes_const w1 _ _ _ 8 8 Tryz.underlying22 Tryz.underlying5
      have hcm := fun j => World.cell?_alloc_mark w1 #[.int .u8 34, .int .u8 92, .int .u8 47, .int .u8 98, .int .u8 102, .int .u8 110, .int .u8 114, .int .u8 116] 5 (8, 9) j
      go_wp2
      refine wp_loop_rounds 9 ?_
      rw [rounds_succ]
      go_wp2
      rw [rounds_succ]
      go_wp2
      rw [rounds_succ]
      go_wp2
      rw [rounds_succ]
      go_wp2
      rw [rounds_succ]
      go_wp2
      rw [rounds_succ]
      go_wp2
      rw [rounds_succ]
      go_wp2
      rw [rounds_succ]
      go_wp2
      rw [rounds_succ]
      go_wp2_with fail
      have HB2 := Lib.hid (HB.out.alloc HB.out.size (.cells #[.int .u8 34, .int .u8 92, .int .u8 47, .int .u8 98, .int .u8 102, .int .u8 110, .int .u8 114, .int .u8 116] 5 (8, 9)))
      generalize w1.alloc (.cells #[.int .u8 34, .int .u8 92, .int .u8 47, .int .u8 98, .int .u8 102, .int .u8 110, .int .u8 114, .int .u8 116] 5 (8, 9)) = w2 at HB2 ⊢
      refine (cA _).mono ?_
      rintro e w3 ⟨rfl, hb3⟩
      have H3 := Lib.hid (HB2.out.trans (hb3.mono HB2.out.size))
      clear hb3
      go_wp2
      go_ret2
      exact ⟨rfl, H3.out⟩
  · have h1z : (s.size : Int) ≤ (I1 : Int) := by omega
    have hl1 : D.length ≤ 1 := by omega
    have hg1 : D.getD 1 0 = 0 := by simp [List.getD, List.getElem?_eq_none hl1]
    have hz := cn rfl (by rw [hg1]; decide) (by rw [hg1]; decide)
    rw [hz]
    clear cx cn cw hz cU hgL hgD hdd hg1
    go_enter Tryz.func103, Tryz.ntmps103
    go_wp2_with fail
    refine (cF _).mono ?_
    rintro e w1 ⟨rfl, hb1⟩
    have HB := Lib.hid hb1
    clear hb1
    go_wp2
    go_ret2
    exact ⟨rfl, HB.out⟩
end Go.Proofs.YtccnfnoonpfdfaaGreatDoor
namespace Go.Proofs.YtccnfnoonpfdfaaGreatDoor
open Go.Shelf Go.RowKit Go.Lib
theorem char_any (s : ByteArray) (at_ : Nat) (w : World) (hs : s.size ≤ 1099511627000) (hat : at_ < s.size) :
    Calls Tryz.prog 103 #[.string s, .int .i64 at_] w fun e w' => e = .returned (.tuple #[.int .i32 (charL (s.data.toList.drop at_)).1, .int .i64 (charL (s.data.toList.drop at_)).2]) ∧ Below w.heap.size w w' := by
  by_cases h : (decodeL (s.data.toList.drop at_)).1 = 92
  · exact char_back s at_ w hs hat h
  · exact char_plain s at_ w hs hat h
/-- What Read answers. -/
def Rd (l : BL) (e : Ending) : Prop :=
  match readL l with
  | none => e = .returned (.tuple #[.string ⟨#[]⟩, .int .i64 0])
  | some (t, m) => e = .returned (.tuple #[.string (BA t), .int .i64 m])
theorem one_rune2 (r : Int) (W : World) (b : Nat) (hc : W.cell? ⟨b, 0, none⟩ = some (.int .i32 r)) : (convert 162 9 (.slice (some ⟨b, 0, none⟩) 1 1)).run Tryz.prog W = .ok (.string (BA (encodeRune r))) W := by
  have := run_convert_runes W 162 9 21 ⟨b, 0, none⟩ 1 1 [r] (by simp) Tryz.underlying162 Tryz.underlying21 Tryz.underlying9 (fun j hj => by
    simp at hj
    subst hj
    simpa [Addr.add] using hc)
  rw [this, List.take_of_length_le (by simp), runes_one]
set_option maxHeartbeats 4000000 in
set_option maxRecDepth 100000 in
theorem read_any (s : ByteArray) (w : World) (hs : s.size ≤ 1099511627000) :
    Calls Tryz.prog 69 #[.string s] w fun e w' => Rd s.data.toList e ∧ Below w.heap.size w w' := by
  have cC := fun n (hn : n < s.size) W => char_any s n W hs hn
  obtain ⟨L, hL⟩ : ∃ L, s.data.toList = L := ⟨_, rfl⟩
  have hLs : L.length = s.size := by rw [← hL, ← size_eq]
  have HL := Lib.hid hL
  simp only [hL] at cC
  rw [hL]
  by_cases h0 : s.size = 0
  · have hLn : L = [] := List.eq_nil_of_length_eq_zero (by omega)
    have hs0 : s = ⟨#[]⟩ := by
      rw [← ba_list s, hL, hLn]
    subst hLn
    clear hL HL hLs h0 hs cC
    subst hs0
    go_enter Tryz.func69, Tryz.ntmps69
    go_wp2
    go_ret2
    exact ⟨rfl, Below.refl _ _⟩
  have h1 : 0 < s.size := by omega
  have h1z : (0 : Int) < (s.size : Int) := by omega
  have hLne : s.toList.isEmpty = false := by
    rw [Lib.toList_data, hL]
    cases L with
    | nil => simp at hLs; omega
    | cons _ _ => rfl
  obtain ⟨b0, hb0⟩ : ∃ b, s[0]'h1 = b := ⟨_, rfl⟩
  have hb0L : L.getD 0 0 = b0 := by rw [← hL, getD_get!', Utf8W.get!_of_lt s 0 h1, hb0]
  clear hL h0
  by_cases hq : b0 = 34
  · have hqz : (b0.toNat : Int) = 34 := by rw [hq]; rfl
    have hRL : readL L = goOn [] 1 (readB (L.drop 1)) := by
      unfold readL
      rw [if_neg (by rw [hb0L, hq]; decide)]
      cases readB (L.drop 1) with
      | none => rfl
      | some p => rfl
    have HQ := Lib.hid hRL
    have HCC := Lib.hid cC
    clear hRL hb0L hq cC
    go_enter Tryz.func69, Tryz.ntmps69
    go_wp2
    go_loopg [4, 5] (s.size - 1) (fun gk ov iv wr => ∃ (pos : Nat) (acc : BL) (O : ByteArray), gk + pos = s.size ∧ 1 ≤ pos ∧ iv = .int .i64 pos ∧ ov = .string O ∧ O.data.toList = acc ∧ readL L = goOn acc pos (readB (L.drop pos)) ∧ acc.length ≤ 4 * pos ∧ Below w.heap.size w wr)
    case atStart => exact ⟨1, [], ⟨#[]⟩, by omega, by omega, rfl, rfl, rfl, HQ.out, by simp, Below.refl _ _⟩
    case round =>
      obtain ⟨pos, acc, O, hg, hp1, rfl, rfl, hO, hacc, hal, hbw⟩ := hrel
      have hOs : O.size ≤ 8796093022208 := by rw [size_eq, hO]; omega
      have HB := Lib.hid (And.intro hO (And.intro hacc (And.intro hal hbw)))
      clear hO hacc hal hbw
      by_cases hp : pos < s.size
      · have hpz : (pos : Int) < (s.size : Int) := by omega
        have hple : (pos : Int) ≤ (s.size : Int) := by omega
        have hp0 : (0 : Int) ≤ (pos : Int) := by omega
        obtain ⟨b, hb⟩ : ∃ b, s[pos]'hp = b := ⟨_, rfl⟩
        have hbL : L.getD pos 0 = b := by rw [← HL.out, getD_get!', Utf8W.get!_of_lt s pos hp, hb]
        have hw1 : IntKind.i64.wrap ((pos : Int) + 1) = ((pos + 1 : Nat) : Int) := by rw [IntWalk.i64_in _ (by omega)]; omega
        obtain ⟨D, hD⟩ : ∃ D, L.drop pos = D := ⟨_, rfl⟩
        have hDne : D ≠ [] := fun e => by
          have := congrArg List.length (hD.trans e)
          rw [List.length_drop] at this
          simp at this
          omega
        have hbD : D.getD 0 0 = b := by rw [← hD, getD_drop0, Nat.add_zero, hbL]
        by_cases hbq : b = 34
        · have hbz : (b.toNat : Int) = 34 := by rw [hbq]; rfl
          have hans : readL L = some (acc, pos + 1) := by
            rw [HB.out.2.1, hD, readB_quote D hDne (by rw [hbD, hbq])]
            simp only [goOn, List.append_nil]
            rw [Nat.add_comm]
          have hBO : BA acc = O := by rw [← HB.out.1, ba_list]
          have HA := Lib.hid (And.intro hans hBO)
          clear hans hbq hD hDne hbD hbL hBO
          go_wp2
          go_ret2
          refine ⟨?_, HB.out.2.2.2⟩
          unfold Rd
          rw [HA.out.1]
          dsimp only
          rw [HA.out.2]
          rfl
        · have hbz : ¬ (b.toNat : Int) = 34 := fun h => hbq (UInt8.toNat_inj.1 (by show b.toNat = 34; omega))
          have hbz2 : ((b.toNat : Int) == 34) = false := beq_eq_false_iff_ne.2 hbz
          have cN := HCC.out pos hp wr
          rw [hD] at cN
          have hNle := charL_le D hDne
          have hDl : D.length = s.size - pos := by rw [← hD, List.length_drop]; omega
          have hgo := goOn_step acc pos D hDne (by rw [hbD]; exact hbq)
          have hbad := readB_bad D (by rw [hbD]; exact hbq)
          have hrng := charL_range D
          obtain ⟨N, hN⟩ : ∃ N, (charL D).2 = N := ⟨_, rfl⟩
          obtain ⟨R, hR⟩ : ∃ R, (charL D).1 = R := ⟨_, rfl⟩
          rw [hN, hR] at cN
          rw [hN] at hNle hbad
          rw [hR] at hrng
          simp only [hN, hR] at hgo
          by_cases hN0 : N = 0
          · have hans : readL L = none := by
              rw [HB.out.2.1, hD, hbad hN0]
              rfl
            subst hN0
            have HA := Lib.hid hans
            clear hans hbq hD hDne hbD hbL hgo hbad hNle hrng hDl hN hR
            go_wp2_with fail
            refine cN.mono ?_
            rintro e w2 ⟨rfl, hb2⟩
            have H2 := Lib.hid (HB.out.2.2.2.trans (hb2.mono HB.out.2.2.2.size))
            clear hb2 cN
            go_wp2
            go_ret2
            refine ⟨?_, H2.out⟩
            unfold Rd
            rw [HA.out]
            rfl
          · have hNz : ¬ (N : Int) = 0 := by omega
            have hNz2 : ((N : Int) == 0) = false := beq_eq_false_iff_ne.2 hNz
            have hNz3 : decide (N = 0) = false := decide_eq_false hN0
            have hNz4 : (N == 0) = false := beq_eq_false_iff_ne.2 hN0
            have hwN : IntKind.i64.wrap ((pos : Int) + (N : Int)) = ((pos + N : Nat) : Int) := by rw [IntWalk.i64_in _ (by omega)]; omega
            have hg1 := hgo hN0
            have hdd : D.drop N = L.drop (pos + N) := by rw [← hD, List.drop_drop]
            have hel : (encodeRune R).length ≤ 4 := by
              have := encodeRuneZ_length R
              unfold encodeRune
              rw [List.length_map]
              omega
            have hNle2 : pos + N ≤ s.size := by omega
            rw [hdd] at hg1
            have hst : readL L = goOn (acc ++ encodeRune R) (pos + N) (readB (L.drop (pos + N))) := by rw [HB.out.2.1, hD]; exact hg1
            obtain ⟨E, hE⟩ : ∃ E, BA (encodeRune R) = E := ⟨_, rfl⟩
            have hEL : E.data.toList = encodeRune R := by rw [← hE]
            have hEs : E.size ≤ 4 := by rw [size_eq, hEL]; exact hel
            have hcv := fun W b hc => one_rune2 R W b hc
            simp only [hE] at hcv
            have hcat : ¬ 9223372036854775807 < O.size + E.size := by omega
            have HA := Lib.hid (And.intro hst (And.intro hel (And.intro hEL hNle2)))
            clear hst hg1 hgo hbad hNle hrng hDl hN hR hdd hel hbq hD hDne hbD hbL hNle2 hbz hEL hE hEs
            go_wp2_with fail
            refine cN.mono ?_
            rintro e w2 ⟨rfl, hb2⟩
            have H2 := Lib.hid (HB.out.2.2.2.trans (hb2.mono HB.out.2.2.2.size))
            clear hb2 cN
            go_wp2
            go_roundg (gk - N)
            case rel =>
              refine ⟨pos + N, acc ++ encodeRune R, O ++ E, ?_, by omega, rfl, rfl, ?_, HA.out.1, ?_, H2.out.alloc H2.out.size _⟩
              · have := HA.out.2.2.2; omega
              · rw [app_list, HB.out.1, HA.out.2.2.1]
              · have := HA.out.2.1
                have h5 := HB.out.2.2.1
                rw [List.length_append]
                omega
            case measure => omega
      · have hpz : ¬ (pos : Int) < (s.size : Int) := by omega
        have hans : readL L = none := by
          rw [HB.out.2.1, List.drop_eq_nil_of_le (by omega), readB_nil]
          rfl
        have HA := Lib.hid hans
        clear hans
        go_wp2
        go_ret2
        refine ⟨?_, HB.out.2.2.2⟩
        unfold Rd
        rw [HA.out]
        rfl
  · have hqz : ¬ (b0.toNat : Int) = 34 := fun h => hq (UInt8.toNat_inj.1 (by show b0.toNat = 34; omega))
    have hqz2 : ((b0.toNat : Int) == 34) = false := beq_eq_false_iff_ne.2 hqz
    have hqz3 : ((b0.toNat : Int) != 34) = true := by simp [bne, hqz2]
    have hRL : readL L = none := by
      unfold readL
      rw [if_pos (by rw [hb0L]; exact hq)]
    have HQ := Lib.hid hRL
    clear hRL hb0L hq hqz cC
    go_enter Tryz.func69, Tryz.ntmps69
    go_wp2
    go_ret2
    refine ⟨?_, Below.refl _ _⟩
    unfold Rd
    rw [HQ.out]
    rfl
end Go.Proofs.YtccnfnoonpfdfaaGreatDoor
namespace Go.Proofs.YtccnfnoonpfdfaaGreatDoor
open Go.Shelf Go.RowKit Go.Lib
end Go.Proofs.YtccnfnoonpfdfaaGreatDoor
namespace Go.Proofs.YtccnfnoonpfdfaaGreatDoor
open Go.Shelf Go.RowKit Go.Lib
end Go.Proofs.YtccnfnoonpfdfaaGreatDoor
namespace Go.Proofs.YtccnfnoonpfdfaaGreatDoor
open Go.Shelf Go.RowKit Go.Lib
end Go.Proofs.YtccnfnoonpfdfaaGreatDoor
namespace Go.Proofs.YtccnfnoonpfdfaaGreatDoor
open Go.Shelf Go.RowKit Go.Lib
set_option maxHeartbeats 4000000 in
set_option maxRecDepth 100000 in
theorem rises_none (w : World) : Calls Tryz.prog 42 #[.slice none 0 0] w fun e w' => e = .returned (.bool true) ∧ Below w.heap.size w w' := by
  go_enter Tryz.func42, Tryz.ntmps42
  go_wp2
  refine wp_loop_rounds 1 ?_
  rw [rounds_succ]
  go_wp2
  go_ret
  exact ⟨rfl, Below.refl _ _⟩
theorem valid_nil : Lib.validD [] = true := rfl
set_option maxRecDepth 100000 in
theorem nan_no (n : Int) (w : World) : Calls Tryz.prog 105 #[.int .i64 n] w fun e w' => e = .returned (.bool false) ∧ w' = w := by
  go_enter Tryz.func105, Tryz.ntmps105
  go_wp2
  go_ret
  exact ⟨by simp, rfl⟩
end Go.Proofs.YtccnfnoonpfdfaaGreatDoor
namespace Go.Proofs.YtccnfnoonpfdfaaGreatDoor
open Go.Shelf Go.RowKit Go.Lib
end Go.Proofs.YtccnfnoonpfdfaaGreatDoor
namespace Go.Proofs.YtccnfnoonpfdfaaGreatDoor
open Go.Shelf Go.RowKit Go.Lib
end Go.Proofs.YtccnfnoonpfdfaaGreatDoor
namespace Go.Proofs.YtccnfnoonpfdfaaGreatDoor
open Go.Shelf Go.RowKit Go.Lib
end Go.Proofs.YtccnfnoonpfdfaaGreatDoor
namespace Go.Proofs.YtccnfnoonpfdfaaGreatDoor
open Go.Shelf Go.RowKit Go.Lib
/-- A value. -/
inductive V where
  | null
  | bool (n : Int)
  | int (n : Int)
  | text (s : BL)
  | list (l : List V)
  | obj (l : List (BL × V))
/-- A row of n things whose cells are cs, in a block of which S speaks (nothing is said of the spare cells). -/
def RowAt (S : Nat → Prop) (w : World) (sl : Value) (n : Nat) (cs : List Value) : Prop :=
  n ≤ 9223372036854775807 ∧ ((n = 0 ∧ sl = .slice none 0 0) ∨ ∃ b cap, sl = .slice (some ⟨b, 0, none⟩) n cap ∧ S b ∧ ∀ k u, cs[k]? = some u → w.cell? ⟨b, k, none⟩ = some u)
mutual
inductive VAt (S : Nat → Prop) (w : World) : V → List Value → Prop
  | null : VAt S w .null [.int .i64 0, .int .i64 0, .string ⟨#[]⟩, .slice none 0 0, .slice none 0 0]
  | bool (n : Int) (h : 0 ≤ n ∧ n < 256) : VAt S w (.bool n) [.int .i64 1, .int .i64 n, .string ⟨#[]⟩, .slice none 0 0, .slice none 0 0]
  | int (n : Int) (h : -9223372036854775808 ≤ n ∧ n ≤ 9223372036854775807) : VAt S w (.int n) [.int .i64 2, .int .i64 n, .string ⟨#[]⟩, .slice none 0 0, .slice none 0 0]
  | text (s : BL) : VAt S w (.text s) [.int .i64 3, .int .i64 0, .string (BA s), .slice none 0 0, .slice none 0 0]
  | list (l : List V) (cs : List Value) (sl : Value) (h : VsAt S w l cs) (hr : RowAt S w sl l.length cs) : VAt S w (.list l) [.int .i64 4, .int .i64 0, .string ⟨#[]⟩, sl, .slice none 0 0]
  | obj (l : List (BL × V)) (cs : List Value) (sl : Value) (h : FsAt S w l cs) (hr : RowAt S w sl l.length cs) : VAt S w (.obj l) [.int .i64 5, .int .i64 0, .string ⟨#[]⟩, .slice none 0 0, sl]
inductive VsAt (S : Nat → Prop) (w : World) : List V → List Value → Prop
  | nil : VsAt S w [] []
  | cons (v : V) (l : List V) (c0 c1 c2 c3 c4 : Value) (cs : List Value) (h : VAt S w v [c0, c1, c2, c3, c4]) (t : VsAt S w l cs) : VsAt S w (v :: l) (c0 :: c1 :: c2 :: c3 :: c4 :: cs)
inductive FsAt (S : Nat → Prop) (w : World) : List (BL × V) → List Value → Prop
  | nil : FsAt S w [] []
  | cons (n : BL) (v : V) (l : List (BL × V)) (c0 c1 c2 c3 c4 : Value) (cs : List Value) (h : VAt S w v [c0, c1, c2, c3, c4]) (t : FsAt S w l cs) : FsAt S w ((n, v) :: l) (.string (BA n) :: c0 :: c1 :: c2 :: c3 :: c4 :: cs)
end
theorem RowAt.keep {S T : Nat → Prop} {w w2 : World} {sl : Value} {n : Nat} {cs : List Value} (hST : ∀ b, S b → T b) (hk : ∀ b, S b → ∀ k u, w.cell? ⟨b, k, none⟩ = some u → w2.cell? ⟨b, k, none⟩ = some u)
    (h : RowAt S w sl n cs) : RowAt T w2 sl n cs := by
  obtain ⟨hn, h⟩ := h
  refine ⟨hn, ?_⟩
  rcases h with h | ⟨b, cap, h1, h2, h3⟩
  · exact .inl h
  · exact .inr ⟨b, cap, h1, hST b h2, fun k u hu => hk b h2 k u (h3 k u hu)⟩
mutual
theorem VAt.keep {S T : Nat → Prop} {w w2 : World} (hST : ∀ b, S b → T b) (hk : ∀ b, S b → ∀ k u, w.cell? ⟨b, k, none⟩ = some u → w2.cell? ⟨b, k, none⟩ = some u) :
    ∀ {v : V} {c : List Value}, VAt S w v c → VAt T w2 v c
  | _, _, .null => .null
  | _, _, .bool n h => .bool n h
  | _, _, .int n h => .int n h
  | _, _, .text s => .text s
  | _, _, .list l cs sl h hr => .list l cs sl (VsAt.keep hST hk h) (hr.keep hST hk)
  | _, _, .obj l cs sl h hr => .obj l cs sl (FsAt.keep hST hk h) (hr.keep hST hk)
theorem VsAt.keep {S T : Nat → Prop} {w w2 : World} (hST : ∀ b, S b → T b) (hk : ∀ b, S b → ∀ k u, w.cell? ⟨b, k, none⟩ = some u → w2.cell? ⟨b, k, none⟩ = some u) :
    ∀ {l : List V} {cs : List Value}, VsAt S w l cs → VsAt T w2 l cs
  | _, _, .nil => .nil
  | _, _, .cons v l c0 c1 c2 c3 c4 cs h t => .cons v l c0 c1 c2 c3 c4 cs (VAt.keep hST hk h) (VsAt.keep hST hk t)
theorem FsAt.keep {S T : Nat → Prop} {w w2 : World} (hST : ∀ b, S b → T b) (hk : ∀ b, S b → ∀ k u, w.cell? ⟨b, k, none⟩ = some u → w2.cell? ⟨b, k, none⟩ = some u) :
    ∀ {l : List (BL × V)} {cs : List Value}, FsAt S w l cs → FsAt T w2 l cs
  | _, _, .nil => .nil
  | _, _, .cons n v l c0 c1 c2 c3 c4 cs h t => .cons n v l c0 c1 c2 c3 c4 cs (VAt.keep hST hk h) (FsAt.keep hST hk t)
end
theorem VAt.later {S : Nat → Prop} {w w2 : World} {v : V} {c : List Value} (h : VAt S w v c) (hb : Below w.heap.size w w2) : VAt S w2 v c :=
  h.keep (fun _ x => x) (fun _ _ _ _ hc => bcell hb hc)
theorem VsAt.later {S : Nat → Prop} {w w2 : World} {l : List V} {c : List Value} (h : VsAt S w l c) (hb : Below w.heap.size w w2) : VsAt S w2 l c :=
  h.keep (fun _ x => x) (fun _ _ _ _ hc => bcell hb hc)
theorem FsAt.later {S : Nat → Prop} {w w2 : World} {l : List (BL × V)} {c : List Value} (h : FsAt S w l c) (hb : Below w.heap.size w w2) : FsAt S w2 l c :=
  h.keep (fun _ x => x) (fun _ _ _ _ hc => bcell hb hc)
theorem RowAt.later {S : Nat → Prop} {w w2 : World} {sl : Value} {n : Nat} {c : List Value} (h : RowAt S w sl n c) (hb : Below w.heap.size w w2) : RowAt S w2 sl n c :=
  h.keep (fun _ x => x) (fun _ _ _ _ hc => bcell hb hc)
theorem VAt.one {S : Nat → Prop} {w : World} {v : V} {c : List Value} (h : VAt S w v c) : ∀ u ∈ c, u.oneCell' = true := by
  cases h with
  | list l cs sl h hr =>
    intro u hu
    rcases hr.2 with ⟨_, rfl⟩ | ⟨b, cap, rfl, _⟩ <;> (simp only [List.mem_cons, List.not_mem_nil, or_false] at hu; rcases hu with rfl | rfl | rfl | rfl | rfl <;> rfl)
  | obj l cs sl h hr =>
    intro u hu
    rcases hr.2 with ⟨_, rfl⟩ | ⟨b, cap, rfl, _⟩ <;> (simp only [List.mem_cons, List.not_mem_nil, or_false] at hu; rcases hu with rfl | rfl | rfl | rfl | rfl <;> rfl)
  | _ => intro u hu; simp only [List.mem_cons, List.not_mem_nil, or_false] at hu; rcases hu with rfl | rfl | rfl | rfl | rfl <;> rfl
theorem VsAt.snoc {S : Nat → Prop} {w : World} {v : V} {c0 c1 c2 c3 c4 : Value} (hv : VAt S w v [c0, c1, c2, c3, c4]) : ∀ {l : List V} {cs : List Value}, VsAt S w l cs → VsAt S w (l ++ [v]) (cs ++ [c0, c1, c2, c3, c4])
  | _, _, .nil => .cons v [] c0 c1 c2 c3 c4 [] hv .nil
  | _, _, .cons x l d0 d1 d2 d3 d4 cs h t => .cons x _ d0 d1 d2 d3 d4 _ h (VsAt.snoc hv t)
theorem FsAt.snoc {S : Nat → Prop} {w : World} {n : BL} {v : V} {c0 c1 c2 c3 c4 : Value} (hv : VAt S w v [c0, c1, c2, c3, c4]) : ∀ {l : List (BL × V)} {cs : List Value}, FsAt S w l cs → FsAt S w (l ++ [(n, v)]) (cs ++ [.string (BA n), c0, c1, c2, c3, c4])
  | _, _, .nil => .cons n v [] c0 c1 c2 c3 c4 [] hv .nil
  | _, _, .cons m x l d0 d1 d2 d3 d4 cs h t => .cons m x _ d0 d1 d2 d3 d4 _ h (FsAt.snoc hv t)
theorem VsAt.get {S : Nat → Prop} {w : World} : ∀ {l : List V} {cs : List Value}, VsAt S w l cs → ∀ (j : Nat) (hj : j < l.length), ∃ c0 c1 c2 c3 c4, VAt S w l[j] [c0, c1, c2, c3, c4] ∧
    cs[j * 5]? = some c0 ∧ cs[j * 5 + 1]? = some c1 ∧ cs[j * 5 + 2]? = some c2 ∧ cs[j * 5 + 3]? = some c3 ∧ cs[j * 5 + 4]? = some c4
  | _, _, .nil, j, hj => absurd hj (Nat.not_lt_zero j)
  | _, _, .cons v l c0 c1 c2 c3 c4 cs h t, 0, hj => ⟨c0, c1, c2, c3, c4, h, rfl, rfl, rfl, rfl, rfl⟩
  | _, _, .cons v l c0 c1 c2 c3 c4 cs h t, j + 1, hj => by
    obtain ⟨d0, d1, d2, d3, d4, hv, e0, e1, e2, e3, e4⟩ := VsAt.get t j (by simpa using hj)
    refine ⟨d0, d1, d2, d3, d4, hv, ?_⟩
    rw [show (j + 1) * 5 = j * 5 + 5 by omega]
    exact ⟨e0, e1, e2, e3, e4⟩
theorem FsAt.get {S : Nat → Prop} {w : World} : ∀ {l : List (BL × V)} {cs : List Value}, FsAt S w l cs → ∀ (j : Nat) (hj : j < l.length), ∃ c0 c1 c2 c3 c4, VAt S w l[j].2 [c0, c1, c2, c3, c4] ∧
    cs[j * 6]? = some (.string (BA l[j].1)) ∧ cs[j * 6 + 1]? = some c0 ∧ cs[j * 6 + 2]? = some c1 ∧ cs[j * 6 + 3]? = some c2 ∧ cs[j * 6 + 4]? = some c3 ∧ cs[j * 6 + 5]? = some c4
  | _, _, .nil, j, hj => absurd hj (Nat.not_lt_zero j)
  | _, _, .cons n v l c0 c1 c2 c3 c4 cs h t, 0, hj => ⟨c0, c1, c2, c3, c4, h, rfl, rfl, rfl, rfl, rfl, rfl⟩
  | _, _, .cons n v l c0 c1 c2 c3 c4 cs h t, j + 1, hj => by
    obtain ⟨d0, d1, d2, d3, d4, hv, e0, e1, e2, e3, e4, e5⟩ := FsAt.get t j (by simpa using hj)
    refine ⟨d0, d1, d2, d3, d4, hv, ?_⟩
    rw [show (j + 1) * 6 = j * 6 + 6 by omega]
    exact ⟨e0, e1, e2, e3, e4, e5⟩
/-- bytes, a 0 as two of them. -/
def escK : BL → BL
  | [] => []
  | b :: l => if b = 0 then 0 :: 255 :: escK l else b :: escK l
def writtenK (l : BL) : BL := escK l ++ [0, 1]
/-- a number's eight bytes. -/
def numK (n : Int) : BL :=
  let x := (n + 9223372036854775808).toNat
  [UInt8.ofNat (x / 72057594037927936 % 256), UInt8.ofNat (x / 281474976710656 % 256), UInt8.ofNat (x / 1099511627776 % 256), UInt8.ofNat (x / 4294967296 % 256), UInt8.ofNat (x / 16777216 % 256), UInt8.ofNat (x / 65536 % 256), UInt8.ofNat (x / 256 % 256), UInt8.ofNat (x % 256)]
mutual
def keyL : V → BL
  | .null => [1]
  | .bool n => [2, UInt8.ofNat n.toNat]
  | .int n => 3 :: numK n
  | .text s => 4 :: writtenK s
  | .list l => 5 :: (keysL l ++ [0])
  | .obj l => 6 :: (fieldsL l ++ [0])
def keysL : List V → BL
  | [] => []
  | v :: l => keyL v ++ keysL l
def fieldL : BL × V → BL
  | (n, v) => 1 :: (writtenK n ++ keyL v)
def fieldsL : List (BL × V) → BL
  | [] => []
  | f :: l => fieldL f ++ fieldsL l
end
theorem fieldL_eq (f : BL × V) : fieldL f = 1 :: (writtenK f.1 ++ keyL f.2) := by cases f; simp [fieldL]
theorem escK_le (l : BL) : l.length ≤ (escK l).length ∧ (escK l).length ≤ 2 * l.length := by
  induction l with
  | nil => simp [escK]
  | cons a l ih => by_cases h : a = 0 <;> (simp [escK, h]; omega)
end Go.Proofs.YtccnfnoonpfdfaaGreatDoor
namespace Go.Proofs.YtccnfnoonpfdfaaGreatDoor
open Go.Shelf Go.RowKit Go.Lib
end Go.Proofs.YtccnfnoonpfdfaaGreatDoor
namespace Go.Proofs.YtccnfnoonpfdfaaGreatDoor
open Go.Shelf Go.RowKit Go.Lib
end Go.Proofs.YtccnfnoonpfdfaaGreatDoor
namespace Go.Proofs.YtccnfnoonpfdfaaGreatDoor
open Go.Shelf Go.RowKit Go.Lib
/-- a value's five cells, by their kinds. -/
theorem VAt.shape {S : Nat → Prop} {w : World} {v : V} {c : List Value} (h : VAt S w v c) : ∃ k n s p1 l1 c1 p2 l2 c2, c = [.int .i64 k, .int .i64 n, .string s, .slice p1 l1 c1, .slice p2 l2 c2] := by
  cases h with
  | list l cs sl h hr =>
    rcases hr.2 with ⟨_, rfl⟩ | ⟨b, cap, rfl, _⟩ <;> exact ⟨_, _, _, _, _, _, _, _, _, rfl⟩
  | obj l cs sl h hr =>
    rcases hr.2 with ⟨_, rfl⟩ | ⟨b, cap, rfl, _⟩ <;> exact ⟨_, _, _, _, _, _, _, _, _, rfl⟩
  | _ => exact ⟨_, _, _, _, _, _, _, _, _, rfl⟩
end Go.Proofs.YtccnfnoonpfdfaaGreatDoor
namespace Go.Proofs.YtccnfnoonpfdfaaGreatDoor
open Go.Shelf Go.RowKit Go.Lib
end Go.Proofs.YtccnfnoonpfdfaaGreatDoor
namespace Go.Proofs.YtccnfnoonpfdfaaGreatDoor
open Go.Shelf Go.RowKit Go.Lib
theorem keyL_one (v : V) : 1 ≤ (keyL v).length := by cases v <;> simp [keyL]
theorem keysL_long : ∀ l : List V, l.length ≤ (keysL l).length
  | [] => Nat.zero_le _
  | v :: l => by
    have h1 := keysL_long l
    have h2 := keyL_one v
    simp only [keysL, List.length_append, List.length_cons]
    omega
theorem fieldsL_long : ∀ l : List (BL × V), l.length ≤ (fieldsL l).length
  | [] => Nat.zero_le _
  | f :: l => by
    have h1 := fieldsL_long l
    simp only [fieldsL, fieldL_eq, List.length_append, List.length_cons]
    omega
/-- what holds of a value if it holds of those in it holds of every value. -/
theorem V_kidsN {M : V → Prop} (hl : ∀ l, (∀ x ∈ l, M x) → M (.list l)) (ho : ∀ l : List (BL × V), (∀ x ∈ l, M x.2) → M (.obj l)) (h0 : M .null) (h1 : ∀ n, M (.bool n)) (h2 : ∀ n, M (.int n)) (h3 : ∀ s, M (.text s)) :
    ∀ (n : Nat) (v : V), SizeOf.sizeOf v < n → M v
  | 0, v, h => absurd h (Nat.not_lt_zero _)
  | n + 1, v, h => by
    cases v with
    | null => exact h0
    | bool k => exact h1 k
    | int k => exact h2 k
    | text s => exact h3 s
    | list l => exact hl l (fun x hx => V_kidsN hl ho h0 h1 h2 h3 n x (by have := List.sizeOf_lt_of_mem hx; simp at h; omega))
    | obj l => exact ho l (fun x hx => V_kidsN hl ho h0 h1 h2 h3 n x.2 (by
        have e1 := List.sizeOf_lt_of_mem hx
        have e2 : SizeOf.sizeOf x = 1 + SizeOf.sizeOf x.1 + SizeOf.sizeOf x.2 := by cases x; rfl
        simp at h
        omega))
theorem V_kids {M : V → Prop} (hl : ∀ l, (∀ x ∈ l, M x) → M (.list l)) (ho : ∀ l : List (BL × V), (∀ x ∈ l, M x.2) → M (.obj l)) (h0 : M .null) (h1 : ∀ n, M (.bool n)) (h2 : ∀ n, M (.int n)) (h3 : ∀ s, M (.text s)) (v : V) : M v :=
  V_kidsN hl ho h0 h1 h2 h3 (SizeOf.sizeOf v + 1) v (by omega)
end Go.Proofs.YtccnfnoonpfdfaaGreatDoor
namespace Go.Proofs.YtccnfnoonpfdfaaGreatDoor
open Go.Shelf Go.RowKit Go.Lib
end Go.Proofs.YtccnfnoonpfdfaaGreatDoor
namespace Go.Proofs.YtccnfnoonpfdfaaGreatDoor
open Go.Shelf Go.RowKit Go.Lib
end Go.Proofs.YtccnfnoonpfdfaaGreatDoor
namespace Go.Proofs.YtccnfnoonpfdfaaGreatDoor
open Go.Shelf Go.RowKit Go.Lib
def oneL (c : Nat) : Int := if c % 8 = 0 then -9223372036854775808 else if c % 8 = 1 then 9223372036854775807 else if c % 8 = 2 then -(c : Int) else ((c / 8 % 6 : Nat) : Int)
def wordL (k : Nat) : BL := ([[], [97], [98], [97, 98], [0], [195, 169], [122, 0], [108, 111, 110, 103, 44, 32, 97, 110, 100, 32, 108, 111, 110, 103, 101, 114]] : List BL).getD k []
def nameL (k : Nat) : BL := ([[97], [98], [99], [110]] : List BL).getD k []
def leafL (c : Nat) : V := if c % 6 = 1 then .bool ((c / 6 % 2 : Nat) : Int) else if c % 6 = 2 then .int (oneL (c / 6)) else if c % 6 = 3 then .text (wordL (c / 6 % 8)) else .null
def timesL (rec : BL → V × BL) : Nat → BL → List V × BL
  | 0, b => ([], b)
  | k + 1, b => ((timesL rec k b).1 ++ [(rec (timesL rec k b).2).1], (rec (timesL rec k b).2).2)
def fieldsN (rec : BL → V × BL) (n : Nat) : Nat → BL → List (BL × V) × BL
  | 0, b => ([], b)
  | i + 1, b => if n / 2 ^ i % 2 = 1 then ((fieldsN rec n i b).1 ++ [(nameL i, (rec (fieldsN rec n i b).2).1)], (rec (fieldsN rec n i b).2).2) else fieldsN rec n i b
/-- what Made makes of bytes, at most d + 1 deep, and what is left. -/
def madeL : Nat → BL → V × BL
  | _, [] => (.null, [])
  | 0, c :: b => (leafL c.toNat, b)
  | d + 1, c :: b =>
    if c.toNat % 6 = 4 then (.list (timesL (madeL d) (c.toNat / 6 % 4) b).1, (timesL (madeL d) (c.toNat / 6 % 4) b).2)
    else if c.toNat % 6 = 5 then (.obj (fieldsN (madeL d) (c.toNat / 6) 4 b).1, (fieldsN (madeL d) (c.toNat / 6) 4 b).2)
    else (leafL c.toNat, b)
theorem madeL_nil : ∀ d, madeL d [] = (.null, [])
  | 0 => rfl
  | _ + 1 => rfl
/-- the law's two tables of texts. -/
def Words (w : World) : Prop := (∀ k, k < 8 → w.cell? ⟨0, k, none⟩ = some (.string (BA (wordL k)))) ∧ (∀ k, k < 4 → w.cell? ⟨1, k, none⟩ = some (.string (BA (nameL k))))
theorem Words.later {w w2 : World} (h : Words w) (hb : Below w.heap.size w w2) : Words w2 := ⟨fun k hk => bcell hb (h.1 k hk), fun k hk => bcell hb (h.2 k hk)⟩
/-- v is a slice that reads as the bytes l, in a block below n. -/
def BRead (n : Nat) (w : World) (v : Value) (l : BL) : Prop :=
  l.length ≤ 9223372036854775807 ∧ ∃ a cap, v = .slice a l.length cap ∧ l.length ≤ cap ∧ (0 < l.length → ∃ b off, a = some ⟨b, off, none⟩ ∧ b < n ∧ ∀ i u, l[i]? = some u → w.cell? ⟨b, off + i, none⟩ = some (.int .u8 u.toNat))
theorem BRead.later {n : Nat} {w w2 : World} {v : Value} {l : BL} (h : BRead n w v l) (hb : Below n w w2) : BRead n w2 v l := by
  obtain ⟨hm, a, cap, rfl, hc, h⟩ := h
  refine ⟨hm, a, cap, rfl, hc, fun hl => ?_⟩
  obtain ⟨b, off, rfl, hbn, hx⟩ := h hl
  exact ⟨b, off, rfl, hbn, fun i u hu => (World.cell?_of_block (hb.block b hbn)).trans (hx i u hu)⟩
theorem BRead.nil (n : Nat) (w : World) : BRead n w (.slice none 0 0) [] := ⟨by simp, none, 0, rfl, by simp, fun h => absurd h (by simp)⟩
/-- a value's cells, all of it in blocks made since the world w0. -/
def VNew (w0 w : World) (v : V) (c : List Value) : Prop := VAt (fun b => w0.heap.size ≤ b ∧ b < w.heap.size) w v c
theorem VNew.later {w0 w w2 : World} {v : V} {c : List Value} (h : VNew w0 w v c) (hb : Below w.heap.size w w2) : VNew w0 w2 v c :=
  h.keep (fun _ hb' => ⟨hb'.1, Nat.lt_of_lt_of_le hb'.2 hb.size⟩) (fun _ _ _ _ hc => bcell hb hc)
set_option maxRecDepth 100000 in
theorem one_any (c : Nat) (w : World) (hc : c < 256) : Calls Tryz.prog 43 #[.int .u8 c] w fun e w' => e = .returned (.int .i64 (oneL c)) ∧ w' = w := by
  unfold oneL
  by_cases h0 : c % 8 = 0
  · have z0 : (c : Int) % 8 = 0 := by omega
    rw [if_pos h0]
    go_enter Tryz.func43, Tryz.ntmps43
    go_wp2
    go_ret
    exact ⟨rfl, rfl⟩
  rw [if_neg h0]
  by_cases h1 : c % 8 = 1
  · have z0 : (c : Int) % 8 = 1 := by omega
    rw [if_pos h1]
    go_enter Tryz.func43, Tryz.ntmps43
    go_wp2
    go_ret
    exact ⟨rfl, rfl⟩
  rw [if_neg h1]
  by_cases h2 : c % 8 = 2
  · have z0 : (c : Int) % 8 = 2 := by omega
    rw [if_pos h2]
    have zw : IntKind.i64.wrap (-(c : Int)) = -(c : Int) := by rw [IntKind.wrap_i64]; omega
    have zc : IntKind.i64.wrap (c : Int) = (c : Int) := by rw [IntKind.wrap_i64]; omega
    go_enter Tryz.func43, Tryz.ntmps43
    go_wp2
    go_ret
    exact ⟨rfl, rfl⟩
  rw [if_neg h2]
  have z0 : ¬ (c : Int) % 8 = 0 := by omega
  have z1 : ¬ (c : Int) % 8 = 1 := by omega
  have z2 : ¬ (c : Int) % 8 = 2 := by omega
  go_enter Tryz.func43, Tryz.ntmps43
  go_wp2
  go_ret
  exact ⟨rfl, rfl⟩
end Go.Proofs.YtccnfnoonpfdfaaGreatDoor
