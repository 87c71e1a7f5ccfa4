/- Cut out of XGB, XGC, XGD (wip/cutout.py): what is needed here. -/
import Derived.Test.YtecnjifincahaaaGreatDoorGA
import Derived.Test.YtecnjifincahaaaGreatDoorShelf
import Derived.Lib.ValidLaws
import Derived.Lib.RuneBytes
import Derived.Lib.LaidU8
import Derived.WalkKit
import Derived.BigCall
import Derived.BigGuard
import Derived.Lib.Walk
import Derived.RegionTactic
import Derived.Laws.Runes
import Derived.Laws.Cover4
import Derived.WalkMore
import Derived.Deep.QuietTactic
import Derived.BigQuiet
import Derived.Lib.QuoteBits
import Derived.Lib.Small
import Derived.Laws.BytesString
import Derived.Laws.IdiomStrings
import Derived.StillTailTactics
import Derived.Laws.BitsAllLaws
import Derived.Lib.SmallJoins
import Derived.Laws.Bits64
import Derived.Deep.RegionHeld3
import Derived.Laws.OwnMore
import Derived.Maps.AppendAt
namespace Go.Proofs.YtecnjifincahaaaGreatDoor
open Go.Shelf Go.RowKit
set_option maxRecDepth 100000 in
theorem copy_used (b : Nat) (w : World) (h0 : w.cell? ⟨b, 0, none⟩ = some (.pointer (some ⟨b, 0, none⟩))) :
    Calls Tryz.prog 89 #[.pointer (some ⟨b, 0, none⟩)] w fun e w' => e = .returned (.tuple #[]) ∧ w' = w := by
  obtain ⟨j, hj, _⟩ := Option.map_eq_some_iff.1 (show (Tryz.prog.info? 126).map _ = _ from Tryz.Builder_Extra_169.sizeBuilder)
  go_enter Tryz.func89, Tryz.ntmps89
  go_wp2
  rw [Lib.run_neq_ptr_same w _ Tryz.underlying124 hj]
  go_wp2
  go_end0
  exact ⟨rfl, rfl⟩
set_option maxRecDepth 100000 in
theorem copy_fresh (b : Nat) (w : World) (h0 : w.cell? ⟨b, 0, none⟩ = some (.pointer none)) (hsh : w.shape? b = some (126, 2)) (hfz : w.frozen? ⟨b, 0, none⟩ = false) :
    Calls Tryz.prog 89 #[.pointer (some ⟨b, 0, none⟩)] w fun e w' => e = .returned (.tuple #[]) ∧ w' = w.setCell ⟨b, 0, none⟩ (.pointer (some ⟨b, 0, none⟩)) := by
  obtain ⟨j, hj, hjs⟩ := Option.map_eq_some_iff.1 (show (Tryz.prog.info? 126).map _ = _ from Tryz.Builder_Extra_169.sizeBuilder)
  go_enter Tryz.func89, Tryz.ntmps89
  go_wp2
  rw [Lib.run_to_unsafe w ⟨b, 0, none⟩ Tryz.underlying124 Tryz.underlying111 hj (by rw [hjs]; decide) hsh (Nat.zero_lt_succ 1)]
  simp only [Result.andThen]
  rw [Oper.upon_value]
  go_wp2
  rw [run_callFunc_extern Tryz.func110 (by kernel_rfl) (by kernel_rfl) (by kernel_rfl) (e := Extern.AbiNoEscape.same) (by kernel_rfl)]
  rw [Lib.run_noEscape]
  simp only [Result.andThen]
  rw [Oper.upon_value]
  go_wp2
  rw [Lib.run_from_unsafe w ⟨b, 0, none⟩ Tryz.underlying111 Tryz.underlying124 hj hsh Tryz.Builder_Extra_169.liesBuilder]
  simp only [Result.andThen]
  rw [Oper.upon_value]
  go_wp2
  go_end0
  exact ⟨rfl, rfl⟩
theorem b_copy (B b : Nat) (bs : List Value) (w : World) (h : Lib.IsBuilderF 126 5 B b bs w) :
    Calls Tryz.prog 89 #[.pointer (some ⟨b, 0, none⟩)] w fun e w' => e = .returned (.tuple #[]) ∧ (Lib.BuilderAtF 126 5 B b (.pointer (some ⟨b, 0, none⟩)) bs w' ∧ Below B w w' ∧ Lib.OthersKept 5 (some b) w w') := by
  rcases h with h | h
  · refine (copy_fresh b w h.cell0 h.shape h.frozen0).mono ?_
    rintro e w' ⟨rfl, rfl⟩
    exact ⟨rfl, h.used _, (Below.refl B w).setCell (p := ⟨b, 0, none⟩) h.1 _, (Lib.OthersKept.refl _ _ w).setCell ⟨b, 0, none⟩ rfl _⟩
  · refine (copy_used b w h.cell0).mono ?_
    rintro e w' ⟨rfl, rfl⟩
    exact ⟨rfl, h, Below.refl B _, Lib.OthersKept.refl _ _ _⟩
theorem infoB : (Tryz.prog.info? 5).map (fun i => (i.zero, i.size, i.bytes)) = some (some (.int .u8 0), 1, 1) := by kernel_rfl
theorem byte_parts : ∃ i0, Tryz.prog.info? 5 = some i0 ∧ i0.zero = some (.int .u8 0) ∧ i0.size = 1 ∧ i0.bytes = 1 := info_parts infoB
theorem lt_of_block {w : World} {b : Nat} {o : Obj} (h : w.heap[b]? = some o) : b < w.heap.size := by
  rcases Nat.lt_or_ge b w.heap.size with h' | h'
  · exact h'
  · simp [Array.getElem?_eq_none h'] at h
set_option maxHeartbeats 2000000 in
set_option maxRecDepth 100000 in
theorem b_byte (B b : Nat) (bs : List Value) (c : Int) (w : World) (h : Lib.IsBuilderF 126 5 B b bs w) (hlen : bs.length + 1 ≤ 140737488355328) (hBw : B ≤ w.heap.size) :
    Calls Tryz.prog 63 #[.pointer (some ⟨b, 0, none⟩), .int .u8 c] w fun e w' => e = .returned .nilIface ∧ (Lib.BuilderAtF 126 5 B b (.pointer (some ⟨b, 0, none⟩)) (bs ++ [.int .u8 c]) w' ∧ Below B w w' ∧ Lib.OthersKept 5 (some b) w w') := by
  obtain ⟨i0, hi, hz0, hz1, hz2⟩ := byte_parts
  have mixed : Tryz.prog.follows .mixedOrders = true := by kernel_rfl
  go_enter Tryz.func63, Tryz.ntmps63
  go_wp2_with fail
  refine (b_copy B b bs _ h).mono ?_
  rintro e w1 ⟨rfl, h1, hb1, hk1⟩
  obtain ⟨hB, v, hbk, hown, hne⟩ := h1
  have c0 : w1.cell? ⟨b, 0, none⟩ = some (.pointer (some ⟨b, 0, none⟩)) := by rw [Lib.cell_of_heap hbk]; rfl
  have c1 : w1.cell? ⟨b, 1, none⟩ = some v := by rw [Lib.cell_of_heap hbk]; rfl
  go_wp2_with (at_builtin; refine wpList_append_ownF _ rfl _ _ 24 rfl B 5 i0 (.int .u8 0) 1 1 Tryz.underlying24 hi hz0 hz1 hz2 rfl (by decide) _ _ _ rfl (hown.alloc _) ⟨w1.heap.size, 0, none⟩ 1 1 [.int .u8 c] rfl rfl ?c1 ?c2 ?c3 ?c4 ?c5 ?_)
  case c1 =>
    intro j u hj
    match j, hj with
    | 0, hj => simp at hj; subst hj; simp [Addr.add]
  case c2 => intro u hu; simp at hu; subst hu; rfl
  case c3 => unfold maxLen; omega
  case c4 => omega
  case c5 => have := hb1.size; simp; omega
  intro v' w2 hown' hgrow _
  have hlt := lt_of_block hbk
  have hb2 : w2.heap[b]? = some (.cells #[.pointer (some ⟨b, 0, none⟩), v] 126 (0, 0)) := by
    rw [hgrow.block b (by simp; omega) (fun e => hne e.symm), Lib.alloc_old w1 _ b hlt]
    exact hbk
  have d0 : w2.cell? ⟨b, 0, none⟩ = some (.pointer (some ⟨b, 0, none⟩)) := by rw [Lib.cell_of_heap hb2]; rfl
  have d1 : w2.cell? ⟨b, 1, none⟩ = some v := by rw [Lib.cell_of_heap hb2]; rfl
  have f1 : w2.frozen? ⟨b, 1, none⟩ = false := Lib.frozen_of_heap hb2 1
  obtain ⟨g, cap, rfl⟩ : ∃ g cap, v' = .slice (some ⟨g, 0, none⟩) (bs.length + 1) cap := by
    rcases hown'.2 with ⟨_, h0⟩ | ⟨g, cap, cur, fz, hv, _⟩
    · omega
    · exact ⟨g, cap, hv⟩
  go_wp2
  go_ret
  refine ⟨rfl, ?_, ?_, ((hk1.alloc _).grown hgrow (Lib.ownsRowF_kind (hown.alloc _))).setCell ⟨b, 1, none⟩ rfl _⟩
  · exact Lib.BuilderAtF.put (T := 126) (e := 5) hB hb2 (bs' := bs ++ [.int .u8 c]) (by simpa using hown') (by decide)
  · exact ((hb1.alloc (by have := hb1.size; omega) _).grown hgrow (by have := hb1.size; simp; omega) (fun k hk => (hown.lt k hk).1)).setCell (p := ⟨b, 1, none⟩) hB _
set_option maxHeartbeats 2000000 in
set_option maxRecDepth 100000 in
theorem b_str (B b : Nat) (bs : List Value) (s : ByteArray) (w : World) (h : Lib.IsBuilderF 126 5 B b bs w) (hlen : bs.length + s.size ≤ 140737488355328) (hBw : B ≤ w.heap.size) :
    Calls Tryz.prog 64 #[.pointer (some ⟨b, 0, none⟩), .string s] w fun e w' => e = .returned (.tuple #[.int .i64 s.size, .nilIface]) ∧ (Lib.BuilderAtF 126 5 B b (.pointer (some ⟨b, 0, none⟩)) (bs ++ Lib.strCells s) w' ∧ Below B w w' ∧ Lib.OthersKept 5 (some b) w w') := by
  obtain ⟨i0, hi, hz0, hz1, hz2⟩ := byte_parts
  have mixed : Tryz.prog.follows .mixedOrders = true := by kernel_rfl
  go_enter Tryz.func64, Tryz.ntmps64
  go_wp2_with fail
  refine (b_copy B b bs _ h).mono ?_
  rintro e w1 ⟨rfl, h1, hb1, hk1⟩
  obtain ⟨hB, v, hbk, hown, hne⟩ := h1
  have c0 : w1.cell? ⟨b, 0, none⟩ = some (.pointer (some ⟨b, 0, none⟩)) := by rw [Lib.cell_of_heap hbk]; rfl
  have c1 : w1.cell? ⟨b, 1, none⟩ = some v := by rw [Lib.cell_of_heap hbk]; rfl
  go_wp2_with (at_builtin; refine Lib.wpList_append_own_stringF _ rfl _ _ 24 9 rfl B 5 i0 Tryz.underlying24 Tryz.underlying9 hi hz0 hz1 hz2 _ _ _ rfl hown s rfl ?c3 ?c4 ?c5 ?_)
  case c3 => unfold maxLen; omega
  case c4 => omega
  case c5 => have := hb1.size; omega
  intro v' w2 hown' hgrow _
  have hlt := lt_of_block hbk
  have hb2 : w2.heap[b]? = some (.cells #[.pointer (some ⟨b, 0, none⟩), v] 126 (0, 0)) := by
    rw [hgrow.block b hlt (fun e => hne e.symm)]
    exact hbk
  have d0 : w2.cell? ⟨b, 0, none⟩ = some (.pointer (some ⟨b, 0, none⟩)) := by rw [Lib.cell_of_heap hb2]; rfl
  have d1 : w2.cell? ⟨b, 1, none⟩ = some v := by rw [Lib.cell_of_heap hb2]; rfl
  have f1 : w2.frozen? ⟨b, 1, none⟩ = false := Lib.frozen_of_heap hb2 1
  obtain ⟨ao, n', cap, rfl⟩ : ∃ ao n' cap, v' = .slice ao n' cap := by
    rcases hown'.2 with ⟨hv, _⟩ | ⟨g, cap, cur, fz, hv, _⟩
    · exact ⟨_, _, _, hv⟩
    · exact ⟨_, _, _, hv⟩
  go_wp2
  go_ret2
  refine ⟨rfl, ?_, ?_, (hk1.grown hgrow (Lib.ownsRowF_kind hown)).setCell ⟨b, 1, none⟩ rfl _⟩
  · exact Lib.BuilderAtF.put (T := 126) (e := 5) hB hb2 (bs' := bs ++ Lib.strCells s) (by simpa [Lib.strCells_length] using hown') (by decide)
  · exact (hb1.grown hgrow (by have := hb1.size; omega) (fun k hk => (hown.lt k hk).1)).setCell (p := ⟨b, 1, none⟩) hB _
end Go.Proofs.YtecnjifincahaaaGreatDoor
namespace Go.Proofs.YtecnjifincahaaaGreatDoor
open Go.Lib
abbrev BL := List UInt8
def hexV (b : Nat) : Int := if 48 ≤ b ∧ b ≤ 57 then (b : Int) - 48 else if 97 ≤ b ∧ b ≤ 102 then (b : Int) - 87 else if 65 ≤ b ∧ b ≤ 70 then (b : Int) - 55 else -1
end Go.Proofs.YtecnjifincahaaaGreatDoor
namespace Go.Proofs.YtecnjifincahaaaGreatDoor
open Go.Shelf Go.RowKit Go.Lib
def Tabs (w : World) : Prop := Lib.Utf8Tabs 3 4 w
theorem Tabs.below {w w2 : World} (h : Tabs w) (hb : Below w.heap.size w w2) : Tabs w2 := Utf8Tabs_below h hb
abbrev BA (l : BL) : ByteArray := ⟨l.toArray⟩
theorem ba_list (s : ByteArray) : BA s.data.toList = s := by cases s; simp
theorem ba_size (l : BL) : (BA l).size = l.length := by simp [ByteArray.size]
end Go.Proofs.YtecnjifincahaaaGreatDoor
namespace Go.Proofs.YtecnjifincahaaaGreatDoor
open Go.Shelf Go.RowKit Go.Lib
end Go.Proofs.YtecnjifincahaaaGreatDoor
namespace Go.Proofs.YtecnjifincahaaaGreatDoor
open Go.Shelf Go.RowKit Go.Lib
/-- the builder at b (made at or above B) holds the bytes l. -/
def BH (B b : Nat) (l : BL) (w : World) : Prop := Lib.IsBuilderF 126 5 B b (Lib.byteCells l) w
theorem bh_byte (B b : Nat) (l : BL) (c : UInt8) (w : World) (h : BH B b l w) (hlen : l.length + 1 ≤ 140737488355328) (hBw : B ≤ w.heap.size) :
    Calls Tryz.prog 63 #[.pointer (some ⟨b, 0, none⟩), .int .u8 c.toNat] w fun e w' => e = .returned .nilIface ∧ BH B b (l ++ [c]) w' ∧ Below B w w' := by
  refine (b_byte B b _ _ w h (by rw [Lib.byteCells_length]; exact hlen) hBw).mono ?_
  rintro e w' ⟨rfl, h1, h2, _⟩
  exact ⟨rfl, Or.inr (by rw [Lib.byteCells_append]; exact h1), h2⟩
theorem bh_str (B b : Nat) (l : BL) (s : ByteArray) (w : World) (h : BH B b l w) (hlen : l.length + s.size ≤ 140737488355328) (hBw : B ≤ w.heap.size) :
    Calls Tryz.prog 64 #[.pointer (some ⟨b, 0, none⟩), .string s] w fun e w' => e = .returned (.tuple #[.int .i64 s.size, .nilIface]) ∧ BH B b (l ++ s.data.toList) w' ∧ Below B w w' := by
  refine (b_str B b _ _ w h (by rw [Lib.byteCells_length]; exact hlen) hBw).mono ?_
  rintro e w' ⟨rfl, h1, h2, _⟩
  exact ⟨rfl, Or.inr (by rw [Lib.byteCells_append]; exact h1), h2⟩
theorem bh_get (B b : Nat) (l : BL) (w : World) (h : BH B b l w) (hBw : B ≤ w.heap.size) :
    Calls Tryz.prog 67 #[.pointer (some ⟨b, 0, none⟩)] w fun e w' => e = .returned (.string (BA l)) ∧ Below B w w' := by
  refine (Tryz.Builder_String_any_k B b l w h hBw).mono ?_
  rintro e w' ⟨rfl, _, h2, _⟩
  exact ⟨rfl, h2⟩
theorem BH.below {B b : Nat} {l : BL} {w w2 : World} (h : BH B b l w) (hb : Below w.heap.size w w2) : BH B b l w2 := by
  have key : ∀ p, Lib.BuilderAtF 126 5 B b p (Lib.byteCells l) w → Lib.BuilderAtF 126 5 B b p (Lib.byteCells l) w2 := by
    rintro p ⟨hB, v, hbk, hown, hne⟩
    have hlt := lt_of_block hbk
    exact ⟨hB, v, (hb.block b hlt).trans hbk, hown.kept (row := none) ⟨hb.os, hb.tape, hb.output, hb.size, fun k hk _ => hb.block k hk⟩ (by rcases hv : v.ownBlock with _ | k <;> simp), hne⟩
  rcases h with h | h
  · exact .inl (key _ h)
  · exact .inr (key _ h)
end Go.Proofs.YtecnjifincahaaaGreatDoor
namespace Go.Proofs.YtecnjifincahaaaGreatDoor
open Go.Shelf Go.RowKit Go.Lib
theorem piece_ba (s : ByteArray) (pos n : Nat) (_h : pos + n ≤ s.size) : (s.extract pos (pos + n)).data.toList = (s.data.toList.drop pos).take n := by
  rw [extract_data, show pos + n - pos = n by omega]
end Go.Proofs.YtecnjifincahaaaGreatDoor
namespace Go.Proofs.YtecnjifincahaaaGreatDoor
open Go.Shelf Go.RowKit Go.Lib
def hv (l : BL) (i : Nat) : Int := hexV (l.getD i 0).toNat
end Go.Proofs.YtecnjifincahaaaGreatDoor
namespace Go.Proofs.YtecnjifincahaaaGreatDoor
open Go.Shelf Go.RowKit Go.Lib
end Go.Proofs.YtecnjifincahaaaGreatDoor
namespace Go.Proofs.YtecnjifincahaaaGreatDoor
open Go.Shelf Go.RowKit Go.Lib
end Go.Proofs.YtecnjifincahaaaGreatDoor
namespace Go.Proofs.YtecnjifincahaaaGreatDoor
open Go.Shelf Go.RowKit Go.Lib
end Go.Proofs.YtecnjifincahaaaGreatDoor
namespace Go.Proofs.YtecnjifincahaaaGreatDoor
open Go.Shelf Go.RowKit Go.Lib
theorem app_list (a b : ByteArray) : (a ++ b).data.toList = a.data.toList ++ b.data.toList := by
  rw [ByteArray.data_append, Array.toList_append]
end Go.Proofs.YtecnjifincahaaaGreatDoor
namespace Go.Proofs.YtecnjifincahaaaGreatDoor
open Go.Shelf Go.RowKit Go.Lib
set_option maxRecDepth 100000 in
theorem valid_any (s : ByteArray) (w : World) (hs : s.size ≤ 1099511627776) (hT : Tabs w) :
    Calls Tryz.prog 33 #[.string s] w fun e w' => e = .returned (.bool (Lib.validD s.data.toList)) ∧ Below w.heap.size w w' := by
  have c := Tryz.utf8_ValidString s w (by omega) hT
  clear hT
  go_enter Tryz.func33, Tryz.ntmps33
  go_wp2_with fail
  refine c.mono ?_
  rintro e w1 ⟨rfl, hb1⟩
  have HB := Lib.hid hb1
  clear hb1 c
  go_wp2
  go_ret
  exact ⟨rfl, HB.out⟩
end Go.Proofs.YtecnjifincahaaaGreatDoor
namespace Go.Proofs.YtecnjifincahaaaGreatDoor
open Go.Shelf Go.RowKit Go.Lib
end Go.Proofs.YtecnjifincahaaaGreatDoor
namespace Go.Proofs.YtecnjifincahaaaGreatDoor
open Go.Lib
end Go.Proofs.YtecnjifincahaaaGreatDoor
namespace Go.Proofs.YtecnjifincahaaaGreatDoor
open Go.Shelf Go.RowKit Go.Lib
end Go.Proofs.YtecnjifincahaaaGreatDoor
namespace Go.Proofs.YtecnjifincahaaaGreatDoor
open Go.Shelf Go.RowKit Go.Lib
end Go.Proofs.YtecnjifincahaaaGreatDoor
namespace Go.Proofs.YtecnjifincahaaaGreatDoor
open Go.Shelf Go.RowKit Go.Lib
theorem mk8 (w : World) : (Instr.makeSlice 24 (.int .i64 8) (.int .i64 8)).run Tryz.prog w = .ok (.slice (some ⟨w.heap.size, 0, none⟩) 8 8) (w.alloc (.cells #[.int .u8 0, .int .u8 0, .int .u8 0, .int .u8 0, .int .u8 0, .int .u8 0, .int .u8 0, .int .u8 0] 5)) := by kernel_rfl
end Go.Proofs.YtecnjifincahaaaGreatDoor
namespace Go.Proofs.YtecnjifincahaaaGreatDoor
open Go.Shelf Go.RowKit Go.Lib
end Go.Proofs.YtecnjifincahaaaGreatDoor
namespace Go.Proofs.YtecnjifincahaaaGreatDoor
open Go.Shelf Go.RowKit Go.Lib
end Go.Proofs.YtecnjifincahaaaGreatDoor
namespace Go.Proofs.YtecnjifincahaaaGreatDoor
open Go.Shelf Go.RowKit Go.Lib
end Go.Proofs.YtecnjifincahaaaGreatDoor
namespace Go.Proofs.YtecnjifincahaaaGreatDoor
open Go.Shelf Go.RowKit Go.Lib
end Go.Proofs.YtecnjifincahaaaGreatDoor
namespace Go.Proofs.YtecnjifincahaaaGreatDoor
open Go.Shelf Go.RowKit Go.Lib
end Go.Proofs.YtecnjifincahaaaGreatDoor
namespace Go.Proofs.YtecnjifincahaaaGreatDoor
open Go.Shelf Go.RowKit Go.Lib
end Go.Proofs.YtecnjifincahaaaGreatDoor
namespace Go.Proofs.YtecnjifincahaaaGreatDoor
open Go.Shelf Go.RowKit Go.Lib
/-- A value. -/
inductive V where
  | null
  | bool (n : Int)
  | int (n : Int)
  | text (s : BL)
  | list (l : List V)
  | obj (l : List (BL × V))
/-- A row of n things whose cells are cs, in a block of which S speaks (nothing is said of the spare cells). -/
def RowAt (S : Nat → Prop) (w : World) (sl : Value) (n : Nat) (cs : List Value) : Prop :=
  n ≤ 9223372036854775807 ∧ ((n = 0 ∧ sl = .slice none 0 0) ∨ ∃ b cap, sl = .slice (some ⟨b, 0, none⟩) n cap ∧ S b ∧ ∀ k u, cs[k]? = some u → w.cell? ⟨b, k, none⟩ = some u)
mutual
inductive VAt (S : Nat → Prop) (w : World) : V → List Value → Prop
  | null : VAt S w .null [.int .i64 0, .int .i64 0, .string ⟨#[]⟩, .slice none 0 0, .slice none 0 0]
  | bool (n : Int) (h : 0 ≤ n ∧ n < 256) : VAt S w (.bool n) [.int .i64 1, .int .i64 n, .string ⟨#[]⟩, .slice none 0 0, .slice none 0 0]
  | int (n : Int) (h : -9223372036854775808 ≤ n ∧ n ≤ 9223372036854775807) : VAt S w (.int n) [.int .i64 2, .int .i64 n, .string ⟨#[]⟩, .slice none 0 0, .slice none 0 0]
  | text (s : BL) : VAt S w (.text s) [.int .i64 3, .int .i64 0, .string (BA s), .slice none 0 0, .slice none 0 0]
  | list (l : List V) (cs : List Value) (sl : Value) (h : VsAt S w l cs) (hr : RowAt S w sl l.length cs) : VAt S w (.list l) [.int .i64 4, .int .i64 0, .string ⟨#[]⟩, sl, .slice none 0 0]
  | obj (l : List (BL × V)) (cs : List Value) (sl : Value) (h : FsAt S w l cs) (hr : RowAt S w sl l.length cs) : VAt S w (.obj l) [.int .i64 5, .int .i64 0, .string ⟨#[]⟩, .slice none 0 0, sl]
inductive VsAt (S : Nat → Prop) (w : World) : List V → List Value → Prop
  | nil : VsAt S w [] []
  | cons (v : V) (l : List V) (c0 c1 c2 c3 c4 : Value) (cs : List Value) (h : VAt S w v [c0, c1, c2, c3, c4]) (t : VsAt S w l cs) : VsAt S w (v :: l) (c0 :: c1 :: c2 :: c3 :: c4 :: cs)
inductive FsAt (S : Nat → Prop) (w : World) : List (BL × V) → List Value → Prop
  | nil : FsAt S w [] []
  | cons (n : BL) (v : V) (l : List (BL × V)) (c0 c1 c2 c3 c4 : Value) (cs : List Value) (h : VAt S w v [c0, c1, c2, c3, c4]) (t : FsAt S w l cs) : FsAt S w ((n, v) :: l) (.string (BA n) :: c0 :: c1 :: c2 :: c3 :: c4 :: cs)
end
theorem RowAt.keep {S T : Nat → Prop} {w w2 : World} {sl : Value} {n : Nat} {cs : List Value} (hST : ∀ b, S b → T b) (hk : ∀ b, S b → ∀ k u, w.cell? ⟨b, k, none⟩ = some u → w2.cell? ⟨b, k, none⟩ = some u)
    (h : RowAt S w sl n cs) : RowAt T w2 sl n cs := by
  obtain ⟨hn, h⟩ := h
  refine ⟨hn, ?_⟩
  rcases h with h | ⟨b, cap, h1, h2, h3⟩
  · exact .inl h
  · exact .inr ⟨b, cap, h1, hST b h2, fun k u hu => hk b h2 k u (h3 k u hu)⟩
mutual
theorem VAt.keep {S T : Nat → Prop} {w w2 : World} (hST : ∀ b, S b → T b) (hk : ∀ b, S b → ∀ k u, w.cell? ⟨b, k, none⟩ = some u → w2.cell? ⟨b, k, none⟩ = some u) :
    ∀ {v : V} {c : List Value}, VAt S w v c → VAt T w2 v c
  | _, _, .null => .null
  | _, _, .bool n h => .bool n h
  | _, _, .int n h => .int n h
  | _, _, .text s => .text s
  | _, _, .list l cs sl h hr => .list l cs sl (VsAt.keep hST hk h) (hr.keep hST hk)
  | _, _, .obj l cs sl h hr => .obj l cs sl (FsAt.keep hST hk h) (hr.keep hST hk)
theorem VsAt.keep {S T : Nat → Prop} {w w2 : World} (hST : ∀ b, S b → T b) (hk : ∀ b, S b → ∀ k u, w.cell? ⟨b, k, none⟩ = some u → w2.cell? ⟨b, k, none⟩ = some u) :
    ∀ {l : List V} {cs : List Value}, VsAt S w l cs → VsAt T w2 l cs
  | _, _, .nil => .nil
  | _, _, .cons v l c0 c1 c2 c3 c4 cs h t => .cons v l c0 c1 c2 c3 c4 cs (VAt.keep hST hk h) (VsAt.keep hST hk t)
theorem FsAt.keep {S T : Nat → Prop} {w w2 : World} (hST : ∀ b, S b → T b) (hk : ∀ b, S b → ∀ k u, w.cell? ⟨b, k, none⟩ = some u → w2.cell? ⟨b, k, none⟩ = some u) :
    ∀ {l : List (BL × V)} {cs : List Value}, FsAt S w l cs → FsAt T w2 l cs
  | _, _, .nil => .nil
  | _, _, .cons n v l c0 c1 c2 c3 c4 cs h t => .cons n v l c0 c1 c2 c3 c4 cs (VAt.keep hST hk h) (FsAt.keep hST hk t)
end
theorem VAt.later {S : Nat → Prop} {w w2 : World} {v : V} {c : List Value} (h : VAt S w v c) (hb : Below w.heap.size w w2) : VAt S w2 v c :=
  h.keep (fun _ x => x) (fun _ _ _ _ hc => bcell hb hc)
theorem VsAt.later {S : Nat → Prop} {w w2 : World} {l : List V} {c : List Value} (h : VsAt S w l c) (hb : Below w.heap.size w w2) : VsAt S w2 l c :=
  h.keep (fun _ x => x) (fun _ _ _ _ hc => bcell hb hc)
theorem FsAt.later {S : Nat → Prop} {w w2 : World} {l : List (BL × V)} {c : List Value} (h : FsAt S w l c) (hb : Below w.heap.size w w2) : FsAt S w2 l c :=
  h.keep (fun _ x => x) (fun _ _ _ _ hc => bcell hb hc)
theorem RowAt.later {S : Nat → Prop} {w w2 : World} {sl : Value} {n : Nat} {c : List Value} (h : RowAt S w sl n c) (hb : Below w.heap.size w w2) : RowAt S w2 sl n c :=
  h.keep (fun _ x => x) (fun _ _ _ _ hc => bcell hb hc)
theorem VAt.one {S : Nat → Prop} {w : World} {v : V} {c : List Value} (h : VAt S w v c) : ∀ u ∈ c, u.oneCell' = true := by
  cases h with
  | list l cs sl h hr =>
    intro u hu
    rcases hr.2 with ⟨_, rfl⟩ | ⟨b, cap, rfl, _⟩ <;> (simp only [List.mem_cons, List.not_mem_nil, or_false] at hu; rcases hu with rfl | rfl | rfl | rfl | rfl <;> rfl)
  | obj l cs sl h hr =>
    intro u hu
    rcases hr.2 with ⟨_, rfl⟩ | ⟨b, cap, rfl, _⟩ <;> (simp only [List.mem_cons, List.not_mem_nil, or_false] at hu; rcases hu with rfl | rfl | rfl | rfl | rfl <;> rfl)
  | _ => intro u hu; simp only [List.mem_cons, List.not_mem_nil, or_false] at hu; rcases hu with rfl | rfl | rfl | rfl | rfl <;> rfl
theorem VsAt.snoc {S : Nat → Prop} {w : World} {v : V} {c0 c1 c2 c3 c4 : Value} (hv : VAt S w v [c0, c1, c2, c3, c4]) : ∀ {l : List V} {cs : List Value}, VsAt S w l cs → VsAt S w (l ++ [v]) (cs ++ [c0, c1, c2, c3, c4])
  | _, _, .nil => .cons v [] c0 c1 c2 c3 c4 [] hv .nil
  | _, _, .cons x l d0 d1 d2 d3 d4 cs h t => .cons x _ d0 d1 d2 d3 d4 _ h (VsAt.snoc hv t)
theorem FsAt.snoc {S : Nat → Prop} {w : World} {n : BL} {v : V} {c0 c1 c2 c3 c4 : Value} (hv : VAt S w v [c0, c1, c2, c3, c4]) : ∀ {l : List (BL × V)} {cs : List Value}, FsAt S w l cs → FsAt S w (l ++ [(n, v)]) (cs ++ [.string (BA n), c0, c1, c2, c3, c4])
  | _, _, .nil => .cons n v [] c0 c1 c2 c3 c4 [] hv .nil
  | _, _, .cons m x l d0 d1 d2 d3 d4 cs h t => .cons m x _ d0 d1 d2 d3 d4 _ h (FsAt.snoc hv t)
theorem VsAt.get {S : Nat → Prop} {w : World} : ∀ {l : List V} {cs : List Value}, VsAt S w l cs → ∀ (j : Nat) (hj : j < l.length), ∃ c0 c1 c2 c3 c4, VAt S w l[j] [c0, c1, c2, c3, c4] ∧
    cs[j * 5]? = some c0 ∧ cs[j * 5 + 1]? = some c1 ∧ cs[j * 5 + 2]? = some c2 ∧ cs[j * 5 + 3]? = some c3 ∧ cs[j * 5 + 4]? = some c4
  | _, _, .nil, j, hj => absurd hj (Nat.not_lt_zero j)
  | _, _, .cons v l c0 c1 c2 c3 c4 cs h t, 0, hj => ⟨c0, c1, c2, c3, c4, h, rfl, rfl, rfl, rfl, rfl⟩
  | _, _, .cons v l c0 c1 c2 c3 c4 cs h t, j + 1, hj => by
    obtain ⟨d0, d1, d2, d3, d4, hv, e0, e1, e2, e3, e4⟩ := VsAt.get t j (by simpa using hj)
    refine ⟨d0, d1, d2, d3, d4, hv, ?_⟩
    rw [show (j + 1) * 5 = j * 5 + 5 by omega]
    exact ⟨e0, e1, e2, e3, e4⟩
theorem FsAt.get {S : Nat → Prop} {w : World} : ∀ {l : List (BL × V)} {cs : List Value}, FsAt S w l cs → ∀ (j : Nat) (hj : j < l.length), ∃ c0 c1 c2 c3 c4, VAt S w l[j].2 [c0, c1, c2, c3, c4] ∧
    cs[j * 6]? = some (.string (BA l[j].1)) ∧ cs[j * 6 + 1]? = some c0 ∧ cs[j * 6 + 2]? = some c1 ∧ cs[j * 6 + 3]? = some c2 ∧ cs[j * 6 + 4]? = some c3 ∧ cs[j * 6 + 5]? = some c4
  | _, _, .nil, j, hj => absurd hj (Nat.not_lt_zero j)
  | _, _, .cons n v l c0 c1 c2 c3 c4 cs h t, 0, hj => ⟨c0, c1, c2, c3, c4, h, rfl, rfl, rfl, rfl, rfl, rfl⟩
  | _, _, .cons n v l c0 c1 c2 c3 c4 cs h t, j + 1, hj => by
    obtain ⟨d0, d1, d2, d3, d4, hv, e0, e1, e2, e3, e4, e5⟩ := FsAt.get t j (by simpa using hj)
    refine ⟨d0, d1, d2, d3, d4, hv, ?_⟩
    rw [show (j + 1) * 6 = j * 6 + 6 by omega]
    exact ⟨e0, e1, e2, e3, e4, e5⟩
/-- bytes, a 0 as two of them. -/
def escK : BL → BL
  | [] => []
  | b :: l => if b = 0 then 0 :: 255 :: escK l else b :: escK l
def writtenK (l : BL) : BL := escK l ++ [0, 1]
/-- a number's eight bytes. -/
def numK (n : Int) : BL :=
  let x := (n + 9223372036854775808).toNat
  [UInt8.ofNat (x / 72057594037927936 % 256), UInt8.ofNat (x / 281474976710656 % 256), UInt8.ofNat (x / 1099511627776 % 256), UInt8.ofNat (x / 4294967296 % 256), UInt8.ofNat (x / 16777216 % 256), UInt8.ofNat (x / 65536 % 256), UInt8.ofNat (x / 256 % 256), UInt8.ofNat (x % 256)]
mutual
def keyL : V → BL
  | .null => [1]
  | .bool n => [2, UInt8.ofNat n.toNat]
  | .int n => 3 :: numK n
  | .text s => 4 :: writtenK s
  | .list l => 5 :: (keysL l ++ [0])
  | .obj l => 6 :: (fieldsL l ++ [0])
def keysL : List V → BL
  | [] => []
  | v :: l => keyL v ++ keysL l
def fieldL : BL × V → BL
  | (n, v) => 1 :: (writtenK n ++ keyL v)
def fieldsL : List (BL × V) → BL
  | [] => []
  | f :: l => fieldL f ++ fieldsL l
end
theorem fieldL_eq (f : BL × V) : fieldL f = 1 :: (writtenK f.1 ++ keyL f.2) := by cases f; simp [fieldL]
theorem keysL_append (l m : List V) : keysL (l ++ m) = keysL l ++ keysL m := by
  induction l with
  | nil => simp [keysL]
  | cons a l ih => simp [keysL, ih]
theorem fieldsL_append (l m : List (BL × V)) : fieldsL (l ++ m) = fieldsL l ++ fieldsL m := by
  induction l with
  | nil => simp [fieldsL]
  | cons a l ih => simp [fieldsL, ih]
theorem keysL_take (l : List V) (j : Nat) (hj : j < l.length) : keysL (l.take (j + 1)) = keysL (l.take j) ++ keyL l[j] := by
  rw [← List.take_append_getElem hj, keysL_append]
  simp [keysL]
theorem fieldsL_take (l : List (BL × V)) (j : Nat) (hj : j < l.length) : fieldsL (l.take (j + 1)) = fieldsL (l.take j) ++ (1 :: (writtenK l[j].1 ++ keyL l[j].2)) := by
  rw [← List.take_append_getElem hj, fieldsL_append]
  simp [fieldsL, fieldL_eq]
theorem keysL_le (l : List V) (j : Nat) : (keysL (l.take j)).length ≤ (keysL l).length := by
  have h := keysL_append (l.take j) (l.drop j)
  rw [List.take_append_drop] at h
  rw [h, List.length_append]
  omega
theorem fieldsL_le (l : List (BL × V)) (j : Nat) : (fieldsL (l.take j)).length ≤ (fieldsL l).length := by
  have h := fieldsL_append (l.take j) (l.drop j)
  rw [List.take_append_drop] at h
  rw [h, List.length_append]
  omega
theorem escK_append (l m : BL) : escK (l ++ m) = escK l ++ escK m := by
  induction l with
  | nil => simp [escK]
  | cons a l ih => by_cases h : a = 0 <;> simp [escK, ih, h]
theorem escK_le (l : BL) : l.length ≤ (escK l).length ∧ (escK l).length ≤ 2 * l.length := by
  induction l with
  | nil => simp [escK]
  | cons a l ih => by_cases h : a = 0 <;> (simp [escK, h]; omega)
end Go.Proofs.YtecnjifincahaaaGreatDoor
namespace Go.Proofs.YtecnjifincahaaaGreatDoor
open Go.Shelf Go.RowKit Go.Lib
theorem xor_low (a : Nat) (h : a < 9223372036854775808) : a ^^^ 9223372036854775808 = a + 9223372036854775808 := by
  rw [Nat.add_comm]
  refine Nat.eq_of_testBit_eq fun i => ?_
  rw [Nat.testBit_xor]
  rw [show (9223372036854775808 : Nat) = 2 ^ 63 from rfl, Nat.testBit_two_pow]
  rcases Nat.lt_trichotomy i 63 with h1 | h1 | h1
  · rw [Nat.testBit_two_pow_add_gt h1]
    have : decide (63 = i) = false := by simp; omega
    rw [this, Bool.xor_false]
  · subst h1
    rw [Nat.testBit_two_pow_add_eq]
    simp
  · have h2 : (2 : Nat) ^ 64 ≤ 2 ^ i := Nat.pow_le_pow_right (by decide) h1
    have e : (2 : Nat) ^ 64 = 18446744073709551616 := rfl
    have e3 : (2 : Nat) ^ 63 = 9223372036854775808 := rfl
    rw [Nat.testBit_lt_two_pow (x := a) (by omega), Nat.testBit_lt_two_pow (x := 2 ^ 63 + a) (by omega)]
    have : decide (63 = i) = false := by simp; omega
    rw [this]
    rfl
theorem xor_turn (n : Int) (h : -9223372036854775808 ≤ n ∧ n ≤ 9223372036854775807) :
    bits .xor .u64 (IntKind.u64.wrap n) 9223372036854775808 = (((n + 9223372036854775808).toNat : Nat) : Int) := by
  rw [IntKind.wrap_u64]
  by_cases hn : 0 ≤ n
  · have e : n % 18446744073709551616 = ((n.toNat : Nat) : Int) := by omega
    rw [e, show (9223372036854775808 : Int) = ((9223372036854775808 : Nat) : Int) from rfl, bits_xor_u64_nat _ _ (by omega) (by decide), xor_low _ (by omega)]
    omega
  · have e : n % 18446744073709551616 = (((n + 9223372036854775808).toNat + 9223372036854775808 : Nat) : Int) := by omega
    rw [e, show (9223372036854775808 : Int) = ((9223372036854775808 : Nat) : Int) from rfl, bits_xor_u64_nat _ _ (by omega) (by decide), ← xor_low _ (by omega), Nat.xor_assoc, Nat.xor_self, Nat.xor_zero]
set_option maxHeartbeats 4000000 in
set_option maxRecDepth 100000 in
theorem number_any (n : Int) (w : World) (h : -9223372036854775808 ≤ n ∧ n ≤ 9223372036854775807) :
    Calls Tryz.prog 65 #[.int .i64 n] w fun e w' => e = .returned (.string (BA (numK n))) ∧ Below w.heap.size w w' := by
  have hx := xor_turn n h
  obtain ⟨X, hXe⟩ : ∃ X : Nat, (n + 9223372036854775808).toNat = X := ⟨_, rfl⟩
  rw [hXe] at hx
  have hcv : ∀ (W : World) (b : Nat) (cap : Nat), W.cell? ⟨b, 0, none⟩ = some (.int .u8 ((X : Int) / 256 / 256 / 256 / 256 / 256 / 256 / 256 % 256)) → W.cell? ⟨b, 1, none⟩ = some (.int .u8 ((X : Int) / 256 / 256 / 256 / 256 / 256 / 256 % 256)) →
      W.cell? ⟨b, 2, none⟩ = some (.int .u8 ((X : Int) / 256 / 256 / 256 / 256 / 256 % 256)) → W.cell? ⟨b, 3, none⟩ = some (.int .u8 ((X : Int) / 256 / 256 / 256 / 256 % 256)) → W.cell? ⟨b, 4, none⟩ = some (.int .u8 ((X : Int) / 256 / 256 / 256 % 256)) →
      W.cell? ⟨b, 5, none⟩ = some (.int .u8 ((X : Int) / 256 / 256 % 256)) → W.cell? ⟨b, 6, none⟩ = some (.int .u8 ((X : Int) / 256 % 256)) → W.cell? ⟨b, 7, none⟩ = some (.int .u8 ((X : Int) % 256)) →
      (convert 24 9 (.slice (some ⟨b, 0, none⟩) 8 cap)).run Tryz.prog W = .ok (.string (BA (numK n))) W := fun W b cap h0 h1 h2 h3 h4 h5 h6 h7 => by
    have hu : ∀ (k : Nat) (z : Int), z = ((k % 256 : Nat) : Int) → some (Value.int .u8 z) = some (Value.int .u8 ((UInt8.ofNat (k % 256)).toNat : Int)) := fun k z hz => by
      have : ((UInt8.ofNat (k % 256)).toNat : Int) = ((k % 256 : Nat) : Int) := by rw [UInt8.toNat_ofNat']; omega
      rw [this, hz]
    have hnum : numK n = [UInt8.ofNat (X / 72057594037927936 % 256), UInt8.ofNat (X / 281474976710656 % 256), UInt8.ofNat (X / 1099511627776 % 256), UInt8.ofNat (X / 4294967296 % 256), UInt8.ofNat (X / 16777216 % 256), UInt8.ofNat (X / 65536 % 256), UInt8.ofNat (X / 256 % 256), UInt8.ofNat (X % 256)] := by
      unfold numK; rw [hXe]
    rw [hnum]
    refine run_convert_bytes_back W 24 9 5 ⟨b, 0, none⟩ cap [UInt8.ofNat (X / 72057594037927936 % 256), UInt8.ofNat (X / 281474976710656 % 256), UInt8.ofNat (X / 1099511627776 % 256), UInt8.ofNat (X / 4294967296 % 256), UInt8.ofNat (X / 16777216 % 256), UInt8.ofNat (X / 65536 % 256), UInt8.ofNat (X / 256 % 256), UInt8.ofNat (X % 256)] Tryz.underlying24 Tryz.underlying5 Tryz.underlying9 (fun j hj => ?_)
    match j, hj with
    | 0, _ => exact h0.trans (hu _ _ (by omega))
    | 1, _ => exact h1.trans (hu _ _ (by omega))
    | 2, _ => exact h2.trans (hu _ _ (by omega))
    | 3, _ => exact h3.trans (hu _ _ (by omega))
    | 4, _ => exact h4.trans (hu _ _ (by omega))
    | 5, _ => exact h5.trans (hu _ _ (by omega))
    | 6, _ => exact h6.trans (hu _ _ (by omega))
    | 7, _ => exact h7.trans (hu _ _ (by omega))
  clear h hXe
  go_enter Tryz.func65, Tryz.ntmps65
  have hmk := mk8 w
  go_wp2
  refine wp_loop_rounds 9 ?_
  rw [rounds_succ]
  go_wp2
  rw [rounds_succ]
  go_wp2
  rw [rounds_succ]
  go_wp2
  rw [rounds_succ]
  go_wp2
  rw [rounds_succ]
  go_wp2
  rw [rounds_succ]
  go_wp2
  rw [rounds_succ]
  go_wp2
  rw [rounds_succ]
  go_wp2
  rw [rounds_succ]
  go_wp2
  go_ret
  exact ⟨rfl, (Below.refl _ w).alloc (Nat.le_refl _) _⟩
end Go.Proofs.YtecnjifincahaaaGreatDoor
namespace Go.Proofs.YtecnjifincahaaaGreatDoor
open Go.Shelf Go.RowKit Go.Lib
theorem index_zero (b : UInt8) (l : BL) (h : b ≠ 0) : Lib.index (b :: l) [0] = if Lib.index l [0] == -1 then -1 else Lib.index l [0] + 1 := by
  have hp : ([0] : BL).isPrefixOf (b :: l) = false := by
    simp [List.isPrefixOf]
    exact fun e => h e.symm
  rw [Lib.index, hp]
  rfl
theorem repl_cons (b : UInt8) (h : b ≠ 0) (l : BL) : ∀ k, Lib.replaceK [0] [0, 255] k (b :: l) = b :: Lib.replaceK [0] [0, 255] k l
  | 0 => rfl
  | k + 1 => by
    rw [Lib.replaceK, Lib.replaceK, index_zero b l h]
    by_cases e : Lib.index l [0] = -1
    · rw [e]
      rfl
    · have h1 := Lib.index_ge l [0]
      have e2 : (Lib.index l [0] == -1) = false := beq_eq_false_iff_ne.2 e
      rw [e2, if_neg (show ¬ (false = true) by simp), if_neg (show ¬ (false = true) by simp)]
      have e3 : (Lib.index l [0] + 1 == -1) = false := beq_eq_false_iff_ne.2 (by omega)
      rw [e3, if_neg (show ¬ (false = true) by simp)]
      have e4 : (Lib.index l [0] + 1).toNat = (Lib.index l [0]).toNat + 1 := by omega
      rw [e4]
      simp only [List.take_succ_cons, List.length_singleton, List.drop_succ_cons, List.cons_append]
theorem repl_zero (l : BL) (k : Nat) : Lib.replaceK [0] [0, 255] (k + 1) (0 :: l) = 0 :: 255 :: Lib.replaceK [0] [0, 255] k l := by
  have hi : Lib.index (0 :: l) [0] = 0 := by
    rw [Lib.index]
    rfl
  rw [Lib.replaceK, hi]
  rfl
theorem repl_esc : ∀ l : BL, Lib.replaceK [0] [0, 255] (l.count 0) l = escK l
  | [] => rfl
  | b :: l => by
    by_cases h : b = 0
    · subst h
      rw [List.count_cons_self, repl_zero, repl_esc l]
      simp [escK]
    · rw [List.count_cons_of_ne h, repl_cons b h, repl_esc l]
      simp [escK, h]
theorem replaceAll_esc (l : BL) : Lib.replaceAll l [0] [0, 255] = escK l := by
  unfold Lib.replaceAll Lib.replace
  rw [if_neg (by decide)]
  unfold Lib.replaceNum
  rw [if_pos (Or.inl (by decide)), Lib.count_one, repl_esc]
/-- some number stands in internal/bytealg's MaxLen. -/
def ML (w : World) : Prop := ∃ m, w.cell? ⟨5, 0, none⟩ = some (.int .i64 m)
theorem ML.later {w w2 : World} (h : ML w) (hb : Below w.heap.size w w2) : ML w2 := by
  obtain ⟨m, hm⟩ := h
  exact ⟨m, bcell hb hm⟩
set_option maxRecDepth 100000 in
theorem kwritten_any (l : BL) (w : World) (hl : l.length ≤ 1000000) (hM : ML w) :
    Calls Tryz.prog 66 #[.string (BA l)] w fun e w' => e = .returned (.string (BA (writtenK l))) ∧ Below w.heap.size w w' := by
  obtain ⟨m, hm⟩ := hM
  have hsz : (BA l).size = l.length := ba_size l
  have c := Tryz.strings_ReplaceAll (BA l) ⟨#[0]⟩ ⟨#[0, 255]⟩ m w (by omega) hm (by decide) (by
    have := Lib.countB_le ⟨#[0]⟩ (by decide) (BA l).size (BA l) (Nat.le_refl _)
    rw [show (⟨#[0, 255]⟩ : ByteArray).size = 2 from rfl]
    omega)
  rw [show (⟨#[0]⟩ : ByteArray).data.toList = [0] from rfl, show (⟨#[0, 255]⟩ : ByteArray).data.toList = [0, 255] from rfl, show (BA l).data.toList = l by simp, replaceAll_esc] at c
  obtain ⟨E, hE⟩ : ∃ E, BA (escK l) = E := ⟨_, rfl⟩
  have hEs : E.size ≤ 2000000 := by rw [← hE, ba_size]; have := (escK_le l).2; omega
  have hfin : E ++ (⟨#[0, 1]⟩ : ByteArray) = BA (writtenK l) := by
    rw [← ba_list (E ++ (⟨#[0, 1]⟩ : ByteArray)), app_list, ← hE]
    unfold writtenK
    simp
  change Calls _ _ _ _ (fun e w' => e = .returned (.string (BA (escK l))) ∧ Below w.heap.size w w') at c
  rw [hE] at c
  have g : ¬ 9223372036854775807 < E.size + 2 := by omega
  have HF := Lib.hid hfin
  clear hm hsz hfin hE hl
  go_enter Tryz.func66, Tryz.ntmps66
  go_wp2_with fail
  refine c.mono ?_
  rintro e w1 ⟨rfl, hb1⟩
  have HB := Lib.hid hb1
  clear hb1 c
  go_wp2
  go_ret
  exact ⟨by rw [HF.out]; rfl, HB.out⟩
set_option maxHeartbeats 2000000 in
set_option maxRecDepth 100000 in
theorem lwritten_any (l : BL) (w : World) (hl : l.length ≤ 1000000) :
    Calls Tryz.prog 52 #[.string (BA l)] w fun e w' => e = .returned (.string (BA (writtenK l))) ∧ Below w.heap.size w w' := by
  obtain ⟨s, hs⟩ : ∃ s, BA l = s := ⟨_, rfl⟩
  have hsz : s.size = l.length := by rw [← hs, ba_size]
  have hsl : s.data.toList = l := by rw [← hs]
  rw [hs]
  have HS := Lib.hid hsl
  clear hs hsl
  go_enter Tryz.func52, Tryz.ntmps52
  go_wp2
  go_loopg [3, 4] s.size (fun gk ov iv wr => ∃ (pos : Nat) (O : ByteArray), gk + pos = s.size ∧ iv = .int .i64 pos ∧ ov = .string O ∧ O = BA (escK (l.take pos)) ∧ wr = w)
  case atStart => exact ⟨0, ⟨#[]⟩, rfl, rfl, rfl, rfl, rfl⟩
  case round =>
    obtain ⟨pos, O, hg, rfl, rfl, hO, rfl⟩ := hrel
    have hOs : O.size ≤ 2000000 := by
      rw [hO, ba_size]
      have := (escK_le (l.take pos)).2
      rw [List.length_take] at this
      omega
    have HO := Lib.hid (And.intro hO (And.intro hsz hl))
    clear hO hsz hl
    by_cases hp : pos < s.size
    · have hpz : (pos : Int) < (s.size : Int) := by omega
      have hple : (pos : Int) ≤ (s.size : Int) := by omega
      have hwK : IntKind.i64.wrap ((pos : Int) + 1) = ((pos + 1 : Nat) : Int) := by have := HO.out.2; rw [IntWalk.i64_in _ (by omega)]; omega
      have hb1 : ((pos + 1 : Nat) : Int) ≤ (s.size : Int) := by omega
      have hb2 : (pos : Int) ≤ ((pos + 1 : Nat) : Int) := by omega
      obtain ⟨Y, hY⟩ : ∃ Y, s.extract pos (pos + 1) = Y := ⟨_, rfl⟩
      have hYs : Y.size ≤ 1 := by rw [← hY, ByteArray.size_extract]; omega
      have g1 : ¬ 9223372036854775807 < O.size + Y.size := by omega
      have g2 : ¬ 9223372036854775807 < O.size + Y.size + 1 := by omega
      have hpl : pos < l.length := by have := HO.out.2.1; omega
      have hYl : Y.data.toList = [l[pos]] := by
        rw [← hY, piece_ba s pos 1 (by omega), HS.out, List.drop_eq_getElem_cons hpl]
        rfl
      obtain ⟨x, hx⟩ : ∃ x, s[pos]'hp = x := ⟨_, rfl⟩
      have hxl : l[pos] = x := by
        rw [← hx]
        have h1 : s[pos]'hp = s.data.toList[pos]'(by rw [← size_eq]; exact hp) := rfl
        rw [h1]
        simp only [HS.out]
      have hnext : ∀ e, escK [x] = e → e = escK [x] → escK (l.take (pos + 1)) = escK (l.take pos) ++ escK [x] := fun e _ _ => by
        rw [← List.take_append_getElem hpl, escK_append, hxl]
      have HN := Lib.hid (And.intro (hnext _ rfl rfl) (hYl.trans (by rw [hxl])))
      clear hnext hYl hxl hpl
      by_cases hz : x = 0
      · subst hz
        clear hYs
        go_wp2
        go_roundg (gk - 1)
        case rel =>
          refine ⟨pos + 1, O ++ Y ++ (⟨#[255]⟩ : ByteArray), by omega, rfl, rfl, ?_, rfl⟩
          rw [HN.out.1, HO.out.1, ← ba_list (BA (escK (l.take pos)) ++ Y ++ (⟨#[255]⟩ : ByteArray)), app_list, app_list, HN.out.2]
          simp [escK]
        case measure => omega
      · have hxn : (x.toNat == 0) = false := by
          rw [beq_eq_false_iff_ne]
          exact fun e => hz (UInt8.toNat_inj.1 e)
        have hxz : ((x.toNat : Int) == 0) = false := by
          rw [beq_eq_false_iff_ne] at hxn ⊢
          omega
        clear hYs
        go_wp2
        go_roundg (gk - 1)
        case rel =>
          refine ⟨pos + 1, O ++ Y, by omega, rfl, rfl, ?_, rfl⟩
          rw [HN.out.1, HO.out.1, ← ba_list (BA (escK (l.take pos)) ++ Y), app_list, HN.out.2]
          simp [escK, hz]
        case measure => omega
    · have hpz : ¬ (pos : Int) < (s.size : Int) := by omega
      have g2 : ¬ 9223372036854775807 < O.size + 2 := by omega
      have hpe : l.take pos = l := List.take_of_length_le (by have := HO.out.2.1; omega)
      have HP := Lib.hid hpe
      clear hpe
      go_wp2
      go_ret
      refine ⟨?_, Below.refl _ _⟩
      have hfin : O ++ (⟨#[0, 1]⟩ : ByteArray) = BA (writtenK l) := by
        rw [← ba_list (O ++ (⟨#[0, 1]⟩ : ByteArray)), app_list, HO.out.1, HP.out]
        unfold writtenK
        simp
      rw [hfin]
      rfl
end Go.Proofs.YtecnjifincahaaaGreatDoor
namespace Go.Proofs.YtecnjifincahaaaGreatDoor
open Go.Shelf Go.RowKit Go.Lib
/-- called with a value of these cells, a function answers the value's key. -/
def PutC (f : FuncId) (w : World) (v : V) (c : List Value) : Prop := Calls Tryz.prog f #[.agg c.toArray] w fun e w' => e = .returned (.string (BA (keyL v))) ∧ Below w.heap.size w w'
/-- a value's five cells, by their kinds. -/
theorem VAt.shape {S : Nat → Prop} {w : World} {v : V} {c : List Value} (h : VAt S w v c) : ∃ k n s p1 l1 c1 p2 l2 c2, c = [.int .i64 k, .int .i64 n, .string s, .slice p1 l1 c1, .slice p2 l2 c2] := by
  cases h with
  | list l cs sl h hr =>
    rcases hr.2 with ⟨_, rfl⟩ | ⟨b, cap, rfl, _⟩ <;> exact ⟨_, _, _, _, _, _, _, _, _, rfl⟩
  | obj l cs sl h hr =>
    rcases hr.2 with ⟨_, rfl⟩ | ⟨b, cap, rfl, _⟩ <;> exact ⟨_, _, _, _, _, _, _, _, _, rfl⟩
  | _ => exact ⟨_, _, _, _, _, _, _, _, _, rfl⟩
set_option maxHeartbeats 4000000 in
set_option maxRecDepth 100000 in
theorem kput_null (w : World) : PutC 41 w .null [.int .i64 0, .int .i64 0, .string ⟨#[]⟩, .slice none 0 0, .slice none 0 0] := by
  unfold PutC keyL
  obtain ⟨P, hP⟩ : ∃ P, w.heap.size = P := ⟨_, rfl⟩
  obtain ⟨WA, hWA⟩ : ∃ WA, w.alloc (.cells #[.int .i64 0, .int .i64 0, .string ⟨#[]⟩, .slice none 0 0, .slice none 0 0] 40) = WA := ⟨_, rfl⟩
  have hsA : WA.heap.size = P + 1 := by rw [← hWA, ← hP]; simp
  have hblk : Blk WA P 40 [.int .i64 0, .int .i64 0, .string ⟨#[]⟩, .slice none 0 0, .slice none 0 0] := by rw [← hWA, ← hP]; exact heap_alloc_new w _
  have hB0 : BH (P + 1) (P + 1) [] (WA.alloc (.cells #[.pointer none, .slice none 0 0] 126)) := by rw [← hsA]; exact Lib.IsBuilderF.of (Lib.fresh_isBuilder _ _ WA)
  have hbA : Below w.heap.size w (WA.alloc (.cells #[.pointer none, .slice none 0 0] 126)) := by
    rw [← hWA]; exact ((Below.refl _ w).alloc (Nat.le_refl _) _).alloc (by simp) _
  have hblk2 := hblk.alloc (.cells #[.pointer none, .slice none 0 0] 126)
  have hsz2 : (WA.alloc (.cells #[.pointer none, .slice none 0 0] 126)).heap.size = P + 2 := by simp [hsA]
  obtain ⟨W0, hW0⟩ : ∃ W0, WA.alloc (.cells #[.pointer none, .slice none 0 0] 126) = W0 := ⟨_, rfl⟩
  rw [hW0] at hB0 hbA hblk2 hsz2
  have H0 := Lib.hid (And.intro hWA (And.intro hP (And.intro hsA (And.intro hW0 (And.intro hB0 (And.intro hbA (And.intro hblk2 hsz2)))))))
  clear hWA hP hsA hW0 hB0 hbA hblk hblk2 hsz2
  go_enter Tryz.func41, Tryz.ntmps41
  go_wp2_with fail
  rw [H0.out.1]
  rw [H0.out.2.1]
  rw [H0.out.2.2.2.1]
  refine (bh_byte (P + 1) (P + 1) [] 1 _ H0.out.2.2.2.2.1 (by simp) (by rw [H0.out.2.2.2.2.2.2.2]; omega)).mono ?_
  rintro e w1 ⟨rfl, h1, hb1⟩
  have hv1 : Blk w1 P 40 [.int .i64 0, .int .i64 0, .string ⟨#[]⟩, .slice none 0 0, .slice none 0 0] := (hb1.block P (by omega)).trans H0.out.2.2.2.2.2.2.1
  have c0 := hv1.cell 0
  have c1 := hv1.cell 1
  have c2 := hv1.cell 2
  have c3 := hv1.cell 3
  have c4 := hv1.cell 4
  have H1 := Lib.hid (And.intro h1 (And.intro (H0.out.2.2.2.2.2.1.trans (hb1.mono (by have := H0.out.2.1; omega))) (by have := hb1.size; have := H0.out.2.2.2.2.2.2.2; omega : P + 2 ≤ w1.heap.size)))
  clear h1 hb1 hv1
  go_wp2_with fail
  refine (bh_get (P + 1) (P + 1) _ _ H1.out.1 (by have := H1.out.2.2; omega)).mono ?_
  rintro e wz ⟨rfl, hbz⟩
  have HZ := Lib.hid (H1.out.2.1.trans (hbz.mono (by have := H0.out.2.1; omega)))
  clear hbz
  go_wp2
  go_ret
  exact ⟨rfl, HZ.out⟩
set_option maxHeartbeats 4000000 in
set_option maxRecDepth 100000 in
theorem kput_bool (n : Int) (hn : 0 ≤ n ∧ n < 256) (w : World) : PutC 41 w (.bool n) [.int .i64 1, .int .i64 n, .string ⟨#[]⟩, .slice none 0 0, .slice none 0 0] := by
  unfold PutC keyL
  obtain ⟨x, hx⟩ : ∃ x : UInt8, UInt8.ofNat n.toNat = x := ⟨_, rfl⟩
  have hxn : n = (x.toNat : Int) := by rw [← hx, UInt8.toNat_ofNat']; omega
  rw [hx]
  subst hxn
  clear hx hn
  have hw : IntKind.u8.wrap (x.toNat : Int) = (x.toNat : Int) := by have := x.toNat_lt; simp [IntKind.wrap, IntKind.bits, IntKind.signed]; omega
  have hw2 : (x.toNat : Int) % 256 = (x.toNat : Int) := by have := x.toNat_lt; omega
  obtain ⟨P, hP⟩ : ∃ P, w.heap.size = P := ⟨_, rfl⟩
  obtain ⟨WA, hWA⟩ : ∃ WA, w.alloc (.cells #[.int .i64 1, .int .i64 (x.toNat : Int), .string ⟨#[]⟩, .slice none 0 0, .slice none 0 0] 40) = WA := ⟨_, rfl⟩
  have hsA : WA.heap.size = P + 1 := by rw [← hWA, ← hP]; simp
  have hblk : Blk WA P 40 [.int .i64 1, .int .i64 (x.toNat : Int), .string ⟨#[]⟩, .slice none 0 0, .slice none 0 0] := by rw [← hWA, ← hP]; exact heap_alloc_new w _
  have hB0 : BH (P + 1) (P + 1) [] (WA.alloc (.cells #[.pointer none, .slice none 0 0] 126)) := by rw [← hsA]; exact Lib.IsBuilderF.of (Lib.fresh_isBuilder _ _ WA)
  have hbA : Below w.heap.size w (WA.alloc (.cells #[.pointer none, .slice none 0 0] 126)) := by
    rw [← hWA]; exact ((Below.refl _ w).alloc (Nat.le_refl _) _).alloc (by simp) _
  have hblk2 := hblk.alloc (.cells #[.pointer none, .slice none 0 0] 126)
  have hsz2 : (WA.alloc (.cells #[.pointer none, .slice none 0 0] 126)).heap.size = P + 2 := by simp [hsA]
  obtain ⟨W0, hW0⟩ : ∃ W0, WA.alloc (.cells #[.pointer none, .slice none 0 0] 126) = W0 := ⟨_, rfl⟩
  rw [hW0] at hB0 hbA hblk2 hsz2
  have H0 := Lib.hid (And.intro hWA (And.intro hP (And.intro hsA (And.intro hW0 (And.intro hB0 (And.intro hbA (And.intro hblk2 hsz2)))))))
  clear hWA hP hsA hW0 hB0 hbA hblk hblk2 hsz2
  go_enter Tryz.func41, Tryz.ntmps41
  go_wp2_with fail
  rw [H0.out.1]
  rw [H0.out.2.1]
  rw [H0.out.2.2.2.1]
  refine (bh_byte (P + 1) (P + 1) [] 2 _ H0.out.2.2.2.2.1 (by simp) (by rw [H0.out.2.2.2.2.2.2.2]; omega)).mono ?_
  rintro e w1 ⟨rfl, h1, hb1⟩
  have hv1 : Blk w1 P 40 [.int .i64 1, .int .i64 (x.toNat : Int), .string ⟨#[]⟩, .slice none 0 0, .slice none 0 0] := (hb1.block P (by omega)).trans H0.out.2.2.2.2.2.2.1
  have c0 := hv1.cell 0
  have c1 := hv1.cell 1
  have c2 := hv1.cell 2
  have c3 := hv1.cell 3
  have c4 := hv1.cell 4
  have H1 := Lib.hid (And.intro h1 (And.intro (H0.out.2.2.2.2.2.1.trans (hb1.mono (by have := H0.out.2.1; omega))) (by have := hb1.size; have := H0.out.2.2.2.2.2.2.2; omega : P + 2 ≤ w1.heap.size)))
  clear h1 hb1 hv1
  go_wp2_with fail
  refine (bh_byte (P + 1) (P + 1) _ x _ H1.out.1 (by simp) (by have := H1.out.2.2; omega)).mono ?_
  rintro e w2 ⟨rfl, h_w2, hb_w2⟩
  have Hw2 := Lib.hid (And.intro h_w2 (And.intro (H1.out.2.1.trans (hb_w2.mono (by have := H0.out.2.1; omega))) (by have := hb_w2.size; have := H1.out.2.2; omega : P + 2 ≤ w2.heap.size)))
  clear h_w2 hb_w2
  clear c0 c1 c2 c3 c4
  go_wp2_with fail
  refine (bh_get (P + 1) (P + 1) _ _ Hw2.out.1 (by have := Hw2.out.2.2; omega)).mono ?_
  rintro e wz ⟨rfl, hbz⟩
  have HZ := Lib.hid (Hw2.out.2.1.trans (hbz.mono (by have := H0.out.2.1; omega)))
  clear hbz
  go_wp2
  go_ret
  exact ⟨rfl, HZ.out⟩
set_option maxHeartbeats 4000000 in
set_option maxRecDepth 100000 in
theorem kput_int (n : Int) (hn : -9223372036854775808 ≤ n ∧ n ≤ 9223372036854775807) (w : World) : PutC 41 w (.int n) [.int .i64 2, .int .i64 n, .string ⟨#[]⟩, .slice none 0 0, .slice none 0 0] := by
  unfold PutC keyL
  have HN := Lib.hid hn
  clear hn
  obtain ⟨P, hP⟩ : ∃ P, w.heap.size = P := ⟨_, rfl⟩
  obtain ⟨WA, hWA⟩ : ∃ WA, w.alloc (.cells #[.int .i64 2, .int .i64 n, .string ⟨#[]⟩, .slice none 0 0, .slice none 0 0] 40) = WA := ⟨_, rfl⟩
  have hsA : WA.heap.size = P + 1 := by rw [← hWA, ← hP]; simp
  have hblk : Blk WA P 40 [.int .i64 2, .int .i64 n, .string ⟨#[]⟩, .slice none 0 0, .slice none 0 0] := by rw [← hWA, ← hP]; exact heap_alloc_new w _
  have hB0 : BH (P + 1) (P + 1) [] (WA.alloc (.cells #[.pointer none, .slice none 0 0] 126)) := by rw [← hsA]; exact Lib.IsBuilderF.of (Lib.fresh_isBuilder _ _ WA)
  have hbA : Below w.heap.size w (WA.alloc (.cells #[.pointer none, .slice none 0 0] 126)) := by
    rw [← hWA]; exact ((Below.refl _ w).alloc (Nat.le_refl _) _).alloc (by simp) _
  have hblk2 := hblk.alloc (.cells #[.pointer none, .slice none 0 0] 126)
  have hsz2 : (WA.alloc (.cells #[.pointer none, .slice none 0 0] 126)).heap.size = P + 2 := by simp [hsA]
  obtain ⟨W0, hW0⟩ : ∃ W0, WA.alloc (.cells #[.pointer none, .slice none 0 0] 126) = W0 := ⟨_, rfl⟩
  rw [hW0] at hB0 hbA hblk2 hsz2
  have H0 := Lib.hid (And.intro hWA (And.intro hP (And.intro hsA (And.intro hW0 (And.intro hB0 (And.intro hbA (And.intro hblk2 hsz2)))))))
  clear hWA hP hsA hW0 hB0 hbA hblk hblk2 hsz2
  go_enter Tryz.func41, Tryz.ntmps41
  go_wp2_with fail
  rw [H0.out.1]
  rw [H0.out.2.1]
  rw [H0.out.2.2.2.1]
  refine (bh_byte (P + 1) (P + 1) [] 3 _ H0.out.2.2.2.2.1 (by simp) (by rw [H0.out.2.2.2.2.2.2.2]; omega)).mono ?_
  rintro e w1 ⟨rfl, h1, hb1⟩
  have hv1 : Blk w1 P 40 [.int .i64 2, .int .i64 n, .string ⟨#[]⟩, .slice none 0 0, .slice none 0 0] := (hb1.block P (by omega)).trans H0.out.2.2.2.2.2.2.1
  have c0 := hv1.cell 0
  have c1 := hv1.cell 1
  have c2 := hv1.cell 2
  have c3 := hv1.cell 3
  have c4 := hv1.cell 4
  have H1 := Lib.hid (And.intro h1 (And.intro (H0.out.2.2.2.2.2.1.trans (hb1.mono (by have := H0.out.2.1; omega))) (by have := hb1.size; have := H0.out.2.2.2.2.2.2.2; omega : P + 2 ≤ w1.heap.size)))
  clear h1 hb1 hv1
  go_wp2_with fail
  refine (number_any n _ HN.out).mono ?_
  rintro e w2 ⟨rfl, hb_w2⟩
  have Hw2 := Lib.hid (And.intro (H1.out.1.below hb_w2) (And.intro (H1.out.2.1.trans (hb_w2.mono H1.out.2.1.size)) (by have := hb_w2.size; have := H1.out.2.2; omega : P + 2 ≤ w2.heap.size)))
  clear hb_w2
  clear c0 c1 c2 c3 c4
  go_wp2_with fail
  refine (bh_str (P + 1) (P + 1) _ (BA (numK n)) _ Hw2.out.1 (by rw [ba_size]; simp [numK]) (by have := Hw2.out.2.2; omega)).mono ?_
  rintro e w3 ⟨rfl, h_w3, hb_w3⟩
  have Hw3 := Lib.hid (And.intro h_w3 (And.intro (Hw2.out.2.1.trans (hb_w3.mono (by have := H0.out.2.1; omega))) (by have := hb_w3.size; have := Hw2.out.2.2; omega : P + 2 ≤ w3.heap.size)))
  clear h_w3 hb_w3
  go_wp2_with fail
  refine (bh_get (P + 1) (P + 1) _ _ Hw3.out.1 (by have := Hw3.out.2.2; omega)).mono ?_
  rintro e wz ⟨rfl, hbz⟩
  have HZ := Lib.hid (Hw3.out.2.1.trans (hbz.mono (by have := H0.out.2.1; omega)))
  clear hbz
  go_wp2
  go_ret
  exact ⟨rfl, HZ.out⟩
set_option maxHeartbeats 4000000 in
set_option maxRecDepth 100000 in
theorem kput_text (s : BL) (hs : s.length ≤ 1000000) (w : World) (hM : ML w) : PutC 41 w (.text s) [.int .i64 3, .int .i64 0, .string (BA s), .slice none 0 0, .slice none 0 0] := by
  unfold PutC keyL
  have HN := Lib.hid (And.intro hs hM)
  clear hs hM
  obtain ⟨P, hP⟩ : ∃ P, w.heap.size = P := ⟨_, rfl⟩
  obtain ⟨WA, hWA⟩ : ∃ WA, w.alloc (.cells #[.int .i64 3, .int .i64 0, .string (BA s), .slice none 0 0, .slice none 0 0] 40) = WA := ⟨_, rfl⟩
  have hsA : WA.heap.size = P + 1 := by rw [← hWA, ← hP]; simp
  have hblk : Blk WA P 40 [.int .i64 3, .int .i64 0, .string (BA s), .slice none 0 0, .slice none 0 0] := by rw [← hWA, ← hP]; exact heap_alloc_new w _
  have hB0 : BH (P + 1) (P + 1) [] (WA.alloc (.cells #[.pointer none, .slice none 0 0] 126)) := by rw [← hsA]; exact Lib.IsBuilderF.of (Lib.fresh_isBuilder _ _ WA)
  have hbA : Below w.heap.size w (WA.alloc (.cells #[.pointer none, .slice none 0 0] 126)) := by
    rw [← hWA]; exact ((Below.refl _ w).alloc (Nat.le_refl _) _).alloc (by simp) _
  have hblk2 := hblk.alloc (.cells #[.pointer none, .slice none 0 0] 126)
  have hsz2 : (WA.alloc (.cells #[.pointer none, .slice none 0 0] 126)).heap.size = P + 2 := by simp [hsA]
  obtain ⟨W0, hW0⟩ : ∃ W0, WA.alloc (.cells #[.pointer none, .slice none 0 0] 126) = W0 := ⟨_, rfl⟩
  rw [hW0] at hB0 hbA hblk2 hsz2
  have H0 := Lib.hid (And.intro hWA (And.intro hP (And.intro hsA (And.intro hW0 (And.intro hB0 (And.intro hbA (And.intro hblk2 hsz2)))))))
  clear hWA hP hsA hW0 hB0 hbA hblk hblk2 hsz2
  go_enter Tryz.func41, Tryz.ntmps41
  go_wp2_with fail
  rw [H0.out.1]
  rw [H0.out.2.1]
  rw [H0.out.2.2.2.1]
  refine (bh_byte (P + 1) (P + 1) [] 4 _ H0.out.2.2.2.2.1 (by simp) (by rw [H0.out.2.2.2.2.2.2.2]; omega)).mono ?_
  rintro e w1 ⟨rfl, h1, hb1⟩
  have hv1 : Blk w1 P 40 [.int .i64 3, .int .i64 0, .string (BA s), .slice none 0 0, .slice none 0 0] := (hb1.block P (by omega)).trans H0.out.2.2.2.2.2.2.1
  have c0 := hv1.cell 0
  have c1 := hv1.cell 1
  have c2 := hv1.cell 2
  have c3 := hv1.cell 3
  have c4 := hv1.cell 4
  have H1 := Lib.hid (And.intro h1 (And.intro (H0.out.2.2.2.2.2.1.trans (hb1.mono (by have := H0.out.2.1; omega))) (by have := hb1.size; have := H0.out.2.2.2.2.2.2.2; omega : P + 2 ≤ w1.heap.size)))
  clear h1 hb1 hv1
  go_wp2_with fail
  refine (kwritten_any s _ HN.out.1 (HN.out.2.later H1.out.2.1)).mono ?_
  rintro e w2 ⟨rfl, hb_w2⟩
  have Hw2 := Lib.hid (And.intro (H1.out.1.below hb_w2) (And.intro (H1.out.2.1.trans (hb_w2.mono H1.out.2.1.size)) (by have := hb_w2.size; have := H1.out.2.2; omega : P + 2 ≤ w2.heap.size)))
  clear hb_w2
  clear c0 c1 c2 c3 c4
  go_wp2_with fail
  refine (bh_str (P + 1) (P + 1) _ (BA (writtenK s)) _ Hw2.out.1 (by rw [ba_size]; have := (escK_le s).2; have := HN.out.1; simp [writtenK]; omega) (by have := Hw2.out.2.2; omega)).mono ?_
  rintro e w3 ⟨rfl, h_w3, hb_w3⟩
  have Hw3 := Lib.hid (And.intro h_w3 (And.intro (Hw2.out.2.1.trans (hb_w3.mono (by have := H0.out.2.1; omega))) (by have := hb_w3.size; have := Hw2.out.2.2; omega : P + 2 ≤ w3.heap.size)))
  clear h_w3 hb_w3
  go_wp2_with fail
  refine (bh_get (P + 1) (P + 1) _ _ Hw3.out.1 (by have := Hw3.out.2.2; omega)).mono ?_
  rintro e wz ⟨rfl, hbz⟩
  have HZ := Lib.hid (Hw3.out.2.1.trans (hbz.mono (by have := H0.out.2.1; omega)))
  clear hbz
  go_wp2
  go_ret
  exact ⟨rfl, HZ.out⟩
end Go.Proofs.YtecnjifincahaaaGreatDoor
namespace Go.Proofs.YtecnjifincahaaaGreatDoor
open Go.Shelf Go.RowKit Go.Lib
/-- what is called with a value within reach answers its key. -/
def PutH (f : FuncId) (x : V) : Prop := ∀ (S : Nat → Prop) (w : World) (c : List Value), VAt S w x c → ML w → (keyL x).length ≤ 1000000 → PutC f w x c
set_option maxHeartbeats 4000000 in
set_option maxRecDepth 100000 in
theorem kput_list0 (w : World) : PutC 41 w (.list []) [.int .i64 4, .int .i64 0, .string ⟨#[]⟩, .slice none 0 0, .slice none 0 0] := by
  unfold PutC keyL keysL
  obtain ⟨P, hP⟩ : ∃ P, w.heap.size = P := ⟨_, rfl⟩
  obtain ⟨WA, hWA⟩ : ∃ WA, w.alloc (.cells #[.int .i64 4, .int .i64 0, .string ⟨#[]⟩, .slice none 0 0, .slice none 0 0] 40) = WA := ⟨_, rfl⟩
  have hsA : WA.heap.size = P + 1 := by rw [← hWA, ← hP]; simp
  have hblk : Blk WA P 40 [.int .i64 4, .int .i64 0, .string ⟨#[]⟩, .slice none 0 0, .slice none 0 0] := by rw [← hWA, ← hP]; exact heap_alloc_new w _
  have hB0 : BH (P + 1) (P + 1) [] (WA.alloc (.cells #[.pointer none, .slice none 0 0] 126)) := by rw [← hsA]; exact Lib.IsBuilderF.of (Lib.fresh_isBuilder _ _ WA)
  have hbA : Below w.heap.size w (WA.alloc (.cells #[.pointer none, .slice none 0 0] 126)) := by
    rw [← hWA]; exact ((Below.refl _ w).alloc (Nat.le_refl _) _).alloc (by simp) _
  have hblk2 := hblk.alloc (.cells #[.pointer none, .slice none 0 0] 126)
  have hsz2 : (WA.alloc (.cells #[.pointer none, .slice none 0 0] 126)).heap.size = P + 2 := by simp [hsA]
  obtain ⟨W0, hW0⟩ : ∃ W0, WA.alloc (.cells #[.pointer none, .slice none 0 0] 126) = W0 := ⟨_, rfl⟩
  rw [hW0] at hB0 hbA hblk2 hsz2
  have H0 := Lib.hid (And.intro hWA (And.intro hP (And.intro hsA (And.intro hW0 (And.intro hB0 (And.intro hbA (And.intro hblk2 hsz2)))))))
  clear hWA hP hsA hW0 hB0 hbA hblk hblk2 hsz2
  go_enter Tryz.func41, Tryz.ntmps41
  go_wp2_with fail
  rw [H0.out.1]
  rw [H0.out.2.1]
  rw [H0.out.2.2.2.1]
  refine (bh_byte (P + 1) (P + 1) [] 5 _ H0.out.2.2.2.2.1 (by simp) (by rw [H0.out.2.2.2.2.2.2.2]; omega)).mono ?_
  rintro e w1 ⟨rfl, h1, hb1⟩
  have hv1 : Blk w1 P 40 [.int .i64 4, .int .i64 0, .string ⟨#[]⟩, .slice none 0 0, .slice none 0 0] := (hb1.block P (by omega)).trans H0.out.2.2.2.2.2.2.1
  have c0 := hv1.cell 0
  have c1 := hv1.cell 1
  have c2 := hv1.cell 2
  have c3 := hv1.cell 3
  have c4 := hv1.cell 4
  have H1 := Lib.hid (And.intro h1 (And.intro (H0.out.2.2.2.2.2.1.trans (hb1.mono (by have := H0.out.2.1; omega))) (by have := hb1.size; have := H0.out.2.2.2.2.2.2.2; omega : P + 2 ≤ w1.heap.size)))
  clear h1 hb1 hv1
  go_wp2_with fail
  refine wp_loop_rounds 1 ?_
  rw [rounds_succ]
  clear c0 c1 c2 c3 c4
  go_wp2_with fail
  refine (bh_str (P + 1) (P + 1) _ ⟨#[0]⟩ _ H1.out.1 (by decide) (by have := H1.out.2.2; omega)).mono ?_
  rintro e w3 ⟨rfl, h_w3, hb_w3⟩
  have Hw3 := Lib.hid (And.intro h_w3 (And.intro (H1.out.2.1.trans (hb_w3.mono (by have := H0.out.2.1; omega))) (by have := hb_w3.size; have := H1.out.2.2; omega : P + 2 ≤ w3.heap.size)))
  clear h_w3 hb_w3
  go_wp2_with fail
  refine (bh_get (P + 1) (P + 1) _ _ Hw3.out.1 (by have := Hw3.out.2.2; omega)).mono ?_
  rintro e wz ⟨rfl, hbz⟩
  have HZ := Lib.hid (Hw3.out.2.1.trans (hbz.mono (by have := H0.out.2.1; omega)))
  clear hbz
  go_wp2
  go_ret
  exact ⟨rfl, HZ.out⟩
set_option maxHeartbeats 4000000 in
set_option maxRecDepth 100000 in
theorem kput_list (l : List V) (cs : List Value) (b cap : Nat) (S : Nat → Prop) (w : World) (hV : VsAt S w l cs) (hr : ∀ k u, cs[k]? = some u → w.cell? ⟨b, k, none⟩ = some u) (hln : l.length ≤ 1000000) (hM : ML w)
    (hlen : (keysL l).length ≤ 1000000) (ih : ∀ x ∈ l, PutH 41 x) : PutC 41 w (.list l) [.int .i64 4, .int .i64 0, .string ⟨#[]⟩, .slice (some ⟨b, 0, none⟩) l.length cap, .slice none 0 0] := by
  have HV := Lib.hid (And.intro hV (And.intro hr (And.intro hM (And.intro hlen ih))))
  clear hV hr hM hlen ih
  unfold PutC keyL
  obtain ⟨P, hP⟩ : ∃ P, w.heap.size = P := ⟨_, rfl⟩
  obtain ⟨WA, hWA⟩ : ∃ WA, w.alloc (.cells #[.int .i64 4, .int .i64 0, .string ⟨#[]⟩, .slice (some ⟨b, 0, none⟩) l.length cap, .slice none 0 0] 40) = WA := ⟨_, rfl⟩
  have hsA : WA.heap.size = P + 1 := by rw [← hWA, ← hP]; simp
  have hblk : Blk WA P 40 [.int .i64 4, .int .i64 0, .string ⟨#[]⟩, .slice (some ⟨b, 0, none⟩) l.length cap, .slice none 0 0] := by rw [← hWA, ← hP]; exact heap_alloc_new w _
  have hB0 : BH (P + 1) (P + 1) [] (WA.alloc (.cells #[.pointer none, .slice none 0 0] 126)) := by rw [← hsA]; exact Lib.IsBuilderF.of (Lib.fresh_isBuilder _ _ WA)
  have hbA : Below w.heap.size w (WA.alloc (.cells #[.pointer none, .slice none 0 0] 126)) := by
    rw [← hWA]; exact ((Below.refl _ w).alloc (Nat.le_refl _) _).alloc (by simp) _
  have hblk2 := hblk.alloc (.cells #[.pointer none, .slice none 0 0] 126)
  have hsz2 : (WA.alloc (.cells #[.pointer none, .slice none 0 0] 126)).heap.size = P + 2 := by simp [hsA]
  obtain ⟨W0, hW0⟩ : ∃ W0, WA.alloc (.cells #[.pointer none, .slice none 0 0] 126) = W0 := ⟨_, rfl⟩
  rw [hW0] at hB0 hbA hblk2 hsz2
  have H0 := Lib.hid (And.intro hWA (And.intro hP (And.intro hsA (And.intro hW0 (And.intro hB0 (And.intro hbA (And.intro hblk2 hsz2)))))))
  clear hWA hP hsA hW0 hB0 hbA hblk hblk2 hsz2
  go_enter Tryz.func41, Tryz.ntmps41
  go_wp2_with fail
  rw [H0.out.1]
  rw [H0.out.2.1]
  rw [H0.out.2.2.2.1]
  refine (bh_byte (P + 1) (P + 1) [] 5 _ H0.out.2.2.2.2.1 (by simp) (by rw [H0.out.2.2.2.2.2.2.2]; omega)).mono ?_
  rintro e w1 ⟨rfl, h1, hb1⟩
  have hv1 : Blk w1 P 40 [.int .i64 4, .int .i64 0, .string ⟨#[]⟩, .slice (some ⟨b, 0, none⟩) l.length cap, .slice none 0 0] := (hb1.block P (by omega)).trans H0.out.2.2.2.2.2.2.1
  have c0 := hv1.cell 0
  have c1 := hv1.cell 1
  have c2 := hv1.cell 2
  have c3 := hv1.cell 3
  have c4 := hv1.cell 4
  have H1 := Lib.hid (And.intro h1 (And.intro (H0.out.2.2.2.2.2.1.trans (hb1.mono (by have := H0.out.2.1; omega))) (by have := hb1.size; have := H0.out.2.2.2.2.2.2.2; omega : P + 2 ≤ w1.heap.size)))
  clear h1 hb1 hv1
  go_wp2_with fail
  clear c0 c1 c2 c3 c4
  go_loopg [38] l.length (fun gk sv wr => ∃ i : Nat, gk + i = l.length ∧ sv = .int .i64 i ∧ Hid (BH (P + 1) (P + 1) (5 :: keysL (l.take i)) wr) ∧ Hid (Below w.heap.size w wr) ∧ P + 2 ≤ wr.heap.size)
  case atStart => exact ⟨0, by omega, rfl, H1.out.1, H1.out.2.1, H1.out.2.2⟩
  case round =>
    obtain ⟨i, hg, rfl, HB, HW, hsr⟩ := hrel
    by_cases hi : i < l.length
    · have hiz : (i : Int) < (l.length : Int) := by omega
      have hwK : IntKind.i64.wrap ((i : Int) + 1) = ((i + 1 : Nat) : Int) := by rw [IntWalk.i64_in _ (by omega)]; omega
      obtain ⟨d0, d1, d2, d3, d4, hx, e0, e1, e2, e3, e4⟩ := HV.out.1.get i hi
      obtain ⟨q0, q1, q2, q3, q4, q5, q6, q7, q8, hq⟩ := hx.shape
      simp only [List.cons.injEq, and_true] at hq
      obtain ⟨rfl, rfl, rfl, rfl, rfl⟩ := hq
      have k0 := bcell HW.out (HV.out.2.1 _ _ e0)
      have k1 := bcell HW.out (HV.out.2.1 _ _ e1)
      have k2 := bcell HW.out (HV.out.2.1 _ _ e2)
      have k3 := bcell HW.out (HV.out.2.1 _ _ e3)
      have k4 := bcell HW.out (HV.out.2.1 _ _ e4)
      obtain ⟨x, hxe⟩ : ∃ x, l[i] = x := ⟨_, rfl⟩
      have hnext := keysL_take l i hi
      have hle := keysL_le l (i + 1)
      rw [hnext] at hle
      rw [hxe] at hx hnext hle
      have hih := HV.out.2.2.2.2 x (by rw [← hxe]; exact List.getElem_mem hi)
      obtain ⟨W3, hW3⟩ : ∃ W3, wr.alloc (.cells #[.int .i64 q0, .int .i64 q1, .string q2, .slice q3 q4 q5, .slice q6 q7 q8] 40) = W3 := ⟨_, rfl⟩
      have hb3 : Below wr.heap.size wr W3 := by rw [← hW3]; exact (Below.refl _ wr).alloc (Nat.le_refl _) _
      have HX := Lib.hid (And.intro hW3 (And.intro hb3 (And.intro ((hx.later HW.out).later hb3) (And.intro hih (And.intro hnext hle)))))
      clear hx e0 e1 e2 e3 e4 hxe hnext hle hih hW3 hb3
      go_wp2_with fail
      rw [HX.out.1]
      refine (show Calls _ _ _ _ _ from HX.out.2.2.2.1 S W3 _ HX.out.2.2.1 ((HV.out.2.2.1.later HW.out).later HX.out.2.1) (by have h1 := HX.out.2.2.2.2.2; have h2 := HV.out.2.2.2.1; rw [List.length_append] at h1; omega)).mono ?_
      rintro e w4 ⟨rfl, hb4⟩
      have HB4 := Lib.hid ((HB.out.below HX.out.2.1).below hb4)
      have hs4 : P + 2 ≤ w4.heap.size := by have := hb4.size; have := HX.out.2.1.size; omega
      have HW4 := Lib.hid ((HW.out.trans (HX.out.2.1.mono HW.out.size)).trans (hb4.mono (by have := HW.out.size; have := HX.out.2.1.size; omega)))
      clear hb4 k0 k1 k2 k3 k4
      go_wp2_with fail
      refine (bh_str (P + 1) (P + 1) _ (BA (keyL x)) w4 HB4.out (by have h1 := HX.out.2.2.2.2.2; have h2 := HV.out.2.2.2.1; rw [List.length_append] at h1; rw [ba_size, List.length_cons]; omega) (by omega)).mono ?_
      rintro e w5 ⟨rfl, h5, hb5⟩
      have HB5 := Lib.hid h5
      have HW5 := Lib.hid (HW4.out.trans (hb5.mono (by have := H0.out.2.1; omega)))
      have hs5 : P + 2 ≤ w5.heap.size := by have := hb5.size; omega
      clear h5 hb5
      go_wp2
      go_roundg (gk - 1)
      case rel =>
        refine ⟨i + 1, by omega, rfl, ?_, HW5, hs5⟩
        rw [HX.out.2.2.2.2.1]
        exact HB5
      case measure => omega
    · have hiz : ¬ (i : Int) < (l.length : Int) := by omega
      have hie : l.take i = l := List.take_of_length_le (by omega)
      rw [hie] at HB
      clear hie
      go_wp2_with fail
      refine (bh_str (P + 1) (P + 1) _ ⟨#[0]⟩ wr HB.out (by have h2 := HV.out.2.2.2.1; rw [List.length_cons, show (⟨#[0]⟩ : ByteArray).size = 1 from rfl]; omega) (by omega)).mono ?_
      rintro e w3 ⟨rfl, h3, hb3⟩
      have HB3 := Lib.hid h3
      have HW3 := Lib.hid (HW.out.trans (hb3.mono (by have := H0.out.2.1; omega)))
      have hs3 : P + 2 ≤ w3.heap.size := by have := hb3.size; omega
      clear h3 hb3
      go_wp2_with fail
      refine (bh_get (P + 1) (P + 1) _ _ HB3.out (by have := hs3; omega)).mono ?_
      rintro e wz ⟨rfl, hbz⟩
      have HZ := Lib.hid (HW3.out.trans (hbz.mono (by have := H0.out.2.1; omega)))
      clear hbz
      go_wp2
      go_ret
      exact ⟨rfl, HZ.out⟩
end Go.Proofs.YtecnjifincahaaaGreatDoor
namespace Go.Proofs.YtecnjifincahaaaGreatDoor
open Go.Shelf Go.RowKit Go.Lib
theorem bh_str2 (B b : Nat) (l : BL) (s : ByteArray) (w : World) (h : BH B b l w) (hlen : l.length + s.size ≤ 140737488355328) (hBw : B ≤ w.heap.size) :
    Calls Tryz.prog 64 #[.pointer (some ⟨b, 0, none⟩), .string s] w fun e w' => e = .returned (.tuple #[.int .i64 s.size, .nilIface]) ∧ BH B b (l ++ s.data.toList) w' ∧ Below B w w' ∧ ∀ k t cs, k ≠ b → t ≠ 5 → Blk w k t cs → Blk w' k t cs := by
  refine (b_str B b _ _ w h (by rw [Lib.byteCells_length]; exact hlen) hBw).mono ?_
  rintro e w' ⟨rfl, h1, h2, h3⟩
  exact ⟨rfl, Or.inr (by rw [Lib.byteCells_append]; exact h1), h2, fun k t cs hk ht hB => h3 k _ hB (fun e => hk (Option.some.inj e)) (fun c fz e => ht (by injection e))⟩
theorem keyL_one (v : V) : 1 ≤ (keyL v).length := by cases v <;> simp [keyL]
theorem keysL_long : ∀ l : List V, l.length ≤ (keysL l).length
  | [] => Nat.zero_le _
  | v :: l => by
    have h1 := keysL_long l
    have h2 := keyL_one v
    simp only [keysL, List.length_append, List.length_cons]
    omega
theorem fieldsL_long : ∀ l : List (BL × V), l.length ≤ (fieldsL l).length
  | [] => Nat.zero_le _
  | f :: l => by
    have h1 := fieldsL_long l
    simp only [fieldsL, fieldL_eq, List.length_append, List.length_cons]
    omega
theorem app_ba (a b : BL) : BA a ++ BA b = BA (a ++ b) := by
  rw [← ba_list (BA a ++ BA b), app_list]
set_option maxHeartbeats 8000000 in
set_option maxRecDepth 100000 in
theorem kput_obj0 (w : World) : PutC 41 w (.obj []) [.int .i64 5, .int .i64 0, .string ⟨#[]⟩, .slice none 0 0, .slice none 0 0] := by
  unfold PutC keyL fieldsL
  obtain ⟨P, hP⟩ : ∃ P, w.heap.size = P := ⟨_, rfl⟩
  obtain ⟨WA, hWA⟩ : ∃ WA, w.alloc (.cells #[.int .i64 5, .int .i64 0, .string ⟨#[]⟩, .slice none 0 0, .slice none 0 0] 40) = WA := ⟨_, rfl⟩
  have hsA : WA.heap.size = P + 1 := by rw [← hWA, ← hP]; simp
  have hblk : Blk WA P 40 [.int .i64 5, .int .i64 0, .string ⟨#[]⟩, .slice none 0 0, .slice none 0 0] := by rw [← hWA, ← hP]; exact heap_alloc_new w _
  have hB0 : BH (P + 1) (P + 1) [] (WA.alloc (.cells #[.pointer none, .slice none 0 0] 126)) := by rw [← hsA]; exact Lib.IsBuilderF.of (Lib.fresh_isBuilder _ _ WA)
  have hbA : Below w.heap.size w (WA.alloc (.cells #[.pointer none, .slice none 0 0] 126)) := by
    rw [← hWA]; exact ((Below.refl _ w).alloc (Nat.le_refl _) _).alloc (by simp) _
  have hblk2 := hblk.alloc (.cells #[.pointer none, .slice none 0 0] 126)
  have hsz2 : (WA.alloc (.cells #[.pointer none, .slice none 0 0] 126)).heap.size = P + 2 := by simp [hsA]
  obtain ⟨W0, hW0⟩ : ∃ W0, WA.alloc (.cells #[.pointer none, .slice none 0 0] 126) = W0 := ⟨_, rfl⟩
  rw [hW0] at hB0 hbA hblk2 hsz2
  have H0 := Lib.hid (And.intro hWA (And.intro hP (And.intro hsA (And.intro hW0 (And.intro hB0 (And.intro hbA (And.intro hblk2 hsz2)))))))
  clear hWA hP hsA hW0 hB0 hbA hblk hblk2 hsz2
  go_enter Tryz.func41, Tryz.ntmps41
  go_wp2_with fail
  rw [H0.out.1]
  rw [H0.out.2.1]
  rw [H0.out.2.2.2.1]
  refine (bh_byte (P + 1) (P + 1) [] 6 _ H0.out.2.2.2.2.1 (by simp) (by rw [H0.out.2.2.2.2.2.2.2]; omega)).mono ?_
  rintro e w1 ⟨rfl, h1, hb1⟩
  have hv1 : Blk w1 P 40 [.int .i64 5, .int .i64 0, .string ⟨#[]⟩, .slice none 0 0, .slice none 0 0] := (hb1.block P (by omega)).trans H0.out.2.2.2.2.2.2.1
  have c0 := hv1.cell 0
  have c1 := hv1.cell 1
  have c2 := hv1.cell 2
  have c3 := hv1.cell 3
  have c4 := hv1.cell 4
  have H1 := Lib.hid (And.intro h1 (And.intro (H0.out.2.2.2.2.2.1.trans (hb1.mono (by have := H0.out.2.1; omega))) (by have := hb1.size; have := H0.out.2.2.2.2.2.2.2; omega : P + 2 ≤ w1.heap.size)))
  clear h1 hb1 hv1
  go_wp2_with fail
  refine wp_loop_rounds 1 ?_
  rw [rounds_succ]
  clear c0 c1 c2 c3 c4
  go_wp2_with fail
  refine (bh_str (P + 1) (P + 1) _ ⟨#[0]⟩ _ H1.out.1 (by decide) (by have := H1.out.2.2; omega)).mono ?_
  rintro e w3 ⟨rfl, h_w3, hb_w3⟩
  have Hw3 := Lib.hid (And.intro h_w3 (And.intro (H1.out.2.1.trans (hb_w3.mono (by have := H0.out.2.1; omega))) (by have := hb_w3.size; have := H1.out.2.2; omega : P + 2 ≤ w3.heap.size)))
  clear h_w3 hb_w3
  go_wp2_with fail
  refine (bh_get (P + 1) (P + 1) _ _ Hw3.out.1 (by have := Hw3.out.2.2; omega)).mono ?_
  rintro e wz ⟨rfl, hbz⟩
  have HZ := Lib.hid (Hw3.out.2.1.trans (hbz.mono (by have := H0.out.2.1; omega)))
  clear hbz
  go_wp2
  go_ret
  exact ⟨rfl, HZ.out⟩
set_option maxHeartbeats 8000000 in
set_option maxRecDepth 100000 in
theorem kput_obj (l : List (BL × V)) (cs : List Value) (b cap : Nat) (S : Nat → Prop) (w : World) (hV : FsAt S w l cs) (hr : ∀ k u, cs[k]? = some u → w.cell? ⟨b, k, none⟩ = some u) (hln : l.length ≤ 1000000) (hM : ML w)
    (hlen : (fieldsL l).length ≤ 1000000) (ih : ∀ x ∈ l, PutH 41 x.2) : PutC 41 w (.obj l) [.int .i64 5, .int .i64 0, .string ⟨#[]⟩, .slice none 0 0, .slice (some ⟨b, 0, none⟩) l.length cap] := by
  have HV := Lib.hid (And.intro hV (And.intro hr (And.intro hM (And.intro hlen ih))))
  clear hV hr hM hlen ih
  unfold PutC keyL
  obtain ⟨P, hP⟩ : ∃ P, w.heap.size = P := ⟨_, rfl⟩
  obtain ⟨WA, hWA⟩ : ∃ WA, w.alloc (.cells #[.int .i64 5, .int .i64 0, .string ⟨#[]⟩, .slice none 0 0, .slice (some ⟨b, 0, none⟩) l.length cap] 40) = WA := ⟨_, rfl⟩
  have hsA : WA.heap.size = P + 1 := by rw [← hWA, ← hP]; simp
  have hblk : Blk WA P 40 [.int .i64 5, .int .i64 0, .string ⟨#[]⟩, .slice none 0 0, .slice (some ⟨b, 0, none⟩) l.length cap] := by rw [← hWA, ← hP]; exact heap_alloc_new w _
  have hB0 : BH (P + 1) (P + 1) [] (WA.alloc (.cells #[.pointer none, .slice none 0 0] 126)) := by rw [← hsA]; exact Lib.IsBuilderF.of (Lib.fresh_isBuilder _ _ WA)
  have hbA : Below w.heap.size w (WA.alloc (.cells #[.pointer none, .slice none 0 0] 126)) := by
    rw [← hWA]; exact ((Below.refl _ w).alloc (Nat.le_refl _) _).alloc (by simp) _
  have hblk2 := hblk.alloc (.cells #[.pointer none, .slice none 0 0] 126)
  have hsz2 : (WA.alloc (.cells #[.pointer none, .slice none 0 0] 126)).heap.size = P + 2 := by simp [hsA]
  obtain ⟨W0, hW0⟩ : ∃ W0, WA.alloc (.cells #[.pointer none, .slice none 0 0] 126) = W0 := ⟨_, rfl⟩
  rw [hW0] at hB0 hbA hblk2 hsz2
  have H0 := Lib.hid (And.intro hWA (And.intro hP (And.intro hsA (And.intro hW0 (And.intro hB0 (And.intro hbA (And.intro hblk2 hsz2)))))))
  clear hWA hP hsA hW0 hB0 hbA hblk hblk2 hsz2
  go_enter Tryz.func41, Tryz.ntmps41
  go_wp2_with fail
  rw [H0.out.1]
  rw [H0.out.2.1]
  rw [H0.out.2.2.2.1]
  refine (bh_byte (P + 1) (P + 1) [] 6 _ H0.out.2.2.2.2.1 (by simp) (by rw [H0.out.2.2.2.2.2.2.2]; omega)).mono ?_
  rintro e w1 ⟨rfl, h1, hb1⟩
  have hv1 : Blk w1 P 40 [.int .i64 5, .int .i64 0, .string ⟨#[]⟩, .slice none 0 0, .slice (some ⟨b, 0, none⟩) l.length cap] := (hb1.block P (by omega)).trans H0.out.2.2.2.2.2.2.1
  have c0 := hv1.cell 0
  have c1 := hv1.cell 1
  have c2 := hv1.cell 2
  have c3 := hv1.cell 3
  have c4 := hv1.cell 4
  have H1 := Lib.hid (And.intro h1 (And.intro (H0.out.2.2.2.2.2.1.trans (hb1.mono (by have := H0.out.2.1; omega))) (by have := hb1.size; have := H0.out.2.2.2.2.2.2.2; omega : P + 2 ≤ w1.heap.size)))
  clear h1 hb1 hv1
  go_wp2_with fail
  clear c0 c1 c2 c3 c4
  go_loopg [52] l.length (fun gk sv wr => ∃ i : Nat, gk + i = l.length ∧ sv = .int .i64 i ∧ Hid (BH (P + 1) (P + 1) (6 :: fieldsL (l.take i)) wr) ∧ Hid (Below w.heap.size w wr) ∧ P + 2 ≤ wr.heap.size)
  case atStart => exact ⟨0, by omega, rfl, H1.out.1, H1.out.2.1, H1.out.2.2⟩
  case round =>
    obtain ⟨i, hg, rfl, HB, HW, hsr⟩ := hrel
    by_cases hi : i < l.length
    · have hiz : (i : Int) < (l.length : Int) := by omega
      have hwK : IntKind.i64.wrap ((i : Int) + 1) = ((i + 1 : Nat) : Int) := by rw [IntWalk.i64_in _ (by omega)]; omega
      obtain ⟨d0, d1, d2, d3, d4, hx, e5, e0, e1, e2, e3, e4⟩ := HV.out.1.get i hi
      obtain ⟨q0, q1, q2, q3, q4, q5, q6, q7, q8, hq⟩ := hx.shape
      simp only [List.cons.injEq, and_true] at hq
      obtain ⟨rfl, rfl, rfl, rfl, rfl⟩ := hq
      obtain ⟨nm, hnm⟩ : ∃ nm, l[i].1 = nm := ⟨_, rfl⟩
      obtain ⟨x, hxe⟩ : ∃ x, l[i].2 = x := ⟨_, rfl⟩
      rw [hnm] at e5
      have k5 := bcell HW.out (HV.out.2.1 _ _ e5)
      have k0 := bcell HW.out (HV.out.2.1 _ _ e0)
      have k1 := bcell HW.out (HV.out.2.1 _ _ e1)
      have k2 := bcell HW.out (HV.out.2.1 _ _ e2)
      have k3 := bcell HW.out (HV.out.2.1 _ _ e3)
      have k4 := bcell HW.out (HV.out.2.1 _ _ e4)
      have hnext := fieldsL_take l i hi
      have hle := fieldsL_le l (i + 1)
      rw [hnext] at hle
      rw [hxe] at hx hnext hle
      rw [hnm] at hnext hle
      have hih := HV.out.2.2.2.2 l[i] (List.getElem_mem hi)
      rw [hxe] at hih
      have hlen := HV.out.2.2.2.1
      rw [List.length_append, List.length_cons, List.length_append] at hle
      have hwl : (writtenK nm).length = (escK nm).length + 2 := by simp [writtenK]
      have hnl : nm.length ≤ 1000000 := by have := (escK_le nm).1; omega
      have hkl : (keyL x).length ≤ 1000000 := by omega
      have hacc : (6 :: fieldsL (l.take i)).length + (1 :: (writtenK nm ++ keyL x)).length ≤ 1000001 := by simp only [List.length_cons, List.length_append]; omega
      obtain ⟨W3, hW3⟩ : ∃ W3, wr.alloc (.cells #[.string (BA nm), .int .i64 q0, .int .i64 q1, .string q2, .slice q3 q4 q5, .slice q6 q7 q8] 72) = W3 := ⟨_, rfl⟩
      have hb3 : Below wr.heap.size wr W3 := by rw [← hW3]; exact (Below.refl _ wr).alloc (Nat.le_refl _) _
      have hk3 : Blk W3 wr.heap.size 72 [.string (BA nm), .int .i64 q0, .int .i64 q1, .string q2, .slice q3 q4 q5, .slice q6 q7 q8] := by rw [← hW3]; exact heap_alloc_new wr _
      obtain ⟨N, hN⟩ : ∃ N, BA (writtenK nm) = N := ⟨_, rfl⟩
      obtain ⟨K, hK⟩ : ∃ K, BA (keyL x) = K := ⟨_, rfl⟩
      have g1 : ¬ 9223372036854775807 < 1 + N.size := by rw [← hN, ba_size]; omega
      have g2 : ¬ 9223372036854775807 < 1 + N.size + K.size := by rw [← hN, ← hK, ba_size, ba_size]; omega
      have hcat : (⟨#[1]⟩ : ByteArray) ++ N ++ K = BA (1 :: (writtenK nm ++ keyL x)) := by
        rw [← hN, ← hK, show (⟨#[1]⟩ : ByteArray) = BA [1] from rfl, app_ba, app_ba]
        rfl
      have HX := Lib.hid (And.intro hW3 (And.intro hb3 (And.intro ((hx.later HW.out).later hb3) (And.intro hih (And.intro hnext (And.intro hkl (And.intro hacc (And.intro hnl (And.intro hN (And.intro hK hcat))))))))))
      have HK := Lib.hid hk3
      have HBD := Lib.hid (BH.below (HB.out.below hb3) ((Below.refl _ W3).drew))
      have HWD := Lib.hid ((HW.out.trans (hb3.mono HW.out.size)).drew)
      have hsD : P + 2 ≤ W3.drew.heap.size := by have := hb3.size; show P + 2 ≤ W3.heap.size; omega
      have HMD := Lib.hid (ML.later HV.out.2.2.1 HWD.out)
      have HXD := Lib.hid (VAt.later (((hx.later HW.out).later hb3)) ((Below.refl _ W3).drew))
      clear hx e5 e0 e1 e2 e3 e4 hxe hnm hnext hle hih hW3 hb3 hlen hwl hkl hacc hk3 hcat hN hK hnl
      go_wp2_with fail
      rw [HX.out.1]
      clear k0 k1 k2 k3 k4 k5
      have d0 : W3.drew.cell? ⟨wr.heap.size, 0, none⟩ = some (.string (BA nm)) := HK.out.cell 0
      have d1 : W3.drew.cell? ⟨wr.heap.size, 1, none⟩ = some (.int .i64 q0) := HK.out.cell 1
      have d2 : W3.drew.cell? ⟨wr.heap.size, 2, none⟩ = some (.int .i64 q1) := HK.out.cell 2
      have d3 : W3.drew.cell? ⟨wr.heap.size, 3, none⟩ = some (.string q2) := HK.out.cell 3
      have d4 : W3.drew.cell? ⟨wr.heap.size, 4, none⟩ = some (.slice q3 q4 q5) := HK.out.cell 4
      have d5 : W3.drew.cell? ⟨wr.heap.size, 5, none⟩ = some (.slice q6 q7 q8) := HK.out.cell 5
      go_region_held3 (fun w' => w'.cell? ⟨wr.heap.size, 0, none⟩ = some (.string (BA nm)) ∧ w'.cell? ⟨wr.heap.size, 1, none⟩ = some (.int .i64 q0) ∧ w'.cell? ⟨wr.heap.size, 2, none⟩ = some (.int .i64 q1) ∧ w'.cell? ⟨wr.heap.size, 3, none⟩ = some (.string q2) ∧ w'.cell? ⟨wr.heap.size, 4, none⟩ = some (.slice q3 q4 q5) ∧ w'.cell? ⟨wr.heap.size, 5, none⟩ = some (.slice q6 q7 q8))
        (first | exact ⟨d0, d1, d2, d3, d4, d5⟩ | exact ⟨p0, p1, p2, p3, p4, p5⟩ | exact ⟨r0, r1, r2, r3, r4, r5⟩ | exact ⟨t0, t1, t2, t3, t4, t5⟩)
        (first
          | (go_at_call 66; refine (kwritten_any nm _ HX.out.2.2.2.2.2.2.2.1 HMD.out).mono ?_; rintro e w4 ⟨rfl, hb4⟩; have HB4 := Lib.hid (HBD.out.below hb4); have HW4 := Lib.hid (HWD.out.trans (hb4.mono HWD.out.size)); have HM4 := Lib.hid (HMD.out.later hb4); have HX4 := Lib.hid (HXD.out.later hb4); have hs4 : P + 2 ≤ w4.heap.size := (Nat.le_trans hsD hb4.size); have HK4 := Lib.hid (HK.out.drew.below hb4); clear hb4; have p0 := HK4.out.cell 0; have p1 := HK4.out.cell 1; have p2 := HK4.out.cell 2; have p3 := HK4.out.cell 3; have p4 := HK4.out.cell 4; have p5 := HK4.out.cell 5; rw [HX.out.2.2.2.2.2.2.2.2.1])
          | (go_at_call 41; refine (show Calls _ _ _ _ _ from HX.out.2.2.2.1 S _ _ HX4.out HM4.out HX.out.2.2.2.2.2.1).mono ?_; rintro e w5 ⟨rfl, hb5⟩; have HB5 := Lib.hid (HB4.out.below hb5); have HW5 := Lib.hid (HW4.out.trans (hb5.mono HW4.out.size)); have hs5 : P + 2 ≤ w5.heap.size := (Nat.le_trans hs4 hb5.size); have HK5 := Lib.hid (HK4.out.below hb5); clear hb5; have r0 := HK5.out.cell 0; have r1 := HK5.out.cell 1; have r2 := HK5.out.cell 2; have r3 := HK5.out.cell 3; have r4 := HK5.out.cell 4; have r5 := HK5.out.cell 5; rw [HX.out.2.2.2.2.2.2.2.2.2.1])
          | (go_at_call 64; rw [HX.out.2.2.2.2.2.2.2.2.2.2]; refine (bh_str2 (P + 1) (P + 1) _ (BA (1 :: (writtenK nm ++ keyL x))) _ HB5.out (by rw [ba_size]; have := HX.out.2.2.2.2.2.2.1; omega) (by omega)).mono ?_; rintro e w6 ⟨rfl, h6, hb6, hk6⟩; have HB6 := Lib.hid h6; have HW6 := Lib.hid (HW5.out.trans (hb6.mono (by have := H0.out.2.1; omega))); have hs6 : P + 2 ≤ w6.heap.size := (Nat.le_trans hs5 hb6.size); have HK6 := Lib.hid (hk6 _ _ _ (by omega) (by decide) HK5.out); clear h6 hb6 hk6; have t0 := HK6.out.cell 0; have t1 := HK6.out.cell 1; have t2 := HK6.out.cell 2; have t3 := HK6.out.cell 3; have t4 := HK6.out.cell 4; have t5 := HK6.out.cell 5))
      clear t0 t1 t2 t3 t4 t5 r0 r1 r2 r3 r4 r5 p0 p1 p2 p3 p4 p5 d0 d1 d2 d3 d4 d5
      go_wp2
      go_roundg (gk - 1)
      case rel =>
        refine ⟨i + 1, by omega, rfl, ?_, HW6, hs6⟩
        rw [HX.out.2.2.2.2.1]
        exact HB6
      case measure => omega
    · have hiz : ¬ (i : Int) < (l.length : Int) := by omega
      have hie : l.take i = l := List.take_of_length_le (by omega)
      rw [hie] at HB
      clear hie
      go_wp2_with fail
      refine (bh_str (P + 1) (P + 1) _ ⟨#[0]⟩ wr HB.out (by have h2 := HV.out.2.2.2.1; rw [List.length_cons, show (⟨#[0]⟩ : ByteArray).size = 1 from rfl]; omega) (by omega)).mono ?_
      rintro e w3 ⟨rfl, h3, hb3⟩
      have HB3 := Lib.hid h3
      have HW3 := Lib.hid (HW.out.trans (hb3.mono (by have := H0.out.2.1; omega)))
      have hs3 : P + 2 ≤ w3.heap.size := by have := hb3.size; omega
      clear h3 hb3
      go_wp2_with fail
      refine (bh_get (P + 1) (P + 1) _ _ HB3.out (by have := hs3; omega)).mono ?_
      rintro e wz ⟨rfl, hbz⟩
      have HZ := Lib.hid (HW3.out.trans (hbz.mono (by have := H0.out.2.1; omega)))
      clear hbz
      go_wp2
      go_ret
      exact ⟨rfl, HZ.out⟩
/-- what holds of a value if it holds of those in it holds of every value. -/
theorem V_kidsN {M : V → Prop} (hl : ∀ l, (∀ x ∈ l, M x) → M (.list l)) (ho : ∀ l : List (BL × V), (∀ x ∈ l, M x.2) → M (.obj l)) (h0 : M .null) (h1 : ∀ n, M (.bool n)) (h2 : ∀ n, M (.int n)) (h3 : ∀ s, M (.text s)) :
    ∀ (n : Nat) (v : V), SizeOf.sizeOf v < n → M v
  | 0, v, h => absurd h (Nat.not_lt_zero _)
  | n + 1, v, h => by
    cases v with
    | null => exact h0
    | bool k => exact h1 k
    | int k => exact h2 k
    | text s => exact h3 s
    | list l => exact hl l (fun x hx => V_kidsN hl ho h0 h1 h2 h3 n x (by have := List.sizeOf_lt_of_mem hx; simp at h; omega))
    | obj l => exact ho l (fun x hx => V_kidsN hl ho h0 h1 h2 h3 n x.2 (by
        have e1 := List.sizeOf_lt_of_mem hx
        have e2 : SizeOf.sizeOf x = 1 + SizeOf.sizeOf x.1 + SizeOf.sizeOf x.2 := by cases x; rfl
        simp at h
        omega))
theorem V_kids {M : V → Prop} (hl : ∀ l, (∀ x ∈ l, M x) → M (.list l)) (ho : ∀ l : List (BL × V), (∀ x ∈ l, M x.2) → M (.obj l)) (h0 : M .null) (h1 : ∀ n, M (.bool n)) (h2 : ∀ n, M (.int n)) (h3 : ∀ s, M (.text s)) (v : V) : M v :=
  V_kidsN hl ho h0 h1 h2 h3 (SizeOf.sizeOf v + 1) v (by omega)
/-- key.Put answers any value's key. -/
theorem kput_v (v : V) : PutH 41 v := by
  refine V_kids ?_ ?_ ?_ ?_ ?_ ?_ v
  · intro l ih S w c hv hM hlen
    cases hv with
    | list l cs sl hV hr =>
      have hlen2 : (keysL l).length ≤ 1000000 := by
        unfold keyL at hlen
        simp at hlen
        omega
      have hl1 : l.length ≤ (keysL l).length := keysL_long l
      rcases hr.2 with ⟨h0, rfl⟩ | ⟨b, cap, rfl, _, hc⟩
      · obtain rfl : l = [] := List.eq_nil_of_length_eq_zero h0
        exact kput_list0 w
      · exact kput_list l cs b cap S w hV hc (by omega) hM hlen2 ih
  · intro l ih S w c hv hM hlen
    cases hv with
    | obj l cs sl hV hr =>
      have hlen2 : (fieldsL l).length ≤ 1000000 := by
        unfold keyL at hlen
        simp at hlen
        omega
      have hl1 : l.length ≤ (fieldsL l).length := fieldsL_long l
      rcases hr.2 with ⟨h0, rfl⟩ | ⟨b, cap, rfl, _, hc⟩
      · obtain rfl : l = [] := List.eq_nil_of_length_eq_zero h0
        exact kput_obj0 w
      · exact kput_obj l cs b cap S w hV hc (by omega) hM hlen2 ih
  · intro S w c hv hM hlen
    cases hv
    exact kput_null w
  · intro n S w c hv hM hlen
    cases hv with
    | bool n hn => exact kput_bool n hn w
  · intro n S w c hv hM hlen
    cases hv with
    | int n hn => exact kput_int n hn w
  · intro s S w c hv hM hlen
    cases hv with
    | text s =>
      refine kput_text s ?_ w hM
      unfold keyL at hlen
      have := (escK_le s).1
      simp [writtenK] at hlen
      omega
end Go.Proofs.YtecnjifincahaaaGreatDoor
namespace Go.Proofs.YtecnjifincahaaaGreatDoor
open Go.Shelf Go.RowKit Go.Lib
theorem conv1 (W : World) (b cap : Nat) (c : UInt8) (h : W.cell? ⟨b, 0, none⟩ = some (.int .u8 (c.toNat : Int))) : (convert 24 9 (.slice (some ⟨b, 0, none⟩) 1 cap)).run Tryz.prog W = .ok (.string ⟨#[c]⟩) W :=
  run_convert_bytes_back W 24 9 5 ⟨b, 0, none⟩ cap [c] Tryz.underlying24 Tryz.underlying5 Tryz.underlying9 (fun j hj => by
    match j, hj with
    | 0, _ => exact h)
theorem conv1n (W : World) (b cap k : Nat) (z : Int) (hz : z = ((k % 256 : Nat) : Int)) (h : W.cell? ⟨b, 0, none⟩ = some (.int .u8 z)) : (convert 24 9 (.slice (some ⟨b, 0, none⟩) 1 cap)).run Tryz.prog W = .ok (.string (BA [UInt8.ofNat (k % 256)])) W :=
  conv1 W b cap _ (h.trans (by rw [hz, UInt8.toNat_ofNat']; exact congrArg (fun x => some (Value.int .u8 x)) (by omega)))
set_option maxHeartbeats 4000000 in
set_option maxRecDepth 100000 in
theorem lput_null (w : World) : PutC 29 w .null [.int .i64 0, .int .i64 0, .string ⟨#[]⟩, .slice none 0 0, .slice none 0 0] := by
  unfold PutC keyL
  have hcv0 : ∀ (W : World) (b cap : Nat), W.cell? ⟨b, 0, none⟩ = some (.int .u8 1) → (convert 24 9 (.slice (some ⟨b, 0, none⟩) 1 cap)).run Tryz.prog W = .ok (.string ⟨#[1]⟩) W := fun W b cap h => conv1 W b cap 1 h
  go_enter Tryz.func29, Tryz.ntmps29
  go_wp2
  go_ret
  exact ⟨rfl, ((Below.refl _ w).alloc (Nat.le_refl _) _).alloc (by simp; try omega) _⟩
set_option maxHeartbeats 4000000 in
set_option maxRecDepth 100000 in
theorem lput_bool (n : Int) (hn : 0 ≤ n ∧ n < 256) (w : World) : PutC 29 w (.bool n) [.int .i64 1, .int .i64 n, .string ⟨#[]⟩, .slice none 0 0, .slice none 0 0] := by
  unfold PutC keyL
  have hw : IntKind.u8.wrap n = n := by simp [IntKind.wrap, IntKind.bits, IntKind.signed]; omega
  have hw2 : n % 256 = n := by omega
  have hcv1 : ∀ (W : World) (b cap : Nat), W.cell? ⟨b, 0, none⟩ = some (.int .u8 n) → (convert 24 9 (.slice (some ⟨b, 0, none⟩) 1 cap)).run Tryz.prog W = .ok (.string ⟨#[UInt8.ofNat n.toNat]⟩) W := fun W b cap h => conv1 W b cap _ (by rw [h, UInt8.toNat_ofNat']; exact congrArg (fun x => some (Value.int .u8 x)) (by omega))
  clear hn
  have hcv0 : ∀ (W : World) (b cap : Nat), W.cell? ⟨b, 0, none⟩ = some (.int .u8 2) → (convert 24 9 (.slice (some ⟨b, 0, none⟩) 1 cap)).run Tryz.prog W = .ok (.string ⟨#[2]⟩) W := fun W b cap h => conv1 W b cap 2 h
  go_enter Tryz.func29, Tryz.ntmps29
  go_wp2
  go_ret
  exact ⟨rfl, (((Below.refl _ w).alloc (Nat.le_refl _) _).alloc (by simp; try omega) _).alloc (by simp; try omega) _⟩
set_option maxHeartbeats 4000000 in
set_option maxRecDepth 100000 in
theorem lput_int (n : Int) (hn : -9223372036854775808 ≤ n ∧ n ≤ 9223372036854775807) (w : World) : PutC 29 w (.int n) [.int .i64 2, .int .i64 n, .string ⟨#[]⟩, .slice none 0 0, .slice none 0 0] := by
  unfold PutC keyL
  have hx := xor_turn n hn
  obtain ⟨X, hXe⟩ : ∃ X : Nat, (n + 9223372036854775808).toNat = X := ⟨_, rfl⟩
  rw [hXe] at hx
  have hX : (X : Int) < 18446744073709551616 := by omega
  obtain ⟨Z0, hZ0⟩ : ∃ Z, BA [UInt8.ofNat ((X / 72057594037927936) % 256)] = Z := ⟨_, rfl⟩
  have hs0 : Z0.size = 1 := by rw [← hZ0]; rfl
  have hz0 : ∀ (W : World) (b cap : Nat), W.cell? ⟨b, 0, none⟩ = some (.int .u8 ((X : Int) / 72057594037927936)) → (convert 24 9 (.slice (some ⟨b, 0, none⟩) 1 cap)).run Tryz.prog W = .ok (.string Z0) W := fun W b cap h => by
    rw [← hZ0]; exact conv1n W b cap (X / 72057594037927936) _ (by omega) h
  obtain ⟨Z1, hZ1⟩ : ∃ Z, BA [UInt8.ofNat ((X / 281474976710656) % 256)] = Z := ⟨_, rfl⟩
  have hs1 : Z1.size = 1 := by rw [← hZ1]; rfl
  have hz1 : ∀ (W : World) (b cap : Nat), W.cell? ⟨b, 0, none⟩ = some (.int .u8 ((X : Int) / 281474976710656 % 256)) → (convert 24 9 (.slice (some ⟨b, 0, none⟩) 1 cap)).run Tryz.prog W = .ok (.string Z1) W := fun W b cap h => by
    rw [← hZ1]; exact conv1n W b cap (X / 281474976710656) _ (by omega) h
  obtain ⟨Z2, hZ2⟩ : ∃ Z, BA [UInt8.ofNat ((X / 1099511627776) % 256)] = Z := ⟨_, rfl⟩
  have hs2 : Z2.size = 1 := by rw [← hZ2]; rfl
  have hz2 : ∀ (W : World) (b cap : Nat), W.cell? ⟨b, 0, none⟩ = some (.int .u8 ((X : Int) / 1099511627776 % 256)) → (convert 24 9 (.slice (some ⟨b, 0, none⟩) 1 cap)).run Tryz.prog W = .ok (.string Z2) W := fun W b cap h => by
    rw [← hZ2]; exact conv1n W b cap (X / 1099511627776) _ (by omega) h
  obtain ⟨Z3, hZ3⟩ : ∃ Z, BA [UInt8.ofNat ((X / 4294967296) % 256)] = Z := ⟨_, rfl⟩
  have hs3 : Z3.size = 1 := by rw [← hZ3]; rfl
  have hz3 : ∀ (W : World) (b cap : Nat), W.cell? ⟨b, 0, none⟩ = some (.int .u8 ((X : Int) / 4294967296 % 256)) → (convert 24 9 (.slice (some ⟨b, 0, none⟩) 1 cap)).run Tryz.prog W = .ok (.string Z3) W := fun W b cap h => by
    rw [← hZ3]; exact conv1n W b cap (X / 4294967296) _ (by omega) h
  obtain ⟨Z4, hZ4⟩ : ∃ Z, BA [UInt8.ofNat ((X / 16777216) % 256)] = Z := ⟨_, rfl⟩
  have hs4 : Z4.size = 1 := by rw [← hZ4]; rfl
  have hz4 : ∀ (W : World) (b cap : Nat), W.cell? ⟨b, 0, none⟩ = some (.int .u8 ((X : Int) / 16777216 % 256)) → (convert 24 9 (.slice (some ⟨b, 0, none⟩) 1 cap)).run Tryz.prog W = .ok (.string Z4) W := fun W b cap h => by
    rw [← hZ4]; exact conv1n W b cap (X / 16777216) _ (by omega) h
  obtain ⟨Z5, hZ5⟩ : ∃ Z, BA [UInt8.ofNat ((X / 65536) % 256)] = Z := ⟨_, rfl⟩
  have hs5 : Z5.size = 1 := by rw [← hZ5]; rfl
  have hz5 : ∀ (W : World) (b cap : Nat), W.cell? ⟨b, 0, none⟩ = some (.int .u8 ((X : Int) / 65536 % 256)) → (convert 24 9 (.slice (some ⟨b, 0, none⟩) 1 cap)).run Tryz.prog W = .ok (.string Z5) W := fun W b cap h => by
    rw [← hZ5]; exact conv1n W b cap (X / 65536) _ (by omega) h
  obtain ⟨Z6, hZ6⟩ : ∃ Z, BA [UInt8.ofNat ((X / 256) % 256)] = Z := ⟨_, rfl⟩
  have hs6 : Z6.size = 1 := by rw [← hZ6]; rfl
  have hz6 : ∀ (W : World) (b cap : Nat), W.cell? ⟨b, 0, none⟩ = some (.int .u8 ((X : Int) / 256 % 256)) → (convert 24 9 (.slice (some ⟨b, 0, none⟩) 1 cap)).run Tryz.prog W = .ok (.string Z6) W := fun W b cap h => by
    rw [← hZ6]; exact conv1n W b cap (X / 256) _ (by omega) h
  obtain ⟨Z7, hZ7⟩ : ∃ Z, BA [UInt8.ofNat ((X) % 256)] = Z := ⟨_, rfl⟩
  have hs7 : Z7.size = 1 := by rw [← hZ7]; rfl
  have hz7 : ∀ (W : World) (b cap : Nat), W.cell? ⟨b, 0, none⟩ = some (.int .u8 ((X : Int) % 256)) → (convert 24 9 (.slice (some ⟨b, 0, none⟩) 1 cap)).run Tryz.prog W = .ok (.string Z7) W := fun W b cap h => by
    rw [← hZ7]; exact conv1n W b cap (X) _ (by omega) h
  have hfin : (⟨#[3]⟩ : ByteArray) ++ Z0 ++ Z1 ++ Z2 ++ Z3 ++ Z4 ++ Z5 ++ Z6 ++ Z7 = BA (3 :: numK n) := by
    rw [← hZ0, ← hZ1, ← hZ2, ← hZ3, ← hZ4, ← hZ5, ← hZ6, ← hZ7, show (⟨#[3]⟩ : ByteArray) = BA [3] from rfl, app_ba, app_ba, app_ba, app_ba, app_ba, app_ba, app_ba, app_ba]
    unfold numK
    rw [hXe]
    rfl
  have HF := Lib.hid hfin
  clear hfin hZ0 hZ1 hZ2 hZ3 hZ4 hZ5 hZ6 hZ7 hXe hn
  have hcv0 : ∀ (W : World) (b cap : Nat), W.cell? ⟨b, 0, none⟩ = some (.int .u8 3) → (convert 24 9 (.slice (some ⟨b, 0, none⟩) 1 cap)).run Tryz.prog W = .ok (.string ⟨#[3]⟩) W := fun W b cap h => conv1 W b cap 3 h
  go_enter Tryz.func29, Tryz.ntmps29
  go_wp2
  refine wp_loop_rounds 9 ?_
  rw [rounds_succ]
  go_wp2
  rw [rounds_succ]
  go_wp2
  rw [rounds_succ]
  go_wp2
  rw [rounds_succ]
  go_wp2
  rw [rounds_succ]
  go_wp2
  rw [rounds_succ]
  go_wp2
  rw [rounds_succ]
  go_wp2
  rw [rounds_succ]
  go_wp2
  rw [rounds_succ]
  go_wp2
  go_ret
  exact ⟨by rw [← HF.out]; rfl, ((((((((((Below.refl _ w).alloc (Nat.le_refl _) _).alloc (by simp; try omega) _).alloc (by simp; try omega) _).alloc (by simp; try omega) _).alloc (by simp; try omega) _).alloc (by simp; try omega) _).alloc (by simp; try omega) _).alloc (by simp; try omega) _).alloc (by simp; try omega) _).alloc (by simp; try omega) _⟩
set_option maxHeartbeats 4000000 in
set_option maxRecDepth 100000 in
theorem lput_text (s : BL) (hs : s.length ≤ 1000000) (w : World) : PutC 29 w (.text s) [.int .i64 3, .int .i64 0, .string (BA s), .slice none 0 0, .slice none 0 0] := by
  unfold PutC keyL
  obtain ⟨N, hN⟩ : ∃ N, BA (writtenK s) = N := ⟨_, rfl⟩
  have hNs : N.size ≤ 2000002 := by rw [← hN, ba_size]; have := (escK_le s).2; simp [writtenK]; omega
  have hfin : (⟨#[4]⟩ : ByteArray) ++ N = BA (4 :: writtenK s) := by
    rw [← hN, show (⟨#[4]⟩ : ByteArray) = BA [4] from rfl, app_ba]
    rfl
  have g1 : ¬ 9223372036854775807 < 1 + N.size := by omega
  have HF := Lib.hid (And.intro hs (And.intro hN hfin))
  clear hs hN hfin hNs
  have hcv0 : ∀ (W : World) (b cap : Nat), W.cell? ⟨b, 0, none⟩ = some (.int .u8 4) → (convert 24 9 (.slice (some ⟨b, 0, none⟩) 1 cap)).run Tryz.prog W = .ok (.string ⟨#[4]⟩) W := fun W b cap h => conv1 W b cap 4 h
  go_enter Tryz.func29, Tryz.ntmps29
  go_wp2_with fail
  refine (lwritten_any s _ HF.out.1).mono ?_
  rintro e w2 ⟨rfl, hb2⟩
  rw [HF.out.2.1]
  have H2 := Lib.hid ((((Below.refl _ w).alloc (Nat.le_refl _) _).alloc (by simp; try omega) _).trans (hb2.mono (by simp; try omega)))
  clear hb2
  go_wp2
  go_ret
  exact ⟨by rw [← HF.out.2.2]; rfl, H2.out⟩
end Go.Proofs.YtecnjifincahaaaGreatDoor
namespace Go.Proofs.YtecnjifincahaaaGreatDoor
open Go.Shelf Go.RowKit Go.Lib
set_option maxHeartbeats 8000000 in
set_option maxRecDepth 100000 in
theorem lput_list0 (w : World) : PutC 29 w (.list []) [.int .i64 4, .int .i64 0, .string ⟨#[]⟩, .slice none 0 0, .slice none 0 0] := by
  unfold PutC keyL keysL
  have hcv0 : ∀ (W : World) (b cap : Nat), W.cell? ⟨b, 0, none⟩ = some (.int .u8 5) → (convert 24 9 (.slice (some ⟨b, 0, none⟩) 1 cap)).run Tryz.prog W = .ok (.string ⟨#[5]⟩) W := fun W b cap h => conv1 W b cap 5 h
  go_enter Tryz.func29, Tryz.ntmps29
  go_wp2
  refine wp_loop_rounds 1 ?_
  rw [rounds_succ]
  go_wp2
  go_ret
  exact ⟨rfl, ((Below.refl _ w).alloc (Nat.le_refl _) _).alloc (by simp; try omega) _⟩
set_option maxHeartbeats 8000000 in
set_option maxRecDepth 100000 in
theorem lput_obj0 (w : World) : PutC 29 w (.obj []) [.int .i64 5, .int .i64 0, .string ⟨#[]⟩, .slice none 0 0, .slice none 0 0] := by
  unfold PutC keyL fieldsL
  have hcv0 : ∀ (W : World) (b cap : Nat), W.cell? ⟨b, 0, none⟩ = some (.int .u8 6) → (convert 24 9 (.slice (some ⟨b, 0, none⟩) 1 cap)).run Tryz.prog W = .ok (.string ⟨#[6]⟩) W := fun W b cap h => conv1 W b cap 6 h
  go_enter Tryz.func29, Tryz.ntmps29
  go_wp2
  refine wp_loop_rounds 1 ?_
  rw [rounds_succ]
  go_wp2
  go_ret
  exact ⟨rfl, ((Below.refl _ w).alloc (Nat.le_refl _) _).alloc (by simp; try omega) _⟩
set_option maxHeartbeats 8000000 in
set_option maxRecDepth 100000 in
theorem lput_list (l : List V) (cs : List Value) (b cap : Nat) (S : Nat → Prop) (w : World) (hV : VsAt S w l cs) (hr : ∀ k u, cs[k]? = some u → w.cell? ⟨b, k, none⟩ = some u) (hln : l.length ≤ 1000000) (hM : ML w)
    (hlen : (keysL l).length ≤ 1000000) (ih : ∀ x ∈ l, PutH 29 x) : PutC 29 w (.list l) [.int .i64 4, .int .i64 0, .string ⟨#[]⟩, .slice (some ⟨b, 0, none⟩) l.length cap, .slice none 0 0] := by
  have HV := Lib.hid (And.intro hV (And.intro hr (And.intro hM (And.intro hlen ih))))
  clear hV hr hM hlen ih
  unfold PutC keyL
  have hcv0 : ∀ (W : World) (b cap : Nat), W.cell? ⟨b, 0, none⟩ = some (.int .u8 5) → (convert 24 9 (.slice (some ⟨b, 0, none⟩) 1 cap)).run Tryz.prog W = .ok (.string ⟨#[5]⟩) W := fun W b cap h => conv1 W b cap 5 h
  go_enter Tryz.func29, Tryz.ntmps29
  have HW0 := Lib.hid (show Below w.heap.size w ((w.alloc (.cells #[.int .i64 4, .int .i64 0, .string ⟨#[]⟩, .slice (some ⟨b, 0, none⟩) l.length cap, .slice none 0 0] 40)).alloc (.cells #[.int .u8 5] 5)) from ((Below.refl _ w).alloc (Nat.le_refl _) _).alloc (by simp; try omega) _)
  go_wp2_with fail
  go_loopg [3, 57] l.length (fun gk ov sv wr => ∃ (i : Nat) (O : ByteArray), gk + i = l.length ∧ sv = .int .i64 i ∧ ov = .string O ∧ Hid (O = BA (5 :: keysL (l.take i))) ∧ Hid (Below w.heap.size w wr))
  case atStart => exact ⟨0, _, by omega, rfl, rfl, rfl, HW0⟩
  case round =>
    obtain ⟨i, O, hg, rfl, rfl, HO, HW⟩ := hrel
    have hOs : O.size = 1 + (keysL (l.take i)).length := by rw [HO.out, ba_size, List.length_cons]; omega
    by_cases hi : i < l.length
    · have hiz : (i : Int) < (l.length : Int) := by omega
      have hwK : IntKind.i64.wrap ((i : Int) + 1) = ((i + 1 : Nat) : Int) := by rw [IntWalk.i64_in _ (by omega)]; omega
      obtain ⟨d0, d1, d2, d3, d4, hx, e0, e1, e2, e3, e4⟩ := HV.out.1.get i hi
      obtain ⟨q0, q1, q2, q3, q4, q5, q6, q7, q8, hq⟩ := hx.shape
      simp only [List.cons.injEq, and_true] at hq
      obtain ⟨rfl, rfl, rfl, rfl, rfl⟩ := hq
      have k0 := bcell HW.out (HV.out.2.1 _ _ e0)
      have k1 := bcell HW.out (HV.out.2.1 _ _ e1)
      have k2 := bcell HW.out (HV.out.2.1 _ _ e2)
      have k3 := bcell HW.out (HV.out.2.1 _ _ e3)
      have k4 := bcell HW.out (HV.out.2.1 _ _ e4)
      obtain ⟨x, hxe⟩ : ∃ x, l[i] = x := ⟨_, rfl⟩
      have hnext := keysL_take l i hi
      have hle := keysL_le l (i + 1)
      rw [hnext] at hle
      rw [hxe] at hx hnext hle
      have hih := HV.out.2.2.2.2 x (by rw [← hxe]; exact List.getElem_mem hi)
      have hlen := HV.out.2.2.2.1
      rw [List.length_append] at hle
      obtain ⟨W3, hW3⟩ : ∃ W3, wr.alloc (.cells #[.int .i64 q0, .int .i64 q1, .string q2, .slice q3 q4 q5, .slice q6 q7 q8] 40) = W3 := ⟨_, rfl⟩
      have hb3 : Below wr.heap.size wr W3 := by rw [← hW3]; exact (Below.refl _ wr).alloc (Nat.le_refl _) _
      obtain ⟨K, hK⟩ : ∃ K, BA (keyL x) = K := ⟨_, rfl⟩
      have hKs : K.size = (keyL x).length := by rw [← hK, ba_size]
      have g1 : ¬ 9223372036854775807 < O.size + K.size := by omega
      have hcat : O ++ K = BA (5 :: keysL (l.take (i + 1))) := by rw [HO.out, ← hK, app_ba, hnext]; rfl
      have HX := Lib.hid (And.intro hW3 (And.intro hb3 (And.intro ((hx.later HW.out).later hb3) (And.intro hih (And.intro hcat (And.intro (show (keyL x).length ≤ 1000000 by omega) hK))))))
      clear hx e0 e1 e2 e3 e4 hxe hnext hle hih hW3 hb3 hcat hK hKs hlen hOs
      go_wp2_with fail
      rw [HX.out.1]
      refine (show Calls _ _ _ _ _ from HX.out.2.2.2.1 S W3 _ HX.out.2.2.1 ((HV.out.2.2.1.later HW.out).later HX.out.2.1) HX.out.2.2.2.2.2.1).mono ?_
      rintro e w4 ⟨rfl, hb4⟩
      rw [HX.out.2.2.2.2.2.2]
      have HW4 := Lib.hid ((HW.out.trans (HX.out.2.1.mono HW.out.size)).trans (hb4.mono (by have := HW.out.size; have := HX.out.2.1.size; omega)))
      clear hb4 k0 k1 k2 k3 k4
      go_wp2
      go_roundg (gk - 1)
      case rel => exact ⟨i + 1, _, by omega, rfl, rfl, HX.out.2.2.2.2.1, HW4⟩
      case measure => omega
    · have hiz : ¬ (i : Int) < (l.length : Int) := by omega
      have hie : l.take i = l := List.take_of_length_le (by omega)
      rw [hie] at HO hOs
      have hlen := HV.out.2.2.2.1
      have g1 : ¬ 9223372036854775807 < O.size + 1 := by omega
      clear hie hOs hlen
      go_wp2
      go_ret
      refine ⟨?_, HW.out⟩
      have hfin : O ++ (⟨#[0]⟩ : ByteArray) = BA (5 :: (keysL l ++ [0])) := by
        rw [HO.out, show (⟨#[0]⟩ : ByteArray) = BA [0] from rfl, app_ba]
        rfl
      rw [← hfin]
      rfl
set_option maxHeartbeats 8000000 in
set_option maxRecDepth 100000 in
theorem lput_obj (l : List (BL × V)) (cs : List Value) (b cap : Nat) (S : Nat → Prop) (w : World) (hV : FsAt S w l cs) (hr : ∀ k u, cs[k]? = some u → w.cell? ⟨b, k, none⟩ = some u) (hln : l.length ≤ 1000000) (hM : ML w)
    (hlen : (fieldsL l).length ≤ 1000000) (ih : ∀ x ∈ l, PutH 29 x.2) : PutC 29 w (.obj l) [.int .i64 5, .int .i64 0, .string ⟨#[]⟩, .slice none 0 0, .slice (some ⟨b, 0, none⟩) l.length cap] := by
  have HV := Lib.hid (And.intro hV (And.intro hr (And.intro hM (And.intro hlen ih))))
  clear hV hr hM hlen ih
  unfold PutC keyL
  have hcv0 : ∀ (W : World) (b cap : Nat), W.cell? ⟨b, 0, none⟩ = some (.int .u8 6) → (convert 24 9 (.slice (some ⟨b, 0, none⟩) 1 cap)).run Tryz.prog W = .ok (.string ⟨#[6]⟩) W := fun W b cap h => conv1 W b cap 6 h
  go_enter Tryz.func29, Tryz.ntmps29
  have HW0 := Lib.hid (show Below w.heap.size w ((w.alloc (.cells #[.int .i64 5, .int .i64 0, .string ⟨#[]⟩, .slice none 0 0, .slice (some ⟨b, 0, none⟩) l.length cap] 40)).alloc (.cells #[.int .u8 6] 5)) from ((Below.refl _ w).alloc (Nat.le_refl _) _).alloc (by simp; try omega) _)
  go_wp2_with fail
  go_loopg [3, 73] l.length (fun gk ov sv wr => ∃ (i : Nat) (O : ByteArray), gk + i = l.length ∧ sv = .int .i64 i ∧ ov = .string O ∧ Hid (O = BA (6 :: fieldsL (l.take i))) ∧ Hid (Below w.heap.size w wr))
  case atStart => exact ⟨0, _, by omega, rfl, rfl, rfl, HW0⟩
  case round =>
    obtain ⟨i, O, hg, rfl, rfl, HO, HW⟩ := hrel
    have hOs : O.size = 1 + (fieldsL (l.take i)).length := by rw [HO.out, ba_size, List.length_cons]; omega
    by_cases hi : i < l.length
    · have hiz : (i : Int) < (l.length : Int) := by omega
      have hwK : IntKind.i64.wrap ((i : Int) + 1) = ((i + 1 : Nat) : Int) := by rw [IntWalk.i64_in _ (by omega)]; omega
      obtain ⟨d0, d1, d2, d3, d4, hx, e5, e0, e1, e2, e3, e4⟩ := HV.out.1.get i hi
      obtain ⟨q0, q1, q2, q3, q4, q5, q6, q7, q8, hq⟩ := hx.shape
      simp only [List.cons.injEq, and_true] at hq
      obtain ⟨rfl, rfl, rfl, rfl, rfl⟩ := hq
      obtain ⟨nm, hnm⟩ : ∃ nm, l[i].1 = nm := ⟨_, rfl⟩
      obtain ⟨x, hxe⟩ : ∃ x, l[i].2 = x := ⟨_, rfl⟩
      rw [hnm] at e5
      have k5 := bcell HW.out (HV.out.2.1 _ _ e5)
      have k0 := bcell HW.out (HV.out.2.1 _ _ e0)
      have k1 := bcell HW.out (HV.out.2.1 _ _ e1)
      have k2 := bcell HW.out (HV.out.2.1 _ _ e2)
      have k3 := bcell HW.out (HV.out.2.1 _ _ e3)
      have k4 := bcell HW.out (HV.out.2.1 _ _ e4)
      have hnext := fieldsL_take l i hi
      have hle := fieldsL_le l (i + 1)
      rw [hnext] at hle
      rw [hxe] at hx hnext hle
      rw [hnm] at hnext hle
      have hih := HV.out.2.2.2.2 l[i] (List.getElem_mem hi)
      rw [hxe] at hih
      have hlen := HV.out.2.2.2.1
      rw [List.length_append, List.length_cons, List.length_append] at hle
      have hwl : (writtenK nm).length = (escK nm).length + 2 := by simp [writtenK]
      have hnl : nm.length ≤ 1000000 := by have := (escK_le nm).1; omega
      have hkl : (keyL x).length ≤ 1000000 := by omega
      obtain ⟨W3, hW3⟩ : ∃ W3, wr.alloc (.cells #[.string (BA nm), .int .i64 q0, .int .i64 q1, .string q2, .slice q3 q4 q5, .slice q6 q7 q8] 72) = W3 := ⟨_, rfl⟩
      have hb3 : Below wr.heap.size wr W3 := by rw [← hW3]; exact (Below.refl _ wr).alloc (Nat.le_refl _) _
      have hk3 : Blk W3 wr.heap.size 72 [.string (BA nm), .int .i64 q0, .int .i64 q1, .string q2, .slice q3 q4 q5, .slice q6 q7 q8] := by rw [← hW3]; exact heap_alloc_new wr _
      obtain ⟨N, hN⟩ : ∃ N, BA (writtenK nm) = N := ⟨_, rfl⟩
      obtain ⟨K, hK⟩ : ∃ K, BA (keyL x) = K := ⟨_, rfl⟩
      have hNs : N.size = (writtenK nm).length := by rw [← hN, ba_size]
      have hKs : K.size = (keyL x).length := by rw [← hK, ba_size]
      have g0 : ¬ 9223372036854775807 < O.size + 1 := by omega
      have g1 : ¬ 9223372036854775807 < O.size + 1 + N.size := by omega
      have g2 : ¬ 9223372036854775807 < O.size + 1 + N.size + K.size := by omega
      have hcat : O ++ (⟨#[1]⟩ : ByteArray) ++ N ++ K = BA (6 :: fieldsL (l.take (i + 1))) := by
        rw [HO.out, ← hN, ← hK, show (⟨#[1]⟩ : ByteArray) = BA [1] from rfl, app_ba, app_ba, app_ba, hnext]
        simp
      have HX := Lib.hid (And.intro hW3 (And.intro hcat (And.intro hih (And.intro hkl (And.intro hnl (And.intro hN hK))))))
      have HK := Lib.hid hk3
      have HWD := Lib.hid ((HW.out.trans (hb3.mono HW.out.size)).drew)
      have HMD := Lib.hid (ML.later HV.out.2.2.1 HWD.out)
      have HXD := Lib.hid (VAt.later (((hx.later HW.out).later hb3)) ((Below.refl _ W3).drew))
      clear hx e5 e0 e1 e2 e3 e4 hxe hnm hnext hle hih hW3 hb3 hlen hwl hkl hk3 hcat hN hK hnl hNs hKs hOs
      go_wp2_with fail
      rw [HX.out.1]
      clear k0 k1 k2 k3 k4 k5
      have d0 : W3.drew.cell? ⟨wr.heap.size, 0, none⟩ = some (.string (BA nm)) := HK.out.cell 0
      have d1 : W3.drew.cell? ⟨wr.heap.size, 1, none⟩ = some (.int .i64 q0) := HK.out.cell 1
      have d2 : W3.drew.cell? ⟨wr.heap.size, 2, none⟩ = some (.int .i64 q1) := HK.out.cell 2
      have d3 : W3.drew.cell? ⟨wr.heap.size, 3, none⟩ = some (.string q2) := HK.out.cell 3
      have d4 : W3.drew.cell? ⟨wr.heap.size, 4, none⟩ = some (.slice q3 q4 q5) := HK.out.cell 4
      have d5 : W3.drew.cell? ⟨wr.heap.size, 5, none⟩ = some (.slice q6 q7 q8) := HK.out.cell 5
      go_region_held3 (fun w' => w'.cell? ⟨wr.heap.size, 0, none⟩ = some (.string (BA nm)) ∧ w'.cell? ⟨wr.heap.size, 1, none⟩ = some (.int .i64 q0) ∧ w'.cell? ⟨wr.heap.size, 2, none⟩ = some (.int .i64 q1) ∧ w'.cell? ⟨wr.heap.size, 3, none⟩ = some (.string q2) ∧ w'.cell? ⟨wr.heap.size, 4, none⟩ = some (.slice q3 q4 q5) ∧ w'.cell? ⟨wr.heap.size, 5, none⟩ = some (.slice q6 q7 q8))
        (first | exact ⟨d0, d1, d2, d3, d4, d5⟩ | exact ⟨p0, p1, p2, p3, p4, p5⟩ | exact ⟨r0, r1, r2, r3, r4, r5⟩)
        (first
          | (go_at_call 52; refine (lwritten_any nm _ HX.out.2.2.2.2.1).mono ?_; rintro e w4 ⟨rfl, hb4⟩; have HW4 := Lib.hid (HWD.out.trans (hb4.mono HWD.out.size)); have HM4 := Lib.hid (HMD.out.later hb4); have HX4 := Lib.hid (HXD.out.later hb4); have HK4 := Lib.hid (HK.out.drew.below hb4); clear hb4; have p0 := HK4.out.cell 0; have p1 := HK4.out.cell 1; have p2 := HK4.out.cell 2; have p3 := HK4.out.cell 3; have p4 := HK4.out.cell 4; have p5 := HK4.out.cell 5; rw [HX.out.2.2.2.2.2.1])
          | (go_at_call 29; refine (show Calls _ _ _ _ _ from HX.out.2.2.1 S _ _ HX4.out HM4.out HX.out.2.2.2.1).mono ?_; rintro e w5 ⟨rfl, hb5⟩; have HW5 := Lib.hid (HW4.out.trans (hb5.mono HW4.out.size)); have HK5 := Lib.hid (HK4.out.below hb5); clear hb5; have r0 := HK5.out.cell 0; have r1 := HK5.out.cell 1; have r2 := HK5.out.cell 2; have r3 := HK5.out.cell 3; have r4 := HK5.out.cell 4; have r5 := HK5.out.cell 5; rw [HX.out.2.2.2.2.2.2]))
      clear r0 r1 r2 r3 r4 r5 p0 p1 p2 p3 p4 p5 d0 d1 d2 d3 d4 d5
      go_wp2
      go_roundg (gk - 1)
      case rel => exact ⟨i + 1, _, by omega, rfl, rfl, HX.out.2.1, HW5⟩
      case measure => omega
    · have hiz : ¬ (i : Int) < (l.length : Int) := by omega
      have hie : l.take i = l := List.take_of_length_le (by omega)
      rw [hie] at HO hOs
      have hlen := HV.out.2.2.2.1
      have g1 : ¬ 9223372036854775807 < O.size + 1 := by omega
      clear hie hOs hlen
      go_wp2
      go_ret
      refine ⟨?_, HW.out⟩
      have hfin : O ++ (⟨#[0]⟩ : ByteArray) = BA (6 :: (fieldsL l ++ [0])) := by
        rw [HO.out, show (⟨#[0]⟩ : ByteArray) = BA [0] from rfl, app_ba]
        rfl
      rw [← hfin]
      rfl
/-- The law's Put answers any value's key. -/
theorem lput_v (v : V) : PutH 29 v := by
  refine V_kids ?_ ?_ ?_ ?_ ?_ ?_ v
  · intro l ih S w c hv hM hlen
    cases hv with
    | list l cs sl hV hr =>
      have hlen2 : (keysL l).length ≤ 1000000 := by
        unfold keyL at hlen
        simp at hlen
        omega
      have hl1 : l.length ≤ (keysL l).length := keysL_long l
      rcases hr.2 with ⟨h0, rfl⟩ | ⟨b, cap, rfl, _, hc⟩
      · obtain rfl : l = [] := List.eq_nil_of_length_eq_zero h0
        exact lput_list0 w
      · exact lput_list l cs b cap S w hV hc (by omega) hM hlen2 ih
  · intro l ih S w c hv hM hlen
    cases hv with
    | obj l cs sl hV hr =>
      have hlen2 : (fieldsL l).length ≤ 1000000 := by
        unfold keyL at hlen
        simp at hlen
        omega
      have hl1 : l.length ≤ (fieldsL l).length := fieldsL_long l
      rcases hr.2 with ⟨h0, rfl⟩ | ⟨b, cap, rfl, _, hc⟩
      · obtain rfl : l = [] := List.eq_nil_of_length_eq_zero h0
        exact lput_obj0 w
      · exact lput_obj l cs b cap S w hV hc (by omega) hM hlen2 ih
  · intro S w c hv hM hlen
    cases hv
    exact lput_null w
  · intro n S w c hv hM hlen
    cases hv with
    | bool n hn => exact lput_bool n hn w
  · intro n S w c hv hM hlen
    cases hv with
    | int n hn => exact lput_int n hn w
  · intro s S w c hv hM hlen
    cases hv with
    | text s =>
      refine lput_text s ?_ w
      unfold keyL at hlen
      have := (escK_le s).1
      simp [writtenK] at hlen
      omega
end Go.Proofs.YtecnjifincahaaaGreatDoor
namespace Go.Proofs.YtecnjifincahaaaGreatDoor
open Go.Shelf Go.RowKit Go.Lib
def oneL (c : Nat) : Int := if c % 8 = 0 then -9223372036854775808 else if c % 8 = 1 then 9223372036854775807 else if c % 8 = 2 then -(c : Int) else ((c / 8 % 6 : Nat) : Int)
def wordL (k : Nat) : BL := ([[], [97], [98], [97, 98], [0], [195, 169], [122, 0], [108, 111, 110, 103, 44, 32, 97, 110, 100, 32, 108, 111, 110, 103, 101, 114]] : List BL).getD k []
def nameL (k : Nat) : BL := ([[97], [98], [99], [110]] : List BL).getD k []
def leafL (c : Nat) : V := if c % 6 = 1 then .bool ((c / 6 % 2 : Nat) : Int) else if c % 6 = 2 then .int (oneL (c / 6)) else if c % 6 = 3 then .text (wordL (c / 6 % 8)) else .null
def timesL (rec : BL → V × BL) : Nat → BL → List V × BL
  | 0, b => ([], b)
  | k + 1, b => ((timesL rec k b).1 ++ [(rec (timesL rec k b).2).1], (rec (timesL rec k b).2).2)
def fieldsN (rec : BL → V × BL) (n : Nat) : Nat → BL → List (BL × V) × BL
  | 0, b => ([], b)
  | i + 1, b => if n / 2 ^ i % 2 = 1 then ((fieldsN rec n i b).1 ++ [(nameL i, (rec (fieldsN rec n i b).2).1)], (rec (fieldsN rec n i b).2).2) else fieldsN rec n i b
/-- what Made makes of bytes, at most d + 1 deep, and what is left. -/
def madeL : Nat → BL → V × BL
  | _, [] => (.null, [])
  | 0, c :: b => (leafL c.toNat, b)
  | d + 1, c :: b =>
    if c.toNat % 6 = 4 then (.list (timesL (madeL d) (c.toNat / 6 % 4) b).1, (timesL (madeL d) (c.toNat / 6 % 4) b).2)
    else if c.toNat % 6 = 5 then (.obj (fieldsN (madeL d) (c.toNat / 6) 4 b).1, (fieldsN (madeL d) (c.toNat / 6) 4 b).2)
    else (leafL c.toNat, b)
theorem madeL_nil : ∀ d, madeL d [] = (.null, [])
  | 0 => rfl
  | _ + 1 => rfl
/-- the law's two tables of texts. -/
def Words (w : World) : Prop := (∀ k, k < 8 → w.cell? ⟨1, k, none⟩ = some (.string (BA (wordL k)))) ∧ (∀ k, k < 4 → w.cell? ⟨2, k, none⟩ = some (.string (BA (nameL k))))
theorem Words.later {w w2 : World} (h : Words w) (hb : Below w.heap.size w w2) : Words w2 := ⟨fun k hk => bcell hb (h.1 k hk), fun k hk => bcell hb (h.2 k hk)⟩
/-- v is a slice that reads as the bytes l, in a block below n. -/
def BRead (n : Nat) (w : World) (v : Value) (l : BL) : Prop :=
  l.length ≤ 9223372036854775807 ∧ ∃ a cap, v = .slice a l.length cap ∧ l.length ≤ cap ∧ (0 < l.length → ∃ b off, a = some ⟨b, off, none⟩ ∧ b < n ∧ ∀ i u, l[i]? = some u → w.cell? ⟨b, off + i, none⟩ = some (.int .u8 u.toNat))
theorem BRead.later {n : Nat} {w w2 : World} {v : Value} {l : BL} (h : BRead n w v l) (hb : Below n w w2) : BRead n w2 v l := by
  obtain ⟨hm, a, cap, rfl, hc, h⟩ := h
  refine ⟨hm, a, cap, rfl, hc, fun hl => ?_⟩
  obtain ⟨b, off, rfl, hbn, hx⟩ := h hl
  exact ⟨b, off, rfl, hbn, fun i u hu => (World.cell?_of_block (hb.block b hbn)).trans (hx i u hu)⟩
theorem BRead.nil (n : Nat) (w : World) : BRead n w (.slice none 0 0) [] := ⟨by simp, none, 0, rfl, by simp, fun h => absurd h (by simp)⟩
/-- a value's cells, all of it in blocks made since the world w0. -/
def VNew (w0 w : World) (v : V) (c : List Value) : Prop := VAt (fun b => w0.heap.size ≤ b ∧ b < w.heap.size) w v c
theorem VNew.later {w0 w w2 : World} {v : V} {c : List Value} (h : VNew w0 w v c) (hb : Below w.heap.size w w2) : VNew w0 w2 v c :=
  h.keep (fun _ hb' => ⟨hb'.1, Nat.lt_of_lt_of_le hb'.2 hb.size⟩) (fun _ _ _ _ hc => bcell hb hc)
set_option maxRecDepth 100000 in
theorem one_any (c : Nat) (w : World) (hc : c < 256) : Calls Tryz.prog 68 #[.int .u8 c] w fun e w' => e = .returned (.int .i64 (oneL c)) ∧ w' = w := by
  unfold oneL
  by_cases h0 : c % 8 = 0
  · have z0 : (c : Int) % 8 = 0 := by omega
    rw [if_pos h0]
    go_enter Tryz.func68, Tryz.ntmps68
    go_wp2
    go_ret
    exact ⟨rfl, rfl⟩
  rw [if_neg h0]
  by_cases h1 : c % 8 = 1
  · have z0 : (c : Int) % 8 = 1 := by omega
    rw [if_pos h1]
    go_enter Tryz.func68, Tryz.ntmps68
    go_wp2
    go_ret
    exact ⟨rfl, rfl⟩
  rw [if_neg h1]
  by_cases h2 : c % 8 = 2
  · have z0 : (c : Int) % 8 = 2 := by omega
    rw [if_pos h2]
    have zw : IntKind.i64.wrap (-(c : Int)) = -(c : Int) := by rw [IntKind.wrap_i64]; omega
    have zc : IntKind.i64.wrap (c : Int) = (c : Int) := by rw [IntKind.wrap_i64]; omega
    go_enter Tryz.func68, Tryz.ntmps68
    go_wp2
    go_ret
    exact ⟨rfl, rfl⟩
  rw [if_neg h2]
  have z0 : ¬ (c : Int) % 8 = 0 := by omega
  have z1 : ¬ (c : Int) % 8 = 1 := by omega
  have z2 : ¬ (c : Int) % 8 = 2 := by omega
  go_enter Tryz.func68, Tryz.ntmps68
  go_wp2
  go_ret
  exact ⟨rfl, rfl⟩
end Go.Proofs.YtecnjifincahaaaGreatDoor
namespace Go.Proofs.YtecnjifincahaaaGreatDoor
open Go.Shelf Go.RowKit Go.Lib
def MadeC (d nb : Nat) (w : World) (sv : Value) (l : BL) : Prop := Calls Tryz.prog 42 #[sv, .int .i64 ((d : Int) + 1)] w fun e w' => ∃ c rv, e = .returned (.tuple #[.agg c.toArray, rv]) ∧ VNew w w' (madeL d l).1 c ∧ BRead nb w' rv (madeL d l).2 ∧ Below w.heap.size w w'
/-- what is left of a row behind its first byte. -/
theorem BRead.tail {nb : Nat} {w : World} {b off cap : Nat} {c : UInt8} {l : BL} (hbn : b < nb) (hm : l.length + 1 ≤ 9223372036854775807) (hcap : l.length + 1 ≤ cap) (hr : ∀ i u, (c :: l)[i]? = some u → w.cell? ⟨b, off + i, none⟩ = some (.int .u8 u.toNat)) :
    BRead nb w (.slice (some ⟨b, off + 1, none⟩) l.length (cap - 1)) l :=
  ⟨by omega, _, _, rfl, by omega, fun _ => ⟨b, off + 1, rfl, hbn, fun i u hu => by
    have := hr (i + 1) u (by simpa using hu)
    rw [show off + 1 + i = off + (i + 1) by omega]
    exact this⟩⟩
theorem BRead.cap1 {nb : Nat} {w : World} {b off cap : Nat} {l : BL} (hm : l.length + 1 ≤ 9223372036854775807) (hcap : l.length + 1 ≤ cap) (h1 : cap = 1) : BRead nb w (.slice (some ⟨b, off, none⟩) l.length 0) l :=
  ⟨by omega, _, _, rfl, by omega, fun h => by omega⟩
theorem made_leaf_eq (d : Nat) (c : UInt8) (l : BL) (h4 : d = 0 ∨ c.toNat % 6 ≠ 4) (h5 : d = 0 ∨ c.toNat % 6 ≠ 5) : madeL d (c :: l) = (leafL c.toNat, l) := by
  cases d with
  | zero => rfl
  | succ d =>
    unfold madeL
    rw [if_neg (h4.resolve_left (by omega)), if_neg (h5.resolve_left (by omega))]
theorem one_range (c : Nat) (h : c < 256) : -9223372036854775808 ≤ oneL c ∧ oneL c ≤ 9223372036854775807 := by
  unfold oneL
  split
  · omega
  · split
    · omega
    · split <;> omega
set_option maxHeartbeats 4000000 in
set_option maxRecDepth 100000 in
theorem made_nil (d nb : Nat) (w : World) (sv : Value) (h : BRead nb w sv []) : MadeC d nb w sv [] := by
  obtain ⟨_, a, cap, rfl, _, _⟩ := h
  unfold MadeC
  rw [madeL_nil]
  obtain ⟨D, hD⟩ : ∃ D : Int, (d : Int) + 1 = D := ⟨_, rfl⟩
  rw [hD]
  clear hD
  go_enter Tryz.func42, Tryz.ntmps42
  go_wp2
  (try simp only [Exit.inBlock, Exit.then])
  refine bodyPost_ret (v := .tuple #[.agg #[.int .i64 0, .int .i64 0, .string ⟨#[]⟩, .slice none 0 0, .slice none 0 0], .slice none 0 0]) ?_ rfl ⟨[.int .i64 0, .int .i64 0, .string ⟨#[]⟩, .slice none 0 0, .slice none 0 0], _, rfl, .null, BRead.nil _ _, (Below.refl _ w).alloc (Nat.le_refl _) _⟩
  rw [results_cell_tmp rfl]
  go_simp
set_option maxHeartbeats 4000000 in
set_option maxRecDepth 100000 in
theorem made_bool1 (d nb : Nat) (w : World) (sv : Value) (c : UInt8) (l : BL) (hnb : nb ≤ w.heap.size) (h : BRead nb w sv (c :: l)) (hcap1 : ∃ a n, sv = .slice a n 1) (hc : c.toNat % 6 = 1) : MadeC d nb w sv (c :: l) := by
  obtain ⟨hm, a, cap, rfl, hcap, hx⟩ := h
  obtain ⟨b, off, rfl, hbn, hr⟩ := hx (by simp)
  have hc1 : cap = 1 := by obtain ⟨a2, n2, h2⟩ := hcap1; simpa using congrArg (fun v => match v with | Value.slice _ _ k => k | _ => 0) h2
  have h0 := hr 0 c rfl
  rw [Nat.add_zero] at h0
  have h0a : (w.alloc (.cells #[.int .i64 0, .int .i64 0, .string ⟨#[]⟩, .slice none 0 0, .slice none 0 0] 40)).cell? ⟨b, off, none⟩ = some (.int .u8 c.toNat) := bcell ((Below.refl _ w).alloc (Nat.le_refl _) _) h0
  unfold MadeC
  rw [made_leaf_eq d c l (.inr (by omega)) (.inr (by omega)), show leafL c.toNat = .bool ((c.toNat / 6 % 2 : Nat) : Int) by unfold leafL; rw [if_pos hc]]
  obtain ⟨D, hD⟩ : ∃ D : Int, (d : Int) + 1 = D := ⟨_, rfl⟩
  rw [hD]
  clear hD
  rw [List.length_cons] at hcap hm ⊢
  have HR := Lib.hid (BRead.cap1 (nb := nb) (w := w) (b := b) (off := off) hm hcap hc1)
  obtain ⟨n, hn⟩ : ∃ n, l.length = n := ⟨_, rfl⟩
  rw [hn] at hcap hm HR ⊢
  obtain ⟨k, hk⟩ : ∃ k, c.toNat = k := ⟨_, rfl⟩
  rw [hk] at h0a hc
  (try rw [hk])
  have hk8 : k < 256 := by rw [← hk]; exact c.toNat_lt
  have z6 : (k : Int) % 6 = 1 := by omega
  have zw : IntKind.i64.wrap ((k : Int) / 6) = (k : Int) / 6 := by rw [IntKind.wrap_i64]; omega
  clear h0 hr hx hk hn hcap1
  go_enter Tryz.func42, Tryz.ntmps42
  go_wp2
  (try simp only [Exit.inBlock, Exit.then])
  refine bodyPost_ret (v := .tuple #[.agg #[.int .i64 1, .int .i64 ((k / 6 % 2 : Nat) : Int), .string ⟨#[]⟩, .slice none 0 0, .slice none 0 0], .slice (some ⟨b, off, none⟩) n 0]) ?_ rfl ⟨[.int .i64 1, .int .i64 ((k / 6 % 2 : Nat) : Int), .string ⟨#[]⟩, .slice none 0 0, .slice none 0 0], _, rfl, .bool _ (by omega), HR.out.later ((Below.refl _ w).alloc hnb _), (Below.refl _ w).alloc (Nat.le_refl _) _⟩
  rw [results_cell_tmp rfl]
  go_simp
set_option maxHeartbeats 4000000 in
set_option maxRecDepth 100000 in
theorem made_booln (d nb : Nat) (w : World) (sv : Value) (c : UInt8) (l : BL) (hnb : nb ≤ w.heap.size) (h : BRead nb w sv (c :: l)) (hcap1 : ¬ ∃ a n, sv = .slice a n 1) (hc : c.toNat % 6 = 1) : MadeC d nb w sv (c :: l) := by
  obtain ⟨hm, a, cap, rfl, hcap, hx⟩ := h
  obtain ⟨b, off, rfl, hbn, hr⟩ := hx (by simp)
  have hc1 : ¬ cap = 1 := fun e => hcap1 ⟨_, _, by rw [e]⟩
  have h0 := hr 0 c rfl
  rw [Nat.add_zero] at h0
  have h0a : (w.alloc (.cells #[.int .i64 0, .int .i64 0, .string ⟨#[]⟩, .slice none 0 0, .slice none 0 0] 40)).cell? ⟨b, off, none⟩ = some (.int .u8 c.toNat) := bcell ((Below.refl _ w).alloc (Nat.le_refl _) _) h0
  unfold MadeC
  rw [made_leaf_eq d c l (.inr (by omega)) (.inr (by omega)), show leafL c.toNat = .bool ((c.toNat / 6 % 2 : Nat) : Int) by unfold leafL; rw [if_pos hc]]
  obtain ⟨D, hD⟩ : ∃ D : Int, (d : Int) + 1 = D := ⟨_, rfl⟩
  rw [hD]
  clear hD
  rw [List.length_cons] at hcap hm ⊢
  have HR := Lib.hid (BRead.tail hbn hm hcap hr)
  obtain ⟨n, hn⟩ : ∃ n, l.length = n := ⟨_, rfl⟩
  rw [hn] at hcap hm HR ⊢
  obtain ⟨k, hk⟩ : ∃ k, c.toNat = k := ⟨_, rfl⟩
  rw [hk] at h0a hc
  (try rw [hk])
  have hk8 : k < 256 := by rw [← hk]; exact c.toNat_lt
  have z6 : (k : Int) % 6 = 1 := by omega
  have zw : IntKind.i64.wrap ((k : Int) / 6) = (k : Int) / 6 := by rw [IntKind.wrap_i64]; omega
  clear h0 hr hx hk hn hcap1
  go_enter Tryz.func42, Tryz.ntmps42
  go_wp2
  (try simp only [Exit.inBlock, Exit.then])
  refine bodyPost_ret (v := .tuple #[.agg #[.int .i64 1, .int .i64 ((k / 6 % 2 : Nat) : Int), .string ⟨#[]⟩, .slice none 0 0, .slice none 0 0], .slice (some ⟨b, off + 1, none⟩) n (cap - 1)]) ?_ rfl ⟨[.int .i64 1, .int .i64 ((k / 6 % 2 : Nat) : Int), .string ⟨#[]⟩, .slice none 0 0, .slice none 0 0], _, rfl, .bool _ (by omega), HR.out.later ((Below.refl _ w).alloc hnb _), (Below.refl _ w).alloc (Nat.le_refl _) _⟩
  rw [results_cell_tmp rfl]
  go_simp
set_option maxHeartbeats 4000000 in
set_option maxRecDepth 100000 in
theorem made_int1 (d nb : Nat) (w : World) (sv : Value) (c : UInt8) (l : BL) (hnb : nb ≤ w.heap.size) (h : BRead nb w sv (c :: l)) (hcap1 : ∃ a n, sv = .slice a n 1) (hc : c.toNat % 6 = 2) : MadeC d nb w sv (c :: l) := by
  obtain ⟨hm, a, cap, rfl, hcap, hx⟩ := h
  obtain ⟨b, off, rfl, hbn, hr⟩ := hx (by simp)
  have hc1 : cap = 1 := by obtain ⟨a2, n2, h2⟩ := hcap1; simpa using congrArg (fun v => match v with | Value.slice _ _ k => k | _ => 0) h2
  have h0 := hr 0 c rfl
  rw [Nat.add_zero] at h0
  have h0a : (w.alloc (.cells #[.int .i64 0, .int .i64 0, .string ⟨#[]⟩, .slice none 0 0, .slice none 0 0] 40)).cell? ⟨b, off, none⟩ = some (.int .u8 c.toNat) := bcell ((Below.refl _ w).alloc (Nat.le_refl _) _) h0
  unfold MadeC
  rw [made_leaf_eq d c l (.inr (by omega)) (.inr (by omega)), show leafL c.toNat = .int (oneL (c.toNat / 6)) by unfold leafL; rw [if_neg (by omega), if_pos hc]]
  obtain ⟨D, hD⟩ : ∃ D : Int, (d : Int) + 1 = D := ⟨_, rfl⟩
  rw [hD]
  clear hD
  rw [List.length_cons] at hcap hm ⊢
  have HR := Lib.hid (BRead.cap1 (nb := nb) (w := w) (b := b) (off := off) hm hcap hc1)
  obtain ⟨n, hn⟩ : ∃ n, l.length = n := ⟨_, rfl⟩
  rw [hn] at hcap hm HR ⊢
  obtain ⟨k, hk⟩ : ∃ k, c.toNat = k := ⟨_, rfl⟩
  rw [hk] at h0a hc
  (try rw [hk])
  have hk8 : k < 256 := by rw [← hk]; exact c.toNat_lt
  have z6 : (k : Int) % 6 = 2 := by omega
  have zw : IntKind.i64.wrap ((k : Int) / 6) = (k : Int) / 6 := by rw [IntKind.wrap_i64]; omega
  have zu : IntKind.u8.wrap ((k : Int) / 6) = (k : Int) / 6 := by simp [IntKind.wrap, IntKind.bits, IntKind.signed]; omega
  have zv : (k : Int) / 6 % 256 = (k : Int) / 6 := by omega
  clear h0 hr hx hk hn hcap1
  go_enter Tryz.func42, Tryz.ntmps42
  go_wp2_with fail
  refine (show Calls _ _ #[.int .u8 ((k : Int) / 6)] _ _ from one_any (k / 6) _ (by omega)).mono ?_
  rintro e w2 ⟨rfl, rfl⟩
  go_wp2
  (try simp only [Exit.inBlock, Exit.then])
  refine bodyPost_ret (v := .tuple #[.agg #[.int .i64 2, .int .i64 (oneL (k / 6)), .string ⟨#[]⟩, .slice none 0 0, .slice none 0 0], .slice (some ⟨b, off, none⟩) n 0]) ?_ rfl ⟨[.int .i64 2, .int .i64 (oneL (k / 6)), .string ⟨#[]⟩, .slice none 0 0, .slice none 0 0], _, rfl, .int _ (one_range _ (by omega)), HR.out.later ((Below.refl _ w).alloc hnb _), (Below.refl _ w).alloc (Nat.le_refl _) _⟩
  rw [results_cell_tmp rfl]
  go_simp
set_option maxHeartbeats 4000000 in
set_option maxRecDepth 100000 in
theorem made_intn (d nb : Nat) (w : World) (sv : Value) (c : UInt8) (l : BL) (hnb : nb ≤ w.heap.size) (h : BRead nb w sv (c :: l)) (hcap1 : ¬ ∃ a n, sv = .slice a n 1) (hc : c.toNat % 6 = 2) : MadeC d nb w sv (c :: l) := by
  obtain ⟨hm, a, cap, rfl, hcap, hx⟩ := h
  obtain ⟨b, off, rfl, hbn, hr⟩ := hx (by simp)
  have hc1 : ¬ cap = 1 := fun e => hcap1 ⟨_, _, by rw [e]⟩
  have h0 := hr 0 c rfl
  rw [Nat.add_zero] at h0
  have h0a : (w.alloc (.cells #[.int .i64 0, .int .i64 0, .string ⟨#[]⟩, .slice none 0 0, .slice none 0 0] 40)).cell? ⟨b, off, none⟩ = some (.int .u8 c.toNat) := bcell ((Below.refl _ w).alloc (Nat.le_refl _) _) h0
  unfold MadeC
  rw [made_leaf_eq d c l (.inr (by omega)) (.inr (by omega)), show leafL c.toNat = .int (oneL (c.toNat / 6)) by unfold leafL; rw [if_neg (by omega), if_pos hc]]
  obtain ⟨D, hD⟩ : ∃ D : Int, (d : Int) + 1 = D := ⟨_, rfl⟩
  rw [hD]
  clear hD
  rw [List.length_cons] at hcap hm ⊢
  have HR := Lib.hid (BRead.tail hbn hm hcap hr)
  obtain ⟨n, hn⟩ : ∃ n, l.length = n := ⟨_, rfl⟩
  rw [hn] at hcap hm HR ⊢
  obtain ⟨k, hk⟩ : ∃ k, c.toNat = k := ⟨_, rfl⟩
  rw [hk] at h0a hc
  (try rw [hk])
  have hk8 : k < 256 := by rw [← hk]; exact c.toNat_lt
  have z6 : (k : Int) % 6 = 2 := by omega
  have zw : IntKind.i64.wrap ((k : Int) / 6) = (k : Int) / 6 := by rw [IntKind.wrap_i64]; omega
  have zu : IntKind.u8.wrap ((k : Int) / 6) = (k : Int) / 6 := by simp [IntKind.wrap, IntKind.bits, IntKind.signed]; omega
  have zv : (k : Int) / 6 % 256 = (k : Int) / 6 := by omega
  clear h0 hr hx hk hn hcap1
  go_enter Tryz.func42, Tryz.ntmps42
  go_wp2_with fail
  refine (show Calls _ _ #[.int .u8 ((k : Int) / 6)] _ _ from one_any (k / 6) _ (by omega)).mono ?_
  rintro e w2 ⟨rfl, rfl⟩
  go_wp2
  (try simp only [Exit.inBlock, Exit.then])
  refine bodyPost_ret (v := .tuple #[.agg #[.int .i64 2, .int .i64 (oneL (k / 6)), .string ⟨#[]⟩, .slice none 0 0, .slice none 0 0], .slice (some ⟨b, off + 1, none⟩) n (cap - 1)]) ?_ rfl ⟨[.int .i64 2, .int .i64 (oneL (k / 6)), .string ⟨#[]⟩, .slice none 0 0, .slice none 0 0], _, rfl, .int _ (one_range _ (by omega)), HR.out.later ((Below.refl _ w).alloc hnb _), (Below.refl _ w).alloc (Nat.le_refl _) _⟩
  rw [results_cell_tmp rfl]
  go_simp
set_option maxHeartbeats 4000000 in
set_option maxRecDepth 100000 in
theorem made_text1 (d nb : Nat) (w : World) (sv : Value) (c : UInt8) (l : BL) (hnb : nb ≤ w.heap.size) (h : BRead nb w sv (c :: l)) (hcap1 : ∃ a n, sv = .slice a n 1) (hc : c.toNat % 6 = 3) (hW : Words w) : MadeC d nb w sv (c :: l) := by
  obtain ⟨hm, a, cap, rfl, hcap, hx⟩ := h
  obtain ⟨b, off, rfl, hbn, hr⟩ := hx (by simp)
  have hc1 : cap = 1 := by obtain ⟨a2, n2, h2⟩ := hcap1; simpa using congrArg (fun v => match v with | Value.slice _ _ k => k | _ => 0) h2
  have h0 := hr 0 c rfl
  rw [Nat.add_zero] at h0
  have h0a : (w.alloc (.cells #[.int .i64 0, .int .i64 0, .string ⟨#[]⟩, .slice none 0 0, .slice none 0 0] 40)).cell? ⟨b, off, none⟩ = some (.int .u8 c.toNat) := bcell ((Below.refl _ w).alloc (Nat.le_refl _) _) h0
  unfold MadeC
  rw [made_leaf_eq d c l (.inr (by omega)) (.inr (by omega)), show leafL c.toNat = .text (wordL (c.toNat / 6 % 8)) by unfold leafL; rw [if_neg (by omega), if_neg (by omega), if_pos hc]]
  obtain ⟨D, hD⟩ : ∃ D : Int, (d : Int) + 1 = D := ⟨_, rfl⟩
  rw [hD]
  clear hD
  rw [List.length_cons] at hcap hm ⊢
  have HR := Lib.hid (BRead.cap1 (nb := nb) (w := w) (b := b) (off := off) hm hcap hc1)
  obtain ⟨n, hn⟩ : ∃ n, l.length = n := ⟨_, rfl⟩
  rw [hn] at hcap hm HR ⊢
  obtain ⟨k, hk⟩ : ∃ k, c.toNat = k := ⟨_, rfl⟩
  rw [hk] at h0a hc
  (try rw [hk])
  have hk8 : k < 256 := by rw [← hk]; exact c.toNat_lt
  have z6 : (k : Int) % 6 = 3 := by omega
  have zw : IntKind.i64.wrap ((k : Int) / 6) = (k : Int) / 6 := by rw [IntKind.wrap_i64]; omega
  obtain ⟨j, hj⟩ : ∃ j, k / 6 % 8 = j := ⟨_, rfl⟩
  have hj8 : j < 8 := by omega
  have zj : (k : Int) / 6 % 8 = (j : Int) := by omega
  have hjz : (j : Int) < 8 := by omega
  have hwd := bcell ((Below.refl _ w).alloc (Nat.le_refl _) (.cells #[.int .i64 0, .int .i64 0, .string ⟨#[]⟩, .slice none 0 0, .slice none 0 0] 40)) (hW.1 j hj8)
  rw [hj]
  obtain ⟨T, hT⟩ : ∃ T, BA (wordL j) = T := ⟨_, rfl⟩
  rw [hT] at hwd
  have HT := Lib.hid hT
  clear hT hj hW
  clear h0 hr hx hk hn hcap1
  go_enter Tryz.func42, Tryz.ntmps42
  go_wp2
  (try simp only [Exit.inBlock, Exit.then])
  refine bodyPost_ret (v := .tuple #[.agg #[.int .i64 3, .int .i64 0, .string T, .slice none 0 0, .slice none 0 0], .slice (some ⟨b, off, none⟩) n 0]) ?_ rfl ⟨[.int .i64 3, .int .i64 0, .string T, .slice none 0 0, .slice none 0 0], _, rfl, (by rw [← HT.out]; exact .text _), HR.out.later ((Below.refl _ w).alloc hnb _), (Below.refl _ w).alloc (Nat.le_refl _) _⟩
  rw [results_cell_tmp rfl]
  go_simp
set_option maxHeartbeats 4000000 in
set_option maxRecDepth 100000 in
theorem made_textn (d nb : Nat) (w : World) (sv : Value) (c : UInt8) (l : BL) (hnb : nb ≤ w.heap.size) (h : BRead nb w sv (c :: l)) (hcap1 : ¬ ∃ a n, sv = .slice a n 1) (hc : c.toNat % 6 = 3) (hW : Words w) : MadeC d nb w sv (c :: l) := by
  obtain ⟨hm, a, cap, rfl, hcap, hx⟩ := h
  obtain ⟨b, off, rfl, hbn, hr⟩ := hx (by simp)
  have hc1 : ¬ cap = 1 := fun e => hcap1 ⟨_, _, by rw [e]⟩
  have h0 := hr 0 c rfl
  rw [Nat.add_zero] at h0
  have h0a : (w.alloc (.cells #[.int .i64 0, .int .i64 0, .string ⟨#[]⟩, .slice none 0 0, .slice none 0 0] 40)).cell? ⟨b, off, none⟩ = some (.int .u8 c.toNat) := bcell ((Below.refl _ w).alloc (Nat.le_refl _) _) h0
  unfold MadeC
  rw [made_leaf_eq d c l (.inr (by omega)) (.inr (by omega)), show leafL c.toNat = .text (wordL (c.toNat / 6 % 8)) by unfold leafL; rw [if_neg (by omega), if_neg (by omega), if_pos hc]]
  obtain ⟨D, hD⟩ : ∃ D : Int, (d : Int) + 1 = D := ⟨_, rfl⟩
  rw [hD]
  clear hD
  rw [List.length_cons] at hcap hm ⊢
  have HR := Lib.hid (BRead.tail hbn hm hcap hr)
  obtain ⟨n, hn⟩ : ∃ n, l.length = n := ⟨_, rfl⟩
  rw [hn] at hcap hm HR ⊢
  obtain ⟨k, hk⟩ : ∃ k, c.toNat = k := ⟨_, rfl⟩
  rw [hk] at h0a hc
  (try rw [hk])
  have hk8 : k < 256 := by rw [← hk]; exact c.toNat_lt
  have z6 : (k : Int) % 6 = 3 := by omega
  have zw : IntKind.i64.wrap ((k : Int) / 6) = (k : Int) / 6 := by rw [IntKind.wrap_i64]; omega
  obtain ⟨j, hj⟩ : ∃ j, k / 6 % 8 = j := ⟨_, rfl⟩
  have hj8 : j < 8 := by omega
  have zj : (k : Int) / 6 % 8 = (j : Int) := by omega
  have hjz : (j : Int) < 8 := by omega
  have hwd := bcell ((Below.refl _ w).alloc (Nat.le_refl _) (.cells #[.int .i64 0, .int .i64 0, .string ⟨#[]⟩, .slice none 0 0, .slice none 0 0] 40)) (hW.1 j hj8)
  rw [hj]
  obtain ⟨T, hT⟩ : ∃ T, BA (wordL j) = T := ⟨_, rfl⟩
  rw [hT] at hwd
  have HT := Lib.hid hT
  clear hT hj hW
  clear h0 hr hx hk hn hcap1
  go_enter Tryz.func42, Tryz.ntmps42
  go_wp2
  (try simp only [Exit.inBlock, Exit.then])
  refine bodyPost_ret (v := .tuple #[.agg #[.int .i64 3, .int .i64 0, .string T, .slice none 0 0, .slice none 0 0], .slice (some ⟨b, off + 1, none⟩) n (cap - 1)]) ?_ rfl ⟨[.int .i64 3, .int .i64 0, .string T, .slice none 0 0, .slice none 0 0], _, rfl, (by rw [← HT.out]; exact .text _), HR.out.later ((Below.refl _ w).alloc hnb _), (Below.refl _ w).alloc (Nat.le_refl _) _⟩
  rw [results_cell_tmp rfl]
  go_simp
set_option maxHeartbeats 4000000 in
set_option maxRecDepth 100000 in
theorem made_null1 (d nb : Nat) (w : World) (sv : Value) (c : UInt8) (l : BL) (hnb : nb ≤ w.heap.size) (h : BRead nb w sv (c :: l)) (hcap1 : ∃ a n, sv = .slice a n 1) (hc : c.toNat % 6 = 0) : MadeC d nb w sv (c :: l) := by
  obtain ⟨hm, a, cap, rfl, hcap, hx⟩ := h
  obtain ⟨b, off, rfl, hbn, hr⟩ := hx (by simp)
  have hc1 : cap = 1 := by obtain ⟨a2, n2, h2⟩ := hcap1; simpa using congrArg (fun v => match v with | Value.slice _ _ k => k | _ => 0) h2
  have h0 := hr 0 c rfl
  rw [Nat.add_zero] at h0
  have h0a : (w.alloc (.cells #[.int .i64 0, .int .i64 0, .string ⟨#[]⟩, .slice none 0 0, .slice none 0 0] 40)).cell? ⟨b, off, none⟩ = some (.int .u8 c.toNat) := bcell ((Below.refl _ w).alloc (Nat.le_refl _) _) h0
  unfold MadeC
  rw [made_leaf_eq d c l (.inr (by omega)) (.inr (by omega)), show leafL c.toNat = .null by unfold leafL; rw [if_neg (by omega), if_neg (by omega), if_neg (by omega)]]
  obtain ⟨D, hD⟩ : ∃ D : Int, (d : Int) + 1 = D := ⟨_, rfl⟩
  rw [hD]
  clear hD
  rw [List.length_cons] at hcap hm ⊢
  have HR := Lib.hid (BRead.cap1 (nb := nb) (w := w) (b := b) (off := off) hm hcap hc1)
  obtain ⟨n, hn⟩ : ∃ n, l.length = n := ⟨_, rfl⟩
  rw [hn] at hcap hm HR ⊢
  obtain ⟨k, hk⟩ : ∃ k, c.toNat = k := ⟨_, rfl⟩
  rw [hk] at h0a hc
  (try rw [hk])
  have hk8 : k < 256 := by rw [← hk]; exact c.toNat_lt
  have z6 : (k : Int) % 6 = 0 := by omega
  have zw : IntKind.i64.wrap ((k : Int) / 6) = (k : Int) / 6 := by rw [IntKind.wrap_i64]; omega
  clear h0 hr hx hk hn hcap1
  go_enter Tryz.func42, Tryz.ntmps42
  go_wp2
  (try simp only [Exit.inBlock, Exit.then])
  refine bodyPost_ret (v := .tuple #[.agg #[.int .i64 0, .int .i64 0, .string ⟨#[]⟩, .slice none 0 0, .slice none 0 0], .slice (some ⟨b, off, none⟩) n 0]) ?_ rfl ⟨[.int .i64 0, .int .i64 0, .string ⟨#[]⟩, .slice none 0 0, .slice none 0 0], _, rfl, .null, HR.out.later ((Below.refl _ w).alloc hnb _), (Below.refl _ w).alloc (Nat.le_refl _) _⟩
  rw [results_cell_tmp rfl]
  go_simp
set_option maxHeartbeats 4000000 in
set_option maxRecDepth 100000 in
theorem made_nulln (d nb : Nat) (w : World) (sv : Value) (c : UInt8) (l : BL) (hnb : nb ≤ w.heap.size) (h : BRead nb w sv (c :: l)) (hcap1 : ¬ ∃ a n, sv = .slice a n 1) (hc : c.toNat % 6 = 0) : MadeC d nb w sv (c :: l) := by
  obtain ⟨hm, a, cap, rfl, hcap, hx⟩ := h
  obtain ⟨b, off, rfl, hbn, hr⟩ := hx (by simp)
  have hc1 : ¬ cap = 1 := fun e => hcap1 ⟨_, _, by rw [e]⟩
  have h0 := hr 0 c rfl
  rw [Nat.add_zero] at h0
  have h0a : (w.alloc (.cells #[.int .i64 0, .int .i64 0, .string ⟨#[]⟩, .slice none 0 0, .slice none 0 0] 40)).cell? ⟨b, off, none⟩ = some (.int .u8 c.toNat) := bcell ((Below.refl _ w).alloc (Nat.le_refl _) _) h0
  unfold MadeC
  rw [made_leaf_eq d c l (.inr (by omega)) (.inr (by omega)), show leafL c.toNat = .null by unfold leafL; rw [if_neg (by omega), if_neg (by omega), if_neg (by omega)]]
  obtain ⟨D, hD⟩ : ∃ D : Int, (d : Int) + 1 = D := ⟨_, rfl⟩
  rw [hD]
  clear hD
  rw [List.length_cons] at hcap hm ⊢
  have HR := Lib.hid (BRead.tail hbn hm hcap hr)
  obtain ⟨n, hn⟩ : ∃ n, l.length = n := ⟨_, rfl⟩
  rw [hn] at hcap hm HR ⊢
  obtain ⟨k, hk⟩ : ∃ k, c.toNat = k := ⟨_, rfl⟩
  rw [hk] at h0a hc
  (try rw [hk])
  have hk8 : k < 256 := by rw [← hk]; exact c.toNat_lt
  have z6 : (k : Int) % 6 = 0 := by omega
  have zw : IntKind.i64.wrap ((k : Int) / 6) = (k : Int) / 6 := by rw [IntKind.wrap_i64]; omega
  clear h0 hr hx hk hn hcap1
  go_enter Tryz.func42, Tryz.ntmps42
  go_wp2
  (try simp only [Exit.inBlock, Exit.then])
  refine bodyPost_ret (v := .tuple #[.agg #[.int .i64 0, .int .i64 0, .string ⟨#[]⟩, .slice none 0 0, .slice none 0 0], .slice (some ⟨b, off + 1, none⟩) n (cap - 1)]) ?_ rfl ⟨[.int .i64 0, .int .i64 0, .string ⟨#[]⟩, .slice none 0 0, .slice none 0 0], _, rfl, .null, HR.out.later ((Below.refl _ w).alloc hnb _), (Below.refl _ w).alloc (Nat.le_refl _) _⟩
  rw [results_cell_tmp rfl]
  go_simp
set_option maxHeartbeats 4000000 in
set_option maxRecDepth 100000 in
theorem made_deep41 (nb : Nat) (w : World) (sv : Value) (c : UInt8) (l : BL) (hnb : nb ≤ w.heap.size) (h : BRead nb w sv (c :: l)) (hcap1 : ∃ a n, sv = .slice a n 1) (hc : c.toNat % 6 = 4) : MadeC 0 nb w sv (c :: l) := by
  obtain ⟨hm, a, cap, rfl, hcap, hx⟩ := h
  obtain ⟨b, off, rfl, hbn, hr⟩ := hx (by simp)
  have hc1 : cap = 1 := by obtain ⟨a2, n2, h2⟩ := hcap1; simpa using congrArg (fun v => match v with | Value.slice _ _ k => k | _ => 0) h2
  have h0 := hr 0 c rfl
  rw [Nat.add_zero] at h0
  have h0a : (w.alloc (.cells #[.int .i64 0, .int .i64 0, .string ⟨#[]⟩, .slice none 0 0, .slice none 0 0] 40)).cell? ⟨b, off, none⟩ = some (.int .u8 c.toNat) := bcell ((Below.refl _ w).alloc (Nat.le_refl _) _) h0
  unfold MadeC
  rw [made_leaf_eq 0 c l (.inl rfl) (.inl rfl), show leafL c.toNat = .null by unfold leafL; rw [if_neg (by omega), if_neg (by omega), if_neg (by omega)]]
  rw [List.length_cons] at hcap hm ⊢
  have HR := Lib.hid (BRead.cap1 (nb := nb) (w := w) (b := b) (off := off) hm hcap hc1)
  obtain ⟨n, hn⟩ : ∃ n, l.length = n := ⟨_, rfl⟩
  rw [hn] at hcap hm HR ⊢
  obtain ⟨k, hk⟩ : ∃ k, c.toNat = k := ⟨_, rfl⟩
  rw [hk] at h0a hc
  (try rw [hk])
  have hk8 : k < 256 := by rw [← hk]; exact c.toNat_lt
  have z6 : (k : Int) % 6 = 4 := by omega
  have zw : IntKind.i64.wrap ((k : Int) / 6) = (k : Int) / 6 := by rw [IntKind.wrap_i64]; omega
  clear h0 hr hx hk hn hcap1
  go_enter Tryz.func42, Tryz.ntmps42
  go_wp2
  (try simp only [Exit.inBlock, Exit.then])
  refine bodyPost_ret (v := .tuple #[.agg #[.int .i64 0, .int .i64 0, .string ⟨#[]⟩, .slice none 0 0, .slice none 0 0], .slice (some ⟨b, off, none⟩) n 0]) ?_ rfl ⟨[.int .i64 0, .int .i64 0, .string ⟨#[]⟩, .slice none 0 0, .slice none 0 0], _, rfl, .null, HR.out.later ((Below.refl _ w).alloc hnb _), (Below.refl _ w).alloc (Nat.le_refl _) _⟩
  rw [results_cell_tmp rfl]
  go_simp
set_option maxHeartbeats 4000000 in
set_option maxRecDepth 100000 in
theorem made_deep4n (nb : Nat) (w : World) (sv : Value) (c : UInt8) (l : BL) (hnb : nb ≤ w.heap.size) (h : BRead nb w sv (c :: l)) (hcap1 : ¬ ∃ a n, sv = .slice a n 1) (hc : c.toNat % 6 = 4) : MadeC 0 nb w sv (c :: l) := by
  obtain ⟨hm, a, cap, rfl, hcap, hx⟩ := h
  obtain ⟨b, off, rfl, hbn, hr⟩ := hx (by simp)
  have hc1 : ¬ cap = 1 := fun e => hcap1 ⟨_, _, by rw [e]⟩
  have h0 := hr 0 c rfl
  rw [Nat.add_zero] at h0
  have h0a : (w.alloc (.cells #[.int .i64 0, .int .i64 0, .string ⟨#[]⟩, .slice none 0 0, .slice none 0 0] 40)).cell? ⟨b, off, none⟩ = some (.int .u8 c.toNat) := bcell ((Below.refl _ w).alloc (Nat.le_refl _) _) h0
  unfold MadeC
  rw [made_leaf_eq 0 c l (.inl rfl) (.inl rfl), show leafL c.toNat = .null by unfold leafL; rw [if_neg (by omega), if_neg (by omega), if_neg (by omega)]]
  rw [List.length_cons] at hcap hm ⊢
  have HR := Lib.hid (BRead.tail hbn hm hcap hr)
  obtain ⟨n, hn⟩ : ∃ n, l.length = n := ⟨_, rfl⟩
  rw [hn] at hcap hm HR ⊢
  obtain ⟨k, hk⟩ : ∃ k, c.toNat = k := ⟨_, rfl⟩
  rw [hk] at h0a hc
  (try rw [hk])
  have hk8 : k < 256 := by rw [← hk]; exact c.toNat_lt
  have z6 : (k : Int) % 6 = 4 := by omega
  have zw : IntKind.i64.wrap ((k : Int) / 6) = (k : Int) / 6 := by rw [IntKind.wrap_i64]; omega
  clear h0 hr hx hk hn hcap1
  go_enter Tryz.func42, Tryz.ntmps42
  go_wp2
  (try simp only [Exit.inBlock, Exit.then])
  refine bodyPost_ret (v := .tuple #[.agg #[.int .i64 0, .int .i64 0, .string ⟨#[]⟩, .slice none 0 0, .slice none 0 0], .slice (some ⟨b, off + 1, none⟩) n (cap - 1)]) ?_ rfl ⟨[.int .i64 0, .int .i64 0, .string ⟨#[]⟩, .slice none 0 0, .slice none 0 0], _, rfl, .null, HR.out.later ((Below.refl _ w).alloc hnb _), (Below.refl _ w).alloc (Nat.le_refl _) _⟩
  rw [results_cell_tmp rfl]
  go_simp
set_option maxHeartbeats 4000000 in
set_option maxRecDepth 100000 in
theorem made_deep51 (nb : Nat) (w : World) (sv : Value) (c : UInt8) (l : BL) (hnb : nb ≤ w.heap.size) (h : BRead nb w sv (c :: l)) (hcap1 : ∃ a n, sv = .slice a n 1) (hc : c.toNat % 6 = 5) : MadeC 0 nb w sv (c :: l) := by
  obtain ⟨hm, a, cap, rfl, hcap, hx⟩ := h
  obtain ⟨b, off, rfl, hbn, hr⟩ := hx (by simp)
  have hc1 : cap = 1 := by obtain ⟨a2, n2, h2⟩ := hcap1; simpa using congrArg (fun v => match v with | Value.slice _ _ k => k | _ => 0) h2
  have h0 := hr 0 c rfl
  rw [Nat.add_zero] at h0
  have h0a : (w.alloc (.cells #[.int .i64 0, .int .i64 0, .string ⟨#[]⟩, .slice none 0 0, .slice none 0 0] 40)).cell? ⟨b, off, none⟩ = some (.int .u8 c.toNat) := bcell ((Below.refl _ w).alloc (Nat.le_refl _) _) h0
  unfold MadeC
  rw [made_leaf_eq 0 c l (.inl rfl) (.inl rfl), show leafL c.toNat = .null by unfold leafL; rw [if_neg (by omega), if_neg (by omega), if_neg (by omega)]]
  rw [List.length_cons] at hcap hm ⊢
  have HR := Lib.hid (BRead.cap1 (nb := nb) (w := w) (b := b) (off := off) hm hcap hc1)
  obtain ⟨n, hn⟩ : ∃ n, l.length = n := ⟨_, rfl⟩
  rw [hn] at hcap hm HR ⊢
  obtain ⟨k, hk⟩ : ∃ k, c.toNat = k := ⟨_, rfl⟩
  rw [hk] at h0a hc
  (try rw [hk])
  have hk8 : k < 256 := by rw [← hk]; exact c.toNat_lt
  have z6 : (k : Int) % 6 = 5 := by omega
  have zw : IntKind.i64.wrap ((k : Int) / 6) = (k : Int) / 6 := by rw [IntKind.wrap_i64]; omega
  clear h0 hr hx hk hn hcap1
  go_enter Tryz.func42, Tryz.ntmps42
  go_wp2
  (try simp only [Exit.inBlock, Exit.then])
  refine bodyPost_ret (v := .tuple #[.agg #[.int .i64 0, .int .i64 0, .string ⟨#[]⟩, .slice none 0 0, .slice none 0 0], .slice (some ⟨b, off, none⟩) n 0]) ?_ rfl ⟨[.int .i64 0, .int .i64 0, .string ⟨#[]⟩, .slice none 0 0, .slice none 0 0], _, rfl, .null, HR.out.later ((Below.refl _ w).alloc hnb _), (Below.refl _ w).alloc (Nat.le_refl _) _⟩
  rw [results_cell_tmp rfl]
  go_simp
set_option maxHeartbeats 4000000 in
set_option maxRecDepth 100000 in
theorem made_deep5n (nb : Nat) (w : World) (sv : Value) (c : UInt8) (l : BL) (hnb : nb ≤ w.heap.size) (h : BRead nb w sv (c :: l)) (hcap1 : ¬ ∃ a n, sv = .slice a n 1) (hc : c.toNat % 6 = 5) : MadeC 0 nb w sv (c :: l) := by
  obtain ⟨hm, a, cap, rfl, hcap, hx⟩ := h
  obtain ⟨b, off, rfl, hbn, hr⟩ := hx (by simp)
  have hc1 : ¬ cap = 1 := fun e => hcap1 ⟨_, _, by rw [e]⟩
  have h0 := hr 0 c rfl
  rw [Nat.add_zero] at h0
  have h0a : (w.alloc (.cells #[.int .i64 0, .int .i64 0, .string ⟨#[]⟩, .slice none 0 0, .slice none 0 0] 40)).cell? ⟨b, off, none⟩ = some (.int .u8 c.toNat) := bcell ((Below.refl _ w).alloc (Nat.le_refl _) _) h0
  unfold MadeC
  rw [made_leaf_eq 0 c l (.inl rfl) (.inl rfl), show leafL c.toNat = .null by unfold leafL; rw [if_neg (by omega), if_neg (by omega), if_neg (by omega)]]
  rw [List.length_cons] at hcap hm ⊢
  have HR := Lib.hid (BRead.tail hbn hm hcap hr)
  obtain ⟨n, hn⟩ : ∃ n, l.length = n := ⟨_, rfl⟩
  rw [hn] at hcap hm HR ⊢
  obtain ⟨k, hk⟩ : ∃ k, c.toNat = k := ⟨_, rfl⟩
  rw [hk] at h0a hc
  (try rw [hk])
  have hk8 : k < 256 := by rw [← hk]; exact c.toNat_lt
  have z6 : (k : Int) % 6 = 5 := by omega
  have zw : IntKind.i64.wrap ((k : Int) / 6) = (k : Int) / 6 := by rw [IntKind.wrap_i64]; omega
  clear h0 hr hx hk hn hcap1
  go_enter Tryz.func42, Tryz.ntmps42
  go_wp2
  (try simp only [Exit.inBlock, Exit.then])
  refine bodyPost_ret (v := .tuple #[.agg #[.int .i64 0, .int .i64 0, .string ⟨#[]⟩, .slice none 0 0, .slice none 0 0], .slice (some ⟨b, off + 1, none⟩) n (cap - 1)]) ?_ rfl ⟨[.int .i64 0, .int .i64 0, .string ⟨#[]⟩, .slice none 0 0, .slice none 0 0], _, rfl, .null, HR.out.later ((Below.refl _ w).alloc hnb _), (Below.refl _ w).alloc (Nat.le_refl _) _⟩
  rw [results_cell_tmp rfl]
  go_simp
end Go.Proofs.YtecnjifincahaaaGreatDoor
namespace Go.Proofs.YtecnjifincahaaaGreatDoor
open Go.Shelf Go.RowKit Go.Lib
theorem infoV : (Tryz.prog.info? 40).map (fun i => (i.zero, i.size, i.bytes)) = some (some (.agg #[.int .i64 0, .int .i64 0, .string ⟨#[]⟩, .slice none 0 0, .slice none 0 0]), 5, 80) := by kernel_rfl
theorem value_parts : ∃ i0, Tryz.prog.info? 40 = some i0 ∧ i0.zero = some (.agg #[.int .i64 0, .int .i64 0, .string ⟨#[]⟩, .slice none 0 0, .slice none 0 0]) ∧ i0.size = 5 ∧ i0.bytes = 80 := info_parts infoV
theorem infoF : (Tryz.prog.info? 72).map (fun i => (i.zero, i.size, i.bytes)) = some (some (.agg #[.string ⟨#[]⟩, .int .i64 0, .int .i64 0, .string ⟨#[]⟩, .slice none 0 0, .slice none 0 0]), 6, 96) := by kernel_rfl
theorem field_parts : ∃ i0, Tryz.prog.info? 72 = some i0 ∧ i0.zero = some (.agg #[.string ⟨#[]⟩, .int .i64 0, .int .i64 0, .string ⟨#[]⟩, .slice none 0 0, .slice none 0 0]) ∧ i0.size = 6 ∧ i0.bytes = 96 := info_parts infoF
theorem made_cases (nb : Nat) (w : World) (b off cap n : Nat) (c : UInt8) (l : BL) (hl : l.length = n) (hbn : b < nb) (hm : n + 1 ≤ 9223372036854775807) (hcap : n + 1 ≤ cap) (hr : ∀ i u, (c :: l)[i]? = some u → w.cell? ⟨b, off + i, none⟩ = some (.int .u8 u.toNat)) :
    ∃ R, ((cap = 1 ∧ Value.slice (some ⟨b, off, none⟩) n 0 = R) ∨ (¬ cap = 1 ∧ Value.slice (some ⟨b, off + 1, none⟩) n (cap - 1) = R)) ∧ BRead nb w R l := by
  subst hl
  by_cases h : cap = 1
  · exact ⟨_, .inl ⟨h, rfl⟩, BRead.cap1 hm hcap h⟩
  · exact ⟨_, .inr ⟨h, rfl⟩, BRead.tail hbn hm hcap hr⟩
theorem blk_alloc2 (w : World) (o : Obj) (cs : List Value) (e : TypeId) : Blk ((w.alloc o).alloc (.cells cs.toArray e)) (w.heap.size + 1) e cs := by
  have h := heap_alloc_new (w.alloc o) (.cells cs.toArray e)
  rw [show (w.alloc o).heap.size = w.heap.size + 1 by simp] at h
  exact h
theorem own_later {w w2 : World} {b size n : Nat} {e : TypeId} {v : Value} {xs : List Value} (h : w.ownsRow b e size v n xs) (hb : Below w.heap.size w w2) : w2.ownsRow b e size v n xs :=
  h.kept (row := none) ⟨hb.os, hb.tape, hb.output, hb.size, fun k hk _ => hb.block k hk⟩ (by rcases hv : v.ownBlock with _ | k <;> simp)
/-- one more thing in a row of one's own: what stood in it stands. -/
theorem push_keep {P size n : Nat} {e : TypeId} {wr w2 w5 : World} {o1 o2 : Obj} {ov v' : Value} {cs : List Value} (hown : wr.ownsRow (P + 2) e size ov n cs) (hbel : Below wr.heap.size wr w2)
    (hg : ((w2.alloc o1).alloc o2).grownBy w5 ov.ownBlock) (hat : v'.ownBlock = ov.ownBlock ∨ v'.ownBlock = some ((w2.alloc o1).alloc o2).heap.size) (j : Nat) (u : Value) :
    (∀ b, (some b ≠ ov.ownBlock ∧ P + 2 ≤ b ∧ b < wr.heap.size) → (some b ≠ v'.ownBlock ∧ P + 2 ≤ b ∧ b < (w5.setCell ⟨P + 1, j, none⟩ u).heap.size)) ∧
    (∀ b, (some b ≠ ov.ownBlock ∧ P + 2 ≤ b ∧ b < wr.heap.size) → ∀ k z, wr.cell? ⟨b, k, none⟩ = some z → (w5.setCell ⟨P + 1, j, none⟩ u).cell? ⟨b, k, none⟩ = some z) ∧
    (P + 2 ≤ wr.heap.size → ∀ b, (wr.heap.size ≤ b ∧ b < w2.heap.size) → (some b ≠ v'.ownBlock ∧ P + 2 ≤ b ∧ b < (w5.setCell ⟨P + 1, j, none⟩ u).heap.size)) ∧
    (P + 2 ≤ wr.heap.size → ∀ b, (wr.heap.size ≤ b ∧ b < w2.heap.size) → ∀ k z, w2.cell? ⟨b, k, none⟩ = some z → (w5.setCell ⟨P + 1, j, none⟩ u).cell? ⟨b, k, none⟩ = some z) := by
  have s1 : w2.heap.size + 2 ≤ w5.heap.size := by have := hg.size; simpa using this
  have s2 : wr.heap.size ≤ w2.heap.size := hbel.size
  have s3 : (w5.setCell ⟨P + 1, j, none⟩ u).heap.size = w5.heap.size := by simp
  have s4 : ((w2.alloc o1).alloc o2).heap.size = w2.heap.size + 2 := by simp
  have keep : ∀ b, b ≠ P + 1 → some b ≠ ov.ownBlock → ∀ k z, w2.cell? ⟨b, k, none⟩ = some z → (w5.setCell ⟨P + 1, j, none⟩ u).cell? ⟨b, k, none⟩ = some z := fun b h1 h2 k z hz => by
    rw [World.cell?_setCell_other _ _ _ _ (fun e => h1 (by injection e with e1; exact e1.symm))]
    exact hg.cell (bcell ((Below.refl _ (w2.alloc o1)).alloc (Nat.le_refl _) _) (bcell ((Below.refl _ w2).alloc (Nat.le_refl _) _) hz)) h2
  have lt : ∀ k, ov.ownBlock = some k → k < wr.heap.size := fun k hk => (hown.lt k hk).2
  refine ⟨fun b hb => ⟨?_, hb.2.1, by omega⟩, fun b hb k z hz => keep b (by omega) hb.1 k z (bcell hbel hz), fun hP b hb => ⟨?_, by omega, by omega⟩, fun hP b hb k z hz => keep b (by omega) ?_ k z hz⟩
  · rcases hat with h | h
    · rw [h]; exact hb.1
    · rw [h, s4]; intro e; injection e with e; omega
  · rcases hat with h | h
    · rw [h]; intro e; have := lt b e.symm; omega
    · rw [h, s4]; intro e; injection e with e; omega
  · intro e
    have := lt b e.symm
    omega
theorem push_below {P size n : Nat} {e : TypeId} {w wr w2 w5 : World} {o1 o2 : Obj} {ov : Value} {cs : List Value} (hP : w.heap.size = P) (HW : Below w.heap.size w wr) (hown : wr.ownsRow (P + 2) e size ov n cs) (hbel : Below wr.heap.size wr w2)
    (hg : ((w2.alloc o1).alloc o2).grownBy w5 ov.ownBlock) (j : Nat) (u : Value) : Below w.heap.size w (w5.setCell ⟨P + 1, j, none⟩ u) := by
  have h1 := HW.trans (hbel.mono HW.size)
  have h2 := (h1.alloc h1.size o1)
  have h3 := h2.alloc h2.size o2
  exact (h3.grown hg h3.size (fun k hk => by have := (hown.lt k hk).1; omega)).setCell (p := ⟨P + 1, j, none⟩) (by show w.heap.size ≤ P + 1; omega) _
theorem push_blk {P size n c : Nat} {e t : TypeId} {wr w2 w5 : World} {o1 o2 : Obj} {ov : Value} {cs xs : List Value} (hown : wr.ownsRow (P + 2) e size ov n cs) (hbel : Below wr.heap.size wr w2)
    (hg : ((w2.alloc o1).alloc o2).grownBy w5 ov.ownBlock) (hc : c < P + 2) (h : Blk wr c t xs) : Blk w5 c t xs := by
  have h1 := ((h.below hbel).alloc o1).alloc o2
  exact (hg.block c h1.lt (fun e => by have := (hown.lt c e.symm).1; omega)).trans h1
theorem add_at (g k : Nat) : (⟨g, 0, none⟩ : Addr).add k = ⟨g, k, none⟩ := by
  unfold Addr.add
  by_cases hk : k = 0 <;> simp [hk]
theorem slice_of_own {w : World} {B n size : Nat} {e : TypeId} {v : Value} {cs : List Value} (h : w.ownsRow B e size v n cs) : ∃ p c, v = .slice p n c := by
  rcases h.2 with ⟨rfl, rfl⟩ | ⟨g, cap, cur, rfl, _⟩
  · exact ⟨_, _, rfl⟩
  · exact ⟨_, _, rfl⟩
theorem row_of_own {S : Nat → Prop} {w : World} {B n size : Nat} {e : TypeId} {v : Value} {cs : List Value} (h : w.ownsRow B e size v n cs) (hS : ∀ k, v.ownBlock = some k → S k) (hn : n ≤ 9223372036854775807) : RowAt S w v n cs := by
  refine ⟨hn, ?_⟩
  have hc := @World.ownsRow.cells w B e size v n cs h
  rcases h.2 with ⟨rfl, rfl⟩ | ⟨g, cap, cur, rfl, _⟩
  · exact .inl ⟨rfl, rfl⟩
  · exact .inr ⟨g, cap, rfl, hS g rfl, fun k u hu => by have h := hc rfl k u hu; rw [add_at] at h; exact h⟩
theorem timesL_len (rec : BL → V × BL) (b : BL) : ∀ k, (timesL rec k b).1.length = k
  | 0 => rfl
  | k + 1 => by rw [timesL]; simp [timesL_len rec b k]
theorem timesL_succ (rec : BL → V × BL) (k : Nat) (b : BL) : timesL rec (k + 1) b = ((timesL rec k b).1 ++ [(rec (timesL rec k b).2).1], (rec (timesL rec k b).2).2) := rfl
/-- five cells stored into a block of one's own. -/
theorem five_set {w : World} {P : Nat} {e : TypeId} {a0 a1 a2 a3 a4 b0 b1 b2 b3 b4 : Value} (h : Blk w P e [a0, a1, a2, a3, a4]) {W5 : World}
    (hW : (((((w.setCell ⟨P, 0, none⟩ b0).setCell ⟨P, 1, none⟩ b1).setCell ⟨P, 2, none⟩ b2).setCell ⟨P, 3, none⟩ b3).setCell ⟨P, 4, none⟩ b4) = W5) : Blk W5 P e [b0, b1, b2, b3, b4] ∧ Only (fun x => x = P) w W5 := by
  subst hW
  exact ⟨((((h.set 0 b0).set 1 b1).set 2 b2).set 3 b3).set 4 b4, ((((Only.set1 w P 0 _).trans (Only.set1 _ P 1 _)).trans (Only.set1 _ P 2 _)).trans (Only.set1 _ P 3 _)).trans (Only.set1 _ P 4 _)⟩
set_option maxHeartbeats 8000000 in
set_option maxRecDepth 100000 in
theorem made_list (d nb : Nat) (w : World) (sv : Value) (c : UInt8) (l : BL) (hnb : nb ≤ w.heap.size) (h : BRead nb w sv (c :: l)) (hc : c.toNat % 6 = 4) (hd : d ≤ 50) (hW : Words w)
    (ih : ∀ (w : World) (sv : Value) (l : BL), nb ≤ w.heap.size → BRead nb w sv l → Words w → MadeC d nb w sv l) : MadeC (d + 1) nb w sv (c :: l) := by
  obtain ⟨i0, hi0, hz0, hz1, hz2⟩ := value_parts
  obtain ⟨hm, a, cap, rfl, hcap, hx⟩ := h
  obtain ⟨b, off, rfl, hbn, hr⟩ := hx (by simp)
  have h0 := hr 0 c rfl
  rw [Nat.add_zero] at h0
  have h0a : (w.alloc (.cells #[.int .i64 0, .int .i64 0, .string ⟨#[]⟩, .slice none 0 0, .slice none 0 0] 40)).cell? ⟨b, off, none⟩ = some (.int .u8 c.toNat) := bcell ((Below.refl _ w).alloc (Nat.le_refl _) _) h0
  obtain ⟨m, hmm⟩ : ∃ m, c.toNat / 6 % 4 = m := ⟨_, rfl⟩
  unfold MadeC
  have hmade : madeL (d + 1) (c :: l) = (.list (timesL (madeL d) m l).1, (timesL (madeL d) m l).2) := by
    unfold madeL
    rw [if_pos hc, hmm]
  rw [hmade]
  rw [List.length_cons] at hcap hm ⊢
  obtain ⟨n, hn⟩ : ∃ n, l.length = n := ⟨_, rfl⟩
  rw [hn] at hcap hm ⊢
  obtain ⟨R, hcase, hR⟩ := made_cases nb w b off cap n c l hn hbn hm hcap hr
  obtain ⟨k, hk⟩ : ∃ k, c.toNat = k := ⟨_, rfl⟩
  rw [hk] at h0a hc hmm
  have hk8 : k < 256 := by rw [← hk]; exact c.toNat_lt
  have z6 : (k : Int) % 6 = 4 := by omega
  have zw : IntKind.i64.wrap ((k : Int) / 6) = (k : Int) / 6 := by rw [IntKind.wrap_i64]; omega
  have zm : (k : Int) / 6 % 4 = (m : Int) := by omega
  have hm4 : m < 4 := by omega
  obtain ⟨D, hD⟩ : ∃ D : Int, ((d + 1 : Nat) : Int) + 1 = D := ⟨_, rfl⟩
  have hD1 : 1 < D := by omega
  have hD2 : D ≤ 100 := by omega
  have hDe : D - 1 = (d : Int) + 1 := by omega
  rw [hD]
  have HP := Lib.hid (And.intro ih (And.intro hW (And.intro hnb (And.intro hR hDe))))
  clear h0 hr hx hk hn ih hW hnb hR hmade hD hmm hDe
  rcases hcase with ⟨hc1, hRe⟩ | ⟨hc1, hRe⟩
  all_goals (
    go_enter Tryz.func42, Tryz.ntmps42
    go_wp2_with fail
    clear hRe hc1 h0a hcap hm
    obtain ⟨P, hP⟩ : ∃ P, w.heap.size = P := ⟨_, rfl⟩
    obtain ⟨W0, hW0⟩ : ∃ W0, (w.alloc (.cells #[.int .i64 0, .int .i64 0, .string ⟨#[]⟩, .slice none 0 0, .slice none 0 0] 40)).alloc (.cells #[.int .i64 4, .int .i64 0, .string ⟨#[]⟩, .slice none 0 0, .slice none 0 0] 40) = W0 := ⟨_, rfl⟩
    have hblk := heap_alloc_new w (.cells #[.int .i64 0, .int .i64 0, .string ⟨#[]⟩, .slice none 0 0, .slice none 0 0] 40)
    have hb0 : Below w.heap.size w W0 := by rw [← hW0]; exact ((Below.refl _ w).alloc (Nat.le_refl _) _).alloc (by simp) _
    have hrb : Blk W0 P 40 [.int .i64 0, .int .i64 0, .string ⟨#[]⟩, .slice none 0 0, .slice none 0 0] := by rw [← hW0, ← hP]; exact Blk.alloc (g := w.heap.size) hblk _
    have hvb : Blk W0 (P + 1) 40 [.int .i64 4, .int .i64 0, .string ⟨#[]⟩, .slice none 0 0, .slice none 0 0] := by
      rw [← hW0, ← hP]
      exact blk_alloc2 w _ _ _
    have hsz0 : W0.heap.size = P + 2 := by rw [← hW0, ← hP]; simp
    have H0 := Lib.hid (And.intro hP (And.intro hb0 (And.intro hrb (And.intro hvb hsz0))))
    rw [hW0, hP]
    clear hP hW0 hblk hb0 hrb hvb hsz0
    have zn : ((n : Int) + 1 == 0) = false := by simp; omega
    (try simp only [z6, zn])
    clear zn z6
    go_loopg [0, 9] m (fun gk sv iv wr => ∃ (i : Nat) (ov : Value) (cs : List Value) (z : Value), gk + i = m ∧ iv = .int .i64 i ∧ z = sv ∧ Hid (BRead nb wr z (timesL (madeL d) i l).2) ∧ Hid (Blk wr P 40 [.int .i64 0, .int .i64 0, .string ⟨#[]⟩, .slice none 0 0, .slice none 0 0]) ∧
      Hid (Blk wr (P + 1) 40 [.int .i64 4, .int .i64 0, .string ⟨#[]⟩, ov, .slice none 0 0]) ∧ Hid (wr.ownsRow (P + 2) 40 5 ov i cs) ∧ Hid (VsAt (fun b => some b ≠ ov.ownBlock ∧ P + 2 ≤ b ∧ b < wr.heap.size) wr (timesL (madeL d) i l).1 cs) ∧ Hid (Below w.heap.size w wr) ∧ P + 2 ≤ wr.heap.size)
    case atStart => exact ⟨0, .slice none 0 0, [], _, Nat.add_zero _, rfl, rfl, HP.out.2.2.2.1.later (H0.out.2.1.mono HP.out.2.2.1), H0.out.2.2.1, H0.out.2.2.2.1, World.ownsRow_nil _ _ _ _, .nil, H0.out.2.1, by have := H0.out.2.2.2.2; omega⟩
    case round =>
      obtain ⟨i, ov, cs, z, hg, rfl, rfl, HB, HRb, HVb, HO, HVs, HW, hsr⟩ := hrel
      by_cases hi : i < m
      · have hiz : (i : Int) < (m : Int) := by omega
        have hwK : IntKind.i64.wrap ((i : Int) + 1) = ((i + 1 : Nat) : Int) := by rw [IntWalk.i64_in _ (by omega)]; omega
        have hih := HP.out.1 wr z (timesL (madeL d) i l).2 (Nat.le_trans HP.out.2.2.1 HW.out.size) HB.out (HP.out.2.1.later HW.out)
        unfold MadeC at hih
        rw [← HP.out.2.2.2.2] at hih
        have Hih := Lib.hid hih
        clear hih
        go_wp2_with fail
        refine Hih.out.mono ?_
        rintro e w2 ⟨qc, rv, rfl, hx, hrv, hbel⟩
        obtain ⟨q0, q1, q2, q3, q4, q5, q6, q7, q8, rfl⟩ := VAt.shape hx
        have HQ := Lib.hid (And.intro hx (And.intro hrv hbel))
        have HV2 := Lib.hid (HVb.out.below hbel)
        have v3 : (w2.alloc (.cells #[.int .i64 q0, .int .i64 q1, .string q2, .slice q3 q4 q5, .slice q6 q7 q8] 40)).cell? ⟨P + 1, 3, none⟩ = some ov := (HV2.out.alloc _).cell 3
        have HO4 := Lib.hid (((own_later HO.out hbel).alloc (.cells #[.int .i64 q0, .int .i64 q1, .string q2, .slice q3 q4 q5, .slice q6 q7 q8] 40)).alloc (.cells #[.int .i64 q0, .int .i64 q1, .string q2, .slice q3 q4 q5, .slice q6 q7 q8] 40))
        have hi4 : i + 1 ≤ 4 := by omega
        clear hx hrv hbel
        go_wp2_with (at_builtin; refine wpList_append_own_at _ rfl _ _ 37 rfl (P + 2) 40 i0 _ 5 80 Tryz.underlying37 hi0 hz0 hz1 hz2 rfl (by decide) _ _ _ rfl HO4.out ⟨w2.heap.size + 1, 0, none⟩ 1 1 [.int .i64 q0, .int .i64 q1, .string q2, .slice q3 q4 q5, .slice q6 q7 q8] rfl rfl ?c0 ?c1 ?c2 ?c3 ?c4 ?_)
        case c0 =>
          intro j u hu
          have h := (blk_alloc2 w2 (.cells #[.int .i64 q0, .int .i64 q1, .string q2, .slice q3 q4 q5, .slice q6 q7 q8] 40) [.int .i64 q0, .int .i64 q1, .string q2, .slice q3 q4 q5, .slice q6 q7 q8] 40).cell j
          rw [add_at]
          exact h.trans hu
        case c1 => exact HQ.out.1.one
        case c2 => unfold maxLen; omega
        case c3 => omega
        case c4 => have := HQ.out.2.2.size; simp; omega
        intro vv w5 hown2 hgr hnn hat
        obtain ⟨vp, vc, rfl⟩ := slice_of_own hown2
        have hK := push_keep HO.out HQ.out.2.2 hgr (hat.imp_right (fun h => h.trans (by simp))) 3 (.slice vp (i + 1) vc)
        have hbe := push_below H0.out.1 HW.out HO.out HQ.out.2.2 hgr 3 (.slice vp (i + 1) vc)
        have hp5 := push_blk HO.out HQ.out.2.2 hgr (by omega) HRb.out
        have hv5 := push_blk HO.out HQ.out.2.2 hgr (by omega) HVb.out
        have hsz5 : P + 2 ≤ (w5.setCell ⟨P + 1, 3, none⟩ (.slice vp (i + 1) vc)).heap.size := by have h1 := hgr.size; have h2 := HQ.out.2.2.size; simp at h1; simp; omega
        have hpf : Blk (w5.setCell ⟨P + 1, 3, none⟩ (.slice vp (i + 1) vc)) P 40 _ := hp5.only (Only.set1 w5 (P + 1) 3 (.slice vp (i + 1) vc)) (by omega)
        have hvf : Blk (w5.setCell ⟨P + 1, 3, none⟩ (.slice vp (i + 1) vc)) (P + 1) 40 [.int .i64 4, .int .i64 0, .string ⟨#[]⟩, (.slice vp (i + 1) vc), .slice none 0 0] := hv5.set 3 (.slice vp (i + 1) vc)
        have hof := ownsRow_setCell_below hown2 (a := ⟨P + 1, 3, none⟩) (by show P + 1 < P + 2; omega) (.slice vp (i + 1) vc)
        have hbb : Below nb w2 (w5.setCell ⟨P + 1, 3, none⟩ (.slice vp (i + 1) vc)) := by
          have hPn : nb ≤ P := by rw [← H0.out.1]; exact HP.out.2.2.1
          have h1 : Below nb w2 w2 := Below.refl _ _
          have h2 := h1.alloc (by have := HQ.out.2.2.size; omega) (.cells #[.int .i64 q0, .int .i64 q1, .string q2, .slice q3 q4 q5, .slice q6 q7 q8] 40)
          have h3 := h2.alloc (by have := HQ.out.2.2.size; simp; omega) (.cells #[.int .i64 q0, .int .i64 q1, .string q2, .slice q3 q4 q5, .slice q6 q7 q8] 40)
          exact (h3.grown hgr (by have := HQ.out.2.2.size; simp; omega) (fun k hk => by have := (HO.out.lt k hk).1; omega)).setCell (p := ⟨P + 1, 3, none⟩) (by show nb ≤ P + 1; omega) _
        have hvs := VsAt.snoc (HQ.out.1.keep (hK.2.2.1 hsr) (hK.2.2.2 hsr)) (HVs.out.keep hK.1 hK.2.1)
        have t3 := hv5.frozen 3
        have u3 := hv5.cell 3
        have HN := Lib.hid (And.intro hpf (And.intro hvf (And.intro hof (And.intro hvs (And.intro hbe (And.intro hsz5 (HQ.out.2.1.later hbb)))))))
        clear hK hbe hp5 hv5 hsz5 hpf hvf hof hbb hvs hown2 hgr hnn hat v3
        go_wp2
        go_roundg (gk - 1)
        case rel => exact ⟨i + 1, (.slice vp (i + 1) vc), _, _, by omega, rfl, rfl, Lib.hid HN.out.2.2.2.2.2.2, Lib.hid HN.out.1, Lib.hid HN.out.2.1, Lib.hid HN.out.2.2.1, Lib.hid HN.out.2.2.2.1, Lib.hid HN.out.2.2.2.2.1, HN.out.2.2.2.2.2.1⟩
        case measure => omega
      · have hie : i = m := by omega
        subst hie
        obtain ⟨op, oc, rfl⟩ := slice_of_own HO.out
        have hiz : ¬ (i : Int) < (i : Int) := by omega
        have v0 := HVb.out.cell 0
        have v1 := HVb.out.cell 1
        have v2 := HVb.out.cell 2
        have v3 := HVb.out.cell 3
        have v4 := HVb.out.cell 4
        have r0 := HRb.out.cell 0
        have r1 := HRb.out.cell 1
        have r2 := HRb.out.cell 2
        have r3 := HRb.out.cell 3
        have r4 := HRb.out.cell 4
        have s0 := HRb.out.frozen 0
        have s1 := HRb.out.frozen 1
        have s2 := HRb.out.frozen 2
        have s3 := HRb.out.frozen 3
        have s4 := HRb.out.frozen 4
        obtain ⟨W5, hW5⟩ : ∃ W5, (((((wr.setCell ⟨P, 0, none⟩ (.int .i64 4)).setCell ⟨P, 1, none⟩ (.int .i64 0)).setCell ⟨P, 2, none⟩ (.string ⟨#[]⟩)).setCell ⟨P, 3, none⟩ (.slice op i oc)).setCell ⟨P, 4, none⟩ (.slice none 0 0)) = W5 := ⟨_, rfl⟩
        obtain ⟨hR5, ho5⟩ := five_set HRb.out hW5
        have hsz5 : wr.heap.size ≤ W5.heap.size := ho5.size
        have hbb5 : Below w.heap.size w W5 := HW.out.trans (ho5.below HW.out.size (fun k hk e => by have := H0.out.1; omega))
        have hrv5 : BRead nb W5 z (timesL (madeL d) i l).2 := HB.out.later (ho5.below (by have := HP.out.2.2.1; have := HW.out.size; omega) (fun k hk e => by have := H0.out.1; have := HP.out.2.2.1; omega))
        have hvn : VNew w W5 (.list (timesL (madeL d) i l).1) [.int .i64 4, .int .i64 0, .string ⟨#[]⟩, .slice op i oc, .slice none 0 0] := by
          refine VAt.list _ cs _ ((HVs.out.keep (T := fun b => w.heap.size ≤ b ∧ b < W5.heap.size) (fun b hb => ⟨by have := H0.out.1; omega, by omega⟩) (fun b hb k u hu => ho5.cell (by show ¬ b = P; omega) hu))) ?_
          rw [timesL_len]
          refine (row_of_own (S := fun b => w.heap.size ≤ b ∧ b < wr.heap.size ∧ P + 2 ≤ b) HO.out (fun k hk => ?_) (by omega)).keep (fun b hb => ⟨hb.1, by omega⟩) (fun b hb k u hu => ho5.cell (by show ¬ b = P; omega) hu)
          have h := HO.out.lt k hk
          have := H0.out.1
          exact ⟨by omega, h.2, h.1⟩
        have HF := Lib.hid (And.intro hW5 (And.intro hR5 (And.intro hbb5 (And.intro hvn hrv5))))
        clear hW5 hR5 ho5 hsz5 hbb5 hrv5 hvn
        go_wp2
        rw [HF.out.1]
        have z0 := HF.out.2.1.cell 0
        have z1 := HF.out.2.1.cell 1
        have z2 := HF.out.2.1.cell 2
        have z3 := HF.out.2.1.cell 3
        have z4 := HF.out.2.1.cell 4
        (try simp only [Exit.inBlock, Exit.then])
        refine bodyPost_ret (v := .tuple #[.agg #[.int .i64 4, .int .i64 0, .string ⟨#[]⟩, .slice op i oc, .slice none 0 0], z]) ?_ rfl ⟨[.int .i64 4, .int .i64 0, .string ⟨#[]⟩, .slice op i oc, .slice none 0 0], z, rfl, HF.out.2.2.2.1, HF.out.2.2.2.2, HF.out.2.2.1⟩
        rw [results_cell_tmp rfl]
        go_simp
    )
end Go.Proofs.YtecnjifincahaaaGreatDoor
namespace Go.Proofs.YtecnjifincahaaaGreatDoor
open Go.Shelf Go.RowKit Go.Lib
/-- append to a row of one's own, at a step of a region that draws. -/
theorem step_append_own {ops : Array Oper} {o : Oper} {a : Act} {w : World} {K : Act → World → Prop} {Q : Exit → Act → World → Prop} {E : Prop}
    (hg : o.guard = none) (s x : Operand) (t : TypeId) (hop : o.op = Op.call { callee := Callee.builtin Builtin.append, args := #[s, x], argTypes := #[t, t] })
    (base : Nat) (e : TypeId) (i : TypeInfo) (z : Value) (size bytes : Nat) (ht : Tryz.prog.underlying t = some (.slice e)) (hi : Tryz.prog.info? e = some i) (hz : i.zero = some z)
    (hsize : i.size = size) (hby : i.bytes = bytes) (hzs : z.cells.size = size) (hsz : 0 < size)
    (v : Value) (n : Nat) (xs : List Value) (hs : a.eval s = v) (hown : w.ownsRow base e size v n xs)
    (p : Addr) (m c : Nat) (news : List Value) (hx : a.eval x = .slice (some p) m c) (hl : news.length = m * size) (hnews : ∀ j u, news[j]? = some u → w.cell? (p.add j) = some u) (h1 : ∀ u ∈ news, u.oneCell' = true)
    (h63 : n + m ≤ maxLen) (hbytes : (n + m) * bytes ≤ 140737488355328) (hbase : base ≤ w.heap.size)
    (hK : ∀ v' w', w'.ownsRow base e size v' (n + m) (xs ++ news) → w.grownBy w' v.ownBlock → (v'.ownBlock = v.ownBlock ∨ v'.ownBlock = some w.heap.size) → K (a.put o.dst v') w') :
    if Region.wanted o (yielded ops a.tmps) = true then Oper.wp Tryz.prog o a w K Q else E := by
  obtain ⟨v', w', hr, ho, hgr, _, hat⟩ := run_append_own_at (P := Tryz.prog) w base t 0 e i z size bytes ht hi hz hsize hby hzs hsz v n xs hown p m c news hl hnews h1 h63 hbytes hbase
  exact step_append_run hg s x t hop v _ hs hx v' w' (fun ty => hr) (hK v' w' ho hgr hat)
theorem fieldsN_le (rec : BL → V × BL) (n : Nat) (b : BL) : ∀ k, (fieldsN rec n k b).1.length ≤ k
  | 0 => Nat.le_refl _
  | k + 1 => by
    have := fieldsN_le rec n b k
    rw [fieldsN]
    split
    · simp; omega
    · omega
theorem nm_cells (u : ByteArray) (q0 q1 : Int) (q2 : ByteArray) (q3 q6 : Option Addr) (q4 q5 q7 q8 : Nat) : ∀ x ∈ [Value.string u, .int .i64 q0, .int .i64 q1, .string q2, .slice q3 q4 q5, .slice q6 q7 q8], x.oneCell' = true := by
  intro x hx
  simp only [List.mem_cons, List.not_mem_nil, or_false] at hx
  rcases hx with rfl | rfl | rfl | rfl | rfl | rfl <;> rfl
set_option maxHeartbeats 8000000 in
set_option maxRecDepth 100000 in
theorem made_obj (d nb : Nat) (w : World) (sv : Value) (c : UInt8) (l : BL) (hnb : nb ≤ w.heap.size) (h : BRead nb w sv (c :: l)) (hc : c.toNat % 6 = 5) (hd : d ≤ 50) (hW : Words w)
    (ih : ∀ (w : World) (sv : Value) (l : BL), nb ≤ w.heap.size → BRead nb w sv l → Words w → MadeC d nb w sv l) : MadeC (d + 1) nb w sv (c :: l) := by
  obtain ⟨i0, hi0, hz0, hz1, hz2⟩ := field_parts
  obtain ⟨hm, a, cap, rfl, hcap, hx⟩ := h
  obtain ⟨b, off, rfl, hbn, hr⟩ := hx (by simp)
  have h0 := hr 0 c rfl
  rw [Nat.add_zero] at h0
  have h0a : (w.alloc (.cells #[.int .i64 0, .int .i64 0, .string ⟨#[]⟩, .slice none 0 0, .slice none 0 0] 40)).cell? ⟨b, off, none⟩ = some (.int .u8 c.toNat) := bcell ((Below.refl _ w).alloc (Nat.le_refl _) _) h0
  obtain ⟨m, hmm⟩ : ∃ m, c.toNat / 6 = m := ⟨_, rfl⟩
  unfold MadeC
  have hmade : madeL (d + 1) (c :: l) = (.obj (fieldsN (madeL d) m 4 l).1, (fieldsN (madeL d) m 4 l).2) := by
    unfold madeL
    rw [if_neg (by omega), if_pos hc, hmm]
  rw [hmade]
  rw [List.length_cons] at hcap hm ⊢
  obtain ⟨n, hn⟩ : ∃ n, l.length = n := ⟨_, rfl⟩
  rw [hn] at hcap hm ⊢
  obtain ⟨R, hcase, hR⟩ := made_cases nb w b off cap n c l hn hbn hm hcap hr
  obtain ⟨k, hk⟩ : ∃ k, c.toNat = k := ⟨_, rfl⟩
  rw [hk] at h0a hc hmm
  have hk8 : k < 256 := by rw [← hk]; exact c.toNat_lt
  have z6 : (k : Int) % 6 = 5 := by omega
  have zw : IntKind.i64.wrap ((k : Int) / 6) = (k : Int) / 6 := by rw [IntKind.wrap_i64]; omega
  have zm : (k : Int) / 6 = (m : Int) := by omega
  have hm4 : m < 43 := by omega
  obtain ⟨D, hD⟩ : ∃ D : Int, ((d + 1 : Nat) : Int) + 1 = D := ⟨_, rfl⟩
  have hD1 : 1 < D := by omega
  have hD2 : D ≤ 100 := by omega
  have hDe : D - 1 = (d : Int) + 1 := by omega
  rw [hD]
  have HP := Lib.hid (And.intro ih (And.intro hW (And.intro hnb (And.intro hR (And.intro hDe zm)))))
  clear h0 hr hx hk hn ih hW hnb hR hmade hD hmm hDe zm
  rcases hcase with ⟨hc1, hRe⟩ | ⟨hc1, hRe⟩
  all_goals (
    go_enter Tryz.func42, Tryz.ntmps42
    go_wp2_with fail
    clear hRe hc1 h0a hcap hm
    obtain ⟨P, hP⟩ : ∃ P, w.heap.size = P := ⟨_, rfl⟩
    obtain ⟨W0, hW0⟩ : ∃ W0, (w.alloc (.cells #[.int .i64 0, .int .i64 0, .string ⟨#[]⟩, .slice none 0 0, .slice none 0 0] 40)).alloc (.cells #[.int .i64 5, .int .i64 0, .string ⟨#[]⟩, .slice none 0 0, .slice none 0 0] 40) = W0 := ⟨_, rfl⟩
    have hblk := heap_alloc_new w (.cells #[.int .i64 0, .int .i64 0, .string ⟨#[]⟩, .slice none 0 0, .slice none 0 0] 40)
    have hb0 : Below w.heap.size w W0 := by rw [← hW0]; exact ((Below.refl _ w).alloc (Nat.le_refl _) _).alloc (by simp) _
    have hrb : Blk W0 P 40 [.int .i64 0, .int .i64 0, .string ⟨#[]⟩, .slice none 0 0, .slice none 0 0] := by rw [← hW0, ← hP]; exact Blk.alloc (g := w.heap.size) hblk _
    have hvb : Blk W0 (P + 1) 40 [.int .i64 5, .int .i64 0, .string ⟨#[]⟩, .slice none 0 0, .slice none 0 0] := by
      rw [← hW0, ← hP]
      exact blk_alloc2 w _ _ _
    have hsz0 : W0.heap.size = P + 2 := by rw [← hW0, ← hP]; simp
    have H0 := Lib.hid (And.intro hP (And.intro hb0 (And.intro hrb (And.intro hvb hsz0))))
    rw [hW0, hP]
    clear hP hW0 hblk hb0 hrb hvb hsz0
    have zn : ((n : Int) + 1 == 0) = false := by simp; omega
    (try simp only [z6, zn])
    clear zn z6
    go_loopg [0, 95] 4 (fun gk sv iv wr => ∃ (i : Nat) (ov : Value) (cs : List Value) (z : Value), gk + i = 4 ∧ iv = .int .i64 i ∧ z = sv ∧ Hid (BRead nb wr z (fieldsN (madeL d) m i l).2) ∧ Hid (Blk wr P 40 [.int .i64 0, .int .i64 0, .string ⟨#[]⟩, .slice none 0 0, .slice none 0 0]) ∧
      Hid (Blk wr (P + 1) 40 [.int .i64 5, .int .i64 0, .string ⟨#[]⟩, .slice none 0 0, ov]) ∧ Hid (wr.ownsRow (P + 2) 72 6 ov (fieldsN (madeL d) m i l).1.length cs) ∧ Hid (FsAt (fun b => some b ≠ ov.ownBlock ∧ P + 2 ≤ b ∧ b < wr.heap.size) wr (fieldsN (madeL d) m i l).1 cs) ∧ Hid (Below w.heap.size w wr) ∧ P + 2 ≤ wr.heap.size)
    case atStart => exact ⟨0, .slice none 0 0, [], _, Nat.add_zero _, rfl, rfl, HP.out.2.2.2.1.later (H0.out.2.1.mono HP.out.2.2.1), H0.out.2.2.1, H0.out.2.2.2.1, World.ownsRow_nil _ _ _ _, .nil, H0.out.2.1, by have := H0.out.2.2.2.2; omega⟩
    case round =>
      obtain ⟨i, ov, cs, z, hg, rfl, rfl, HB, HRb, HVb, HO, HVs, HW, hsr⟩ := hrel
      by_cases hi : i < 4
      · have hiz : (i : Int) < 4 := by omega
        have hwK : IntKind.i64.wrap ((i : Int) + 1) = ((i + 1 : Nat) : Int) := by rw [IntWalk.i64_in _ (by omega)]; omega
        have hkz : ((k : Int) / 6 / 2 ^ i) = ((m / 2 ^ i : Nat) : Int) := by rw [HP.out.2.2.2.2.2]; push_cast; rfl
        have hfs : fieldsN (madeL d) m (i + 1) l = if m / 2 ^ i % 2 = 1 then ((fieldsN (madeL d) m i l).1 ++ [(nameL i, (madeL d (fieldsN (madeL d) m i l).2).1)], (madeL d (fieldsN (madeL d) m i l).2).2) else fieldsN (madeL d) m i l := rfl
        have hle := fieldsN_le (madeL d) m l i
        by_cases hbit : m / 2 ^ i % 2 = 1
        · have hb1 : (((k : Int) / 6 / 2 ^ i).tmod 2 == 1) = true := by
            rw [hkz, show ((m / 2 ^ i : Nat) : Int).tmod 2 = ((m / 2 ^ i % 2 : Nat) : Int) from rfl, hbit]; rfl
          rw [if_pos hbit] at hfs
          obtain ⟨cnt, hcnt⟩ : ∃ cnt, (fieldsN (madeL d) m i l).1.length = cnt := ⟨_, rfl⟩
          rw [hcnt] at hle HO
          have HFS := Lib.hid (And.intro hfs hcnt)
          have hih := HP.out.1 wr z (fieldsN (madeL d) m i l).2 (Nat.le_trans HP.out.2.2.1 HW.out.size) HB.out (HP.out.2.1.later HW.out)
          unfold MadeC at hih
          rw [← HP.out.2.2.2.2.1] at hih
          have Hih := Lib.hid hih
          obtain ⟨NM, hNM⟩ : ∃ NM, BA (nameL i) = NM := ⟨_, rfl⟩
          have hnc : wr.cell? ⟨2, i, none⟩ = some (.string NM) := by rw [← hNM]; exact bcell HW.out (HP.out.2.1.2 i hi)
          have HNM := Lib.hid (And.intro hNM hnc)
          clear hih hfs hcnt hkz hbit hNM hnc
          go_wp2_with fail
          refine Hih.out.mono ?_
          rintro e w2 ⟨qc, rv, rfl, hx, hrv, hbel⟩
          obtain ⟨q0, q1, q2, q3, q4, q5, q6, q7, q8, rfl⟩ := VAt.shape hx
          obtain ⟨W3, hW3⟩ : ∃ W3, w2.alloc (.cells #[.int .i64 q0, .int .i64 q1, .string q2, .slice q3 q4 q5, .slice q6 q7 q8] 40) = W3 := ⟨_, rfl⟩
          have hs3 : W3.heap.size = w2.heap.size + 1 := by rw [← hW3]; simp
          have hb3 : Below w2.heap.size w2 W3 := by rw [← hW3]; exact (Below.refl _ w2).alloc (Nat.le_refl _) _
          have hk3 : Blk W3 w2.heap.size 40 [.int .i64 q0, .int .i64 q1, .string q2, .slice q3 q4 q5, .slice q6 q7 q8] := by rw [← hW3]; exact heap_alloc_new w2 _
          have HQ := Lib.hid (And.intro hx (And.intro hrv (And.intro hbel (And.intro hW3 hs3))))
          have HV3 := Lib.hid ((HVb.out.below hbel).below hb3)
          have hnew : Blk (W3.drew.alloc (.cells #[.string NM, .int .i64 q0, .int .i64 q1, .string q2, .slice q3 q4 q5, .slice q6 q7 q8] 72)) W3.heap.size 72 [.string NM, .int .i64 q0, .int .i64 q1, .string q2, .slice q3 q4 q5, .slice q6 q7 q8] := heap_alloc_new W3.drew _
          have HNW := Lib.hid (show ∀ (j : Nat) (u : Value), [Value.string NM, .int .i64 q0, .int .i64 q1, .string q2, .slice q3 q4 q5, .slice q6 q7 q8][j]? = some u → (W3.drew.alloc (.cells #[.string NM, .int .i64 q0, .int .i64 q1, .string q2, .slice q3 q4 q5, .slice q6 q7 q8] 72)).cell? ((⟨W3.heap.size, 0, none⟩ : Addr).add j) = some u from fun j u hu => by rw [add_at]; exact (hnew.cell j).trans hu)
          have HO3 := Lib.hid (((own_later HO.out hbel).kept (row := none) ⟨hb3.os, hb3.tape, hb3.output, hb3.size, fun k hk _ => hb3.block k hk⟩ (by rcases hv : ov.ownBlock with _ | k <;> simp)).drew.alloc (.cells #[.string NM, .int .i64 q0, .int .i64 q1, .string q2, .slice q3 q4 q5, .slice q6 q7 q8] 72))
          have hP3 : P + 2 ≤ (W3.drew.alloc (.cells #[.string NM, .int .i64 q0, .int .i64 q1, .string q2, .slice q3 q4 q5, .slice q6 q7 q8] 72)).heap.size := by have := hbel.size; simp [hs3]; omega
          have hc3 : cnt + 1 ≤ maxLen := by unfold maxLen; omega
          have hc4 : (cnt + 1) * 96 ≤ 140737488355328 := by omega
          have HC := Lib.hid (And.intro hc3 (And.intro hc4 hP3))
          have HB3 := Lib.hid (And.intro hk3 (bcell hb3 (bcell hbel HNM.out.2)))
          clear hx hrv hbel hnew hP3 hc3 hc4 hs3 hb3 hk3
          go_wp2_with fail
          (try rw [hW3])
          clear hW3
          have v4 : W3.cell? ⟨P + 1, 4, none⟩ = some ov := HV3.out.cell 4
          have v5 : (W3.alloc (.cells #[.string NM, .int .i64 q0, .int .i64 q1, .string q2, .slice q3 q4 q5, .slice q6 q7 q8] 72)).cell? ⟨P + 1, 4, none⟩ = some ov := (HV3.out.alloc _).cell 4
          have v6 : (W3.drew.alloc (.cells #[.string NM, .int .i64 q0, .int .i64 q1, .string q2, .slice q3 q4 q5, .slice q6 q7 q8] 72)).cell? ⟨P + 1, 4, none⟩ = some ov := (HV3.out.drew.alloc _).cell 4
          have n4 : W3.cell? ⟨2, i, none⟩ = some (.string NM) := HB3.out.2
          have p0 := HB3.out.1.cell 0
          have p1 := HB3.out.1.cell 1
          have p2 := HB3.out.1.cell 2
          have p3 := HB3.out.1.cell 3
          have p4 := HB3.out.1.cell 4
          go_region_law (first
            | (refine step_append_own rfl (.tmp 111) (.tmp 117) 38 rfl (P + 2) 72 i0 _ 6 96 Tryz.underlying38 hi0 hz0 hz1 hz2 rfl (by decide) ov cnt cs (by simp [Act.eval]) HO3.out ⟨W3.heap.size, 0, none⟩ 1 1 [.string NM, .int .i64 q0, .int .i64 q1, .string q2, .slice q3 q4 q5, .slice q6 q7 q8] (by simp [Act.eval]) rfl HNW.out (nm_cells _ _ _ _ _ _ _ _ _ _) HC.out.1 HC.out.2.1 HC.out.2.2 ?_; intro vv w5 hown2 hgr hat; obtain ⟨vp, vc, rfl⟩ := slice_of_own hown2; have hgr2 : ((w2.alloc (.cells #[.int .i64 q0, .int .i64 q1, .string q2, .slice q3 q4 q5, .slice q6 q7 q8] 40)).alloc (.cells #[.string NM, .int .i64 q0, .int .i64 q1, .string q2, .slice q3 q4 q5, .slice q6 q7 q8] 72)).grownBy w5 ov.ownBlock := (by rw [HQ.out.2.2.2.1]; exact ⟨hgr.os, hgr.tape, hgr.output, hgr.size, hgr.block⟩); have hv5 := push_blk HO.out HQ.out.2.2.1 hgr2 (by omega) HVb.out; have t4 := hv5.frozen 4; have u4 := hv5.cell 4; have HV5 := Lib.hid hv5; have HG := Lib.hid hgr2; have HOW := Lib.hid hown2; have HAT := Lib.hid hat; clear hgr2 hv5 hown2 hgr hat))
          all_goals
            clear v4 v5 v6 n4 p0 p1 p2 p3 p4 t4 u4
            have hK := push_keep HO.out HQ.out.2.2.1 HG.out (HAT.out.imp_right (fun h => h.trans (by rw [← HQ.out.2.2.2.1]; simp))) 4 (.slice vp (cnt + 1) vc)
            have hbe := push_below H0.out.1 HW.out HO.out HQ.out.2.2.1 HG.out 4 (.slice vp (cnt + 1) vc)
            have hp5 := push_blk HO.out HQ.out.2.2.1 HG.out (by omega) HRb.out
            have hsz5 : P + 2 ≤ (w5.setCell ⟨P + 1, 4, none⟩ (.slice vp (cnt + 1) vc)).heap.size := by have h1 := HG.out.size; have h2 := HQ.out.2.2.1.size; simp at h1; simp; omega
            have hpf : Blk (w5.setCell ⟨P + 1, 4, none⟩ (.slice vp (cnt + 1) vc)) P 40 _ := hp5.only (Only.set1 w5 (P + 1) 4 (.slice vp (cnt + 1) vc)) (by omega)
            have hvf : Blk (w5.setCell ⟨P + 1, 4, none⟩ (.slice vp (cnt + 1) vc)) (P + 1) 40 [.int .i64 5, .int .i64 0, .string ⟨#[]⟩, .slice none 0 0, (.slice vp (cnt + 1) vc)] := HV5.out.set 4 (.slice vp (cnt + 1) vc)
            have hof := ownsRow_setCell_below HOW.out (a := ⟨P + 1, 4, none⟩) (by show P + 1 < P + 2; omega) (.slice vp (cnt + 1) vc)
            have hbb : Below nb w2 (w5.setCell ⟨P + 1, 4, none⟩ (.slice vp (cnt + 1) vc)) := by
              have hPn : nb ≤ P := by rw [← H0.out.1]; exact HP.out.2.2.1
              have h1 : Below nb w2 w2 := Below.refl _ _
              have h2 := h1.alloc (by have := HQ.out.2.2.1.size; omega) (.cells #[.int .i64 q0, .int .i64 q1, .string q2, .slice q3 q4 q5, .slice q6 q7 q8] 40)
              have h3 := h2.alloc (by have := HQ.out.2.2.1.size; simp; omega) (.cells #[.string NM, .int .i64 q0, .int .i64 q1, .string q2, .slice q3 q4 q5, .slice q6 q7 q8] 72)
              exact (h3.grown HG.out (by have := HQ.out.2.2.1.size; simp; omega) (fun k hk => by have := (HO.out.lt k hk).1; omega)).setCell (p := ⟨P + 1, 4, none⟩) (by show nb ≤ P + 1; omega) _
            have hvs := FsAt.snoc (n := nameL i) (HQ.out.1.keep (hK.2.2.1 hsr) (hK.2.2.2 hsr)) (HVs.out.keep hK.1 hK.2.1)
            rw [HNM.out.1] at hvs
            have hrl := HQ.out.2.1.later hbb
            rw [show (madeL d (fieldsN (madeL d) m i l).2).2 = (fieldsN (madeL d) m (i + 1) l).2 by rw [HFS.out.1]] at hrl
            rw [show (fieldsN (madeL d) m i l).1 ++ [(nameL i, (madeL d (fieldsN (madeL d) m i l).2).1)] = (fieldsN (madeL d) m (i + 1) l).1 by rw [HFS.out.1]] at hvs
            have HCL := Lib.hid (show (fieldsN (madeL d) m (i + 1) l).1.length = cnt + 1 by rw [HFS.out.1, List.length_append, HFS.out.2]; rfl)
            have HN := Lib.hid (And.intro hpf (And.intro hvf (And.intro hof (And.intro hvs (And.intro hbe (And.intro hsz5 hrl))))))
            clear hK hbe hp5 hsz5 hpf hvf hof hbb hvs hrl
            go_wp2
            go_roundg (gk - 1)
            case rel => exact ⟨i + 1, _, _, _, by omega, rfl, rfl, Lib.hid HN.out.2.2.2.2.2.2, Lib.hid HN.out.1, Lib.hid HN.out.2.1, Lib.hid (by rw [HCL.out]; exact HN.out.2.2.1), Lib.hid HN.out.2.2.2.1, Lib.hid HN.out.2.2.2.2.1, HN.out.2.2.2.2.2.1⟩
            case measure => omega
        · have hb1 : (((k : Int) / 6 / 2 ^ i).tmod 2 == 1) = false := by
            rw [hkz, show ((m / 2 ^ i : Nat) : Int).tmod 2 = ((m / 2 ^ i % 2 : Nat) : Int) from rfl, show m / 2 ^ i % 2 = 0 by omega]; rfl
          rw [if_neg hbit] at hfs
          rw [← hfs] at HB HO HVs
          clear hkz hbit hfs
          go_wp2
          go_roundg (gk - 1)
          case rel => exact ⟨i + 1, ov, cs, z, by omega, rfl, rfl, HB, HRb, HVb, HO, HVs, HW, hsr⟩
          case measure => omega
      · have hie : i = 4 := by omega
        subst hie
        have hle := fieldsN_le (madeL d) m l 4
        obtain ⟨CNT, hCNT⟩ : ∃ C, (fieldsN (madeL d) m 4 l).1.length = C := ⟨_, rfl⟩
        rw [hCNT] at HO hle
        have HCN := Lib.hid hCNT
        clear hCNT
        obtain ⟨op, oc, rfl⟩ := slice_of_own HO.out
        have hiz : ¬ ((4 : Nat) : Int) < 4 := by omega
        have v0 := HVb.out.cell 0
        have v1 := HVb.out.cell 1
        have v2 := HVb.out.cell 2
        have v3 := HVb.out.cell 3
        have v4 := HVb.out.cell 4
        have r0 := HRb.out.cell 0
        have r1 := HRb.out.cell 1
        have r2 := HRb.out.cell 2
        have r3 := HRb.out.cell 3
        have r4 := HRb.out.cell 4
        have s0 := HRb.out.frozen 0
        have s1 := HRb.out.frozen 1
        have s2 := HRb.out.frozen 2
        have s3 := HRb.out.frozen 3
        have s4 := HRb.out.frozen 4
        obtain ⟨W5, hW5⟩ : ∃ W5, (((((wr.setCell ⟨P, 0, none⟩ (.int .i64 5)).setCell ⟨P, 1, none⟩ (.int .i64 0)).setCell ⟨P, 2, none⟩ (.string ⟨#[]⟩)).setCell ⟨P, 3, none⟩ (.slice none 0 0)).setCell ⟨P, 4, none⟩ (.slice op CNT oc)) = W5 := ⟨_, rfl⟩
        obtain ⟨hR5, ho5⟩ := five_set HRb.out hW5
        have hsz5 : wr.heap.size ≤ W5.heap.size := ho5.size
        have hbb5 : Below w.heap.size w W5 := HW.out.trans (ho5.below HW.out.size (fun k hk e => by have := H0.out.1; omega))
        have hrv5 : BRead nb W5 z (fieldsN (madeL d) m 4 l).2 := HB.out.later (ho5.below (by have := HP.out.2.2.1; have := HW.out.size; omega) (fun k hk e => by have := H0.out.1; have := HP.out.2.2.1; omega))
        have hvn : VNew w W5 (.obj (fieldsN (madeL d) m 4 l).1) [.int .i64 5, .int .i64 0, .string ⟨#[]⟩, .slice none 0 0, .slice op CNT oc] := by
          refine VAt.obj _ cs _ ((HVs.out.keep (T := fun b => w.heap.size ≤ b ∧ b < W5.heap.size) (fun b hb => ⟨by have := H0.out.1; omega, by omega⟩) (fun b hb k u hu => ho5.cell (by show ¬ b = P; omega) hu))) ?_
          rw [HCN.out]
          refine (row_of_own (S := fun b => w.heap.size ≤ b ∧ b < wr.heap.size ∧ P + 2 ≤ b) HO.out (fun k hk => ?_) (by omega)).keep (fun b hb => ⟨hb.1, by omega⟩) (fun b hb k u hu => ho5.cell (by show ¬ b = P; omega) hu)
          have h := HO.out.lt k hk
          have := H0.out.1
          exact ⟨by omega, h.2, h.1⟩
        have HF := Lib.hid (And.intro hW5 (And.intro hR5 (And.intro hbb5 (And.intro hvn hrv5))))
        clear hW5 hR5 ho5 hsz5 hbb5 hrv5 hvn
        go_wp2
        rw [HF.out.1]
        have z0 := HF.out.2.1.cell 0
        have z1 := HF.out.2.1.cell 1
        have z2 := HF.out.2.1.cell 2
        have z3 := HF.out.2.1.cell 3
        have z4 := HF.out.2.1.cell 4
        (try simp only [Exit.inBlock, Exit.then])
        refine bodyPost_ret (v := .tuple #[.agg #[.int .i64 5, .int .i64 0, .string ⟨#[]⟩, .slice none 0 0, .slice op CNT oc], z]) ?_ rfl ⟨[.int .i64 5, .int .i64 0, .string ⟨#[]⟩, .slice none 0 0, .slice op CNT oc], z, rfl, HF.out.2.2.2.1, HF.out.2.2.2.2, HF.out.2.2.1⟩
        rw [results_cell_tmp rfl]
        go_simp
    )
end Go.Proofs.YtecnjifincahaaaGreatDoor
namespace Go.Proofs.YtecnjifincahaaaGreatDoor
open Go.Shelf Go.RowKit Go.Lib
theorem made_any (nb : Nat) : ∀ (d : Nat), d ≤ 50 → ∀ (w : World) (sv : Value) (l : BL), nb ≤ w.heap.size → BRead nb w sv l → Words w → MadeC d nb w sv l := by
  intro d
  induction d with
  | zero =>
    intro _ w sv l hnb h hW
    cases l with
    | nil => exact made_nil 0 nb w sv h
    | cons c l =>
      by_cases hcap : ∃ a n, sv = .slice a n 1
      · rcases (show c.toNat % 6 = 0 ∨ c.toNat % 6 = 1 ∨ c.toNat % 6 = 2 ∨ c.toNat % 6 = 3 ∨ c.toNat % 6 = 4 ∨ c.toNat % 6 = 5 by omega) with hc | hc | hc | hc | hc | hc
        · exact made_null1 0 nb w sv c l hnb h hcap hc
        · exact made_bool1 0 nb w sv c l hnb h hcap hc
        · exact made_int1 0 nb w sv c l hnb h hcap hc
        · exact made_text1 0 nb w sv c l hnb h hcap hc hW
        · exact made_deep41 nb w sv c l hnb h hcap hc
        · exact made_deep51 nb w sv c l hnb h hcap hc
      · rcases (show c.toNat % 6 = 0 ∨ c.toNat % 6 = 1 ∨ c.toNat % 6 = 2 ∨ c.toNat % 6 = 3 ∨ c.toNat % 6 = 4 ∨ c.toNat % 6 = 5 by omega) with hc | hc | hc | hc | hc | hc
        · exact made_nulln 0 nb w sv c l hnb h hcap hc
        · exact made_booln 0 nb w sv c l hnb h hcap hc
        · exact made_intn 0 nb w sv c l hnb h hcap hc
        · exact made_textn 0 nb w sv c l hnb h hcap hc hW
        · exact made_deep4n nb w sv c l hnb h hcap hc
        · exact made_deep5n nb w sv c l hnb h hcap hc
  | succ d ih =>
    intro hd w sv l hnb h hW
    cases l with
    | nil => exact made_nil (d + 1) nb w sv h
    | cons c l =>
      have ih2 := fun w sv l hnb h hW => ih (by omega) w sv l hnb h hW
      by_cases hcap : ∃ a n, sv = .slice a n 1
      · rcases (show c.toNat % 6 = 0 ∨ c.toNat % 6 = 1 ∨ c.toNat % 6 = 2 ∨ c.toNat % 6 = 3 ∨ c.toNat % 6 = 4 ∨ c.toNat % 6 = 5 by omega) with hc | hc | hc | hc | hc | hc
        · exact made_null1 (d + 1) nb w sv c l hnb h hcap hc
        · exact made_bool1 (d + 1) nb w sv c l hnb h hcap hc
        · exact made_int1 (d + 1) nb w sv c l hnb h hcap hc
        · exact made_text1 (d + 1) nb w sv c l hnb h hcap hc hW
        · exact made_list d nb w sv c l hnb h hc (by omega) hW ih2
        · exact made_obj d nb w sv c l hnb h hc (by omega) hW ih2
      · rcases (show c.toNat % 6 = 0 ∨ c.toNat % 6 = 1 ∨ c.toNat % 6 = 2 ∨ c.toNat % 6 = 3 ∨ c.toNat % 6 = 4 ∨ c.toNat % 6 = 5 by omega) with hc | hc | hc | hc | hc | hc
        · exact made_nulln (d + 1) nb w sv c l hnb h hcap hc
        · exact made_booln (d + 1) nb w sv c l hnb h hcap hc
        · exact made_intn (d + 1) nb w sv c l hnb h hcap hc
        · exact made_textn (d + 1) nb w sv c l hnb h hcap hc hW
        · exact made_list d nb w sv c l hnb h hc (by omega) hW ih2
        · exact made_obj d nb w sv c l hnb h hc (by omega) hW ih2
/-- the value of bytes. -/
def ofL (l : BL) : V := (madeL 3 (l.take 60)).1
theorem BRead.take {n : Nat} {w : World} {a : Option Addr} {k cap : Nat} {l : BL} (m : Nat) (h : BRead n w (.slice a k cap) l) : BRead n w (.slice a (min k m) cap) (l.take m) := by
  obtain ⟨hm, a2, cap2, he, hc, hx⟩ := h
  injection he with e1 e2 e3
  subst e1 e2 e3
  have hl : (l.take m).length = min l.length m := by rw [List.length_take]; omega
  refine ⟨by omega, _, _, by rw [hl], by omega, fun hp => ?_⟩
  obtain ⟨b, off, rfl, hb, hr⟩ := hx (by omega)
  refine ⟨b, off, rfl, hb, fun i u hu => hr i u ?_⟩
  rw [List.getElem?_take] at hu
  split at hu
  · exact hu
  · cases hu
set_option maxHeartbeats 4000000 in
set_option maxRecDepth 100000 in
theorem of_any (nb : Nat) (w : World) (sv : Value) (l : BL) (hnb : nb ≤ w.heap.size) (h : BRead nb w sv l) (hW : Words w) :
    Calls Tryz.prog 16 #[sv] w fun e w' => ∃ c, e = .returned (.agg c.toArray) ∧ VNew w w' (ofL l) c ∧ Below w.heap.size w w' := by
  obtain ⟨W0, hW0⟩ : ∃ W0, w.alloc (.cells #[.int .i64 0, .int .i64 0, .string ⟨#[]⟩, .slice none 0 0, .slice none 0 0] 40) = W0 := ⟨_, rfl⟩
  obtain ⟨P, hP⟩ : ∃ P, w.heap.size = P := ⟨_, rfl⟩
  have hb0 : Below w.heap.size w W0 := by rw [← hW0]; exact (Below.refl _ w).alloc (Nat.le_refl _) _
  have hk0 : Blk W0 P 40 [.int .i64 0, .int .i64 0, .string ⟨#[]⟩, .slice none 0 0, .slice none 0 0] := by rw [← hW0, ← hP]; exact heap_alloc_new w _
  have h2 := h
  obtain ⟨hm, a, cap, rfl, hcap, _⟩ := h2
  have ht := h.take 60
  obtain ⟨n, hn⟩ : ∃ n, l.length = n := ⟨_, rfl⟩
  rw [hn] at ht hm hcap ⊢
  have hmade := made_any nb 3 (by omega) W0 _ _ (Nat.le_trans hnb hb0.size) (ht.later (hb0.mono hnb)) (hW.later hb0)
  unfold MadeC at hmade
  have hmm : (min (n : Int) 60) = ((min n 60 : Nat) : Int) := by omega
  have hmt : (min (n : Int) 60).toNat = min n 60 := by omega
  have H := Lib.hid (And.intro hW0 (And.intro hP (And.intro hb0 (And.intro hk0 hmade))))
  clear hW0 hP hb0 hk0 hmade ht h hW hnb hn hmm
  go_enter Tryz.func16, Tryz.ntmps16
  go_wp2_with fail
  rw [H.out.1, H.out.2.1]
  (try rw [hmt])
  refine H.out.2.2.2.2.mono ?_
  rintro e w2 ⟨qc, rv, rfl, hx, hrv, hbel⟩
  obtain ⟨q0, q1, q2, q3, q4, q5, q6, q7, q8, rfl⟩ := VAt.shape hx
  obtain ⟨W3, hW3⟩ : ∃ W3, w2.alloc (.cells #[.int .i64 q0, .int .i64 q1, .string q2, .slice q3 q4 q5, .slice q6 q7 q8] 40) = W3 := ⟨_, rfl⟩
  have hb3 : Below w2.heap.size w2 W3 := by rw [← hW3]; exact (Below.refl _ w2).alloc (Nat.le_refl _) _
  have hk3 : Blk W3 w2.heap.size 40 [.int .i64 q0, .int .i64 q1, .string q2, .slice q3 q4 q5, .slice q6 q7 q8] := by rw [← hW3]; exact heap_alloc_new w2 _
  have hkP : Blk W3 P 40 [.int .i64 0, .int .i64 0, .string ⟨#[]⟩, .slice none 0 0, .slice none 0 0] := (H.out.2.2.2.1.below hbel).below hb3
  have hP0 : P < W0.heap.size := H.out.2.2.2.1.lt
  have hsz2 := hbel.size
  obtain ⟨W5, hW5⟩ : ∃ W5, (((((W3.setCell ⟨P, 0, none⟩ (.int .i64 q0)).setCell ⟨P, 1, none⟩ (.int .i64 q1)).setCell ⟨P, 2, none⟩ (.string q2)).setCell ⟨P, 3, none⟩ (.slice q3 q4 q5)).setCell ⟨P, 4, none⟩ (.slice q6 q7 q8)) = W5 := ⟨_, rfl⟩
  obtain ⟨hR5, ho5⟩ := five_set hkP hW5
  have hbb3 : Below w.heap.size w W3 := (H.out.2.2.1.trans (hbel.mono H.out.2.2.1.size)).trans (hb3.mono (by have := H.out.2.2.1.size; omega))
  have hbb5 : Below w.heap.size w W5 := hbb3.trans (ho5.below hbb3.size (fun k hk e => by have := H.out.2.1; omega))
  have hvn : VNew w W5 (ofL l) [.int .i64 q0, .int .i64 q1, .string q2, .slice q3 q4 q5, .slice q6 q7 q8] :=
    VAt.keep (S := fun b => W0.heap.size ≤ b ∧ b < w2.heap.size) (fun b hb => ⟨by have := H.out.2.2.1.size; omega, by have := hb3.size; have := ho5.size; omega⟩) (fun b hb k u hu => ho5.cell (by show ¬ b = P; omega) (bcell hb3 hu)) hx
  have HF := Lib.hid (And.intro hW3 (And.intro hW5 (And.intro hR5 (And.intro hvn hbb5))))
  have z3 := hk3
  have v0 := hk3.cell 0
  have v1 := hk3.cell 1
  have v2 := hk3.cell 2
  have v3 := hk3.cell 3
  have v4 := hk3.cell 4
  have r0 := hkP.cell 0
  have r1 := hkP.cell 1
  have r2 := hkP.cell 2
  have r3 := hkP.cell 3
  have r4 := hkP.cell 4
  have s0 := hkP.frozen 0
  have s1 := hkP.frozen 1
  have s2 := hkP.frozen 2
  have s3 := hkP.frozen 3
  have s4 := hkP.frozen 4
  clear hW5 hR5 hvn hbb5 ho5 hbb3 hkP hk3 z3 hb3 hsz2 hP0 hx hrv hbel
  go_wp2
  rw [HF.out.2.1]
  (try simp only [Exit.inBlock, Exit.then])
  refine bodyPost_ret (v := .agg #[.int .i64 q0, .int .i64 q1, .string q2, .slice q3 q4 q5, .slice q6 q7 q8]) ?_ rfl ⟨[.int .i64 q0, .int .i64 q1, .string q2, .slice q3 q4 q5, .slice q6 q7 q8], rfl, HF.out.2.2.2.1, HF.out.2.2.2.2⟩
  exact results_cell_row rfl _ W5 P 40 _ (0, 0) _ rfl HF.out.2.2.1 Tryz.underlying40 rfl (by kernel_rfl)
theorem wordL_le (k : Nat) : (wordL k).length ≤ 16 := by
  rcases (show k = 0 ∨ k = 1 ∨ k = 2 ∨ k = 3 ∨ k = 4 ∨ k = 5 ∨ k = 6 ∨ k = 7 ∨ 8 ≤ k by omega) with rfl | rfl | rfl | rfl | rfl | rfl | rfl | rfl | h
  iterate 8 (· decide)
  · unfold wordL
    rw [List.getD_eq_getElem?_getD, List.getElem?_eq_none (by simpa using h)]
    exact Nat.zero_le _
theorem nameL_le (k : Nat) : (nameL k).length ≤ 1 := by
  rcases (show k = 0 ∨ k = 1 ∨ k = 2 ∨ k = 3 ∨ 4 ≤ k by omega) with rfl | rfl | rfl | rfl | h
  iterate 4 (· decide)
  · unfold nameL
    rw [List.getD_eq_getElem?_getD, List.getElem?_eq_none (by simpa using h)]
    exact Nat.zero_le _
theorem keyL_leaf (c : Nat) : (keyL (leafL c)).length ≤ 40 := by
  unfold leafL
  split
  · simp [keyL]
  · split
    · simp [keyL, numK]
    · split
      · have h1 := wordL_le (c / 6 % 8)
        have h2 := (escK_le (wordL (c / 6 % 8))).2
        simp [keyL, writtenK]
        omega
      · simp [keyL]
theorem keysL_times {rec : BL → V × BL} {B : Nat} (hB : ∀ b, (keyL (rec b).1).length ≤ B) (b : BL) : ∀ k, (keysL (timesL rec k b).1).length ≤ k * B
  | 0 => by simp [timesL, keysL]
  | k + 1 => by
    have h1 := keysL_times hB b k
    have h2 := hB (timesL rec k b).2
    rw [timesL_succ, keysL_append]
    simp [keysL, Nat.succ_mul]
    omega
theorem fieldsL_made {rec : BL → V × BL} {B : Nat} (hB : ∀ b, (keyL (rec b).1).length ≤ B) (n : Nat) (b : BL) : ∀ k, (fieldsL (fieldsN rec n k b).1).length ≤ k * (B + 5)
  | 0 => by simp [fieldsN, fieldsL]
  | k + 1 => by
    have h1 := fieldsL_made hB n b k
    have h2 := hB (fieldsN rec n k b).2
    have h3 := (escK_le (nameL k)).2
    have h4 := nameL_le k
    rw [fieldsN]
    split
    · rw [fieldsL_append]
      simp [fieldsL, fieldL_eq, writtenK, Nat.succ_mul]
      omega
    · rw [Nat.succ_mul]; omega
theorem keyL_made : ∀ (d : Nat) (b : BL), (keyL (madeL d b).1).length ≤ 40 * 5 ^ d
  | d, [] => by
    rw [madeL_nil]
    have : 0 < 5 ^ d := Nat.pow_pos (by omega)
    simp [keyL]
    omega
  | 0, c :: b => by
    have := keyL_leaf c.toNat
    simpa [madeL] using this
  | d + 1, c :: b => by
    have hp : 0 < 5 ^ d := Nat.pow_pos (by omega)
    have ih : ∀ b, (keyL (madeL d b).1).length ≤ 40 * 5 ^ d := keyL_made d
    have e : 40 * 5 ^ (d + 1) = 200 * 5 ^ d := by rw [Nat.pow_succ]; omega
    rw [e]
    unfold madeL
    split
    · have h1 := keysL_times ih b (c.toNat / 6 % 4)
      have h2 : c.toNat / 6 % 4 * (40 * 5 ^ d) ≤ 3 * (40 * 5 ^ d) := Nat.mul_le_mul_right _ (by omega)
      simp [keyL]
      omega
    · split
      · have h1 := fieldsL_made ih (c.toNat / 6) b 4
        simp [keyL]
        omega
      · have := keyL_leaf c.toNat
        simp only []
        omega
theorem keyL_of (l : BL) : (keyL (ofL l)).length ≤ 5000 := keyL_made 3 _
end Go.Proofs.YtecnjifincahaaaGreatDoor
