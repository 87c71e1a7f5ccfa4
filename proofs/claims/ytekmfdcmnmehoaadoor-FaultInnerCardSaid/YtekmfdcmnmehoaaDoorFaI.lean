/- strconv at 100..256, whatever its table holds at place 2. -/
import Derived.Test.YtekmfdcmnmehoaaDoorFaX
import Derived.Shelf.RegionOpenPlain
import Derived.Lib.Walk
import Derived.Lib.ItoaWalk
import Derived.Lib.ItoaMem
import Derived.WalkKit
import Derived.RegionTactic
import Derived.BigCall
import Derived.BigGuard
import Derived.CellFam
namespace Go.Proofs.YtekmfdcmnmehoaaDoor
open Go.RowKit Go.Sort Go.Lib Go.Shelf

def PZ (w : World) (z : Int) : Prop := w.cell? ⟨1, 2, none⟩ = some (.int .u64 z)
def ndz (z : Int) (u : Nat) : Nat := if z ≤ (u : Int) then 3 else 2
theorem l10_fin : ∀ i : Fin 157, Lib.l10 (Lib.bitLen (100 + i.val)) = 2 := by decide +kernel
theorem l10_at (u : Nat) (h1 : 100 ≤ u) (h2 : u ≤ 256) : Lib.l10 (Lib.bitLen u) = 2 := by
  have := l10_fin ⟨u - 100, by omega⟩
  simpa [show 100 + (u - 100) = u by omega] using this

set_option maxHeartbeats 1000000 in
theorem num_z (u : Nat) (z : Int) (h1 : 100 ≤ u) (h2 : u ≤ 256) (w : World) (hz : PZ w z) :
    Calls Tryd.prog 32 #[.int .u64 u] w fun e w' => e = .returned (.int .i64 (ndz z u)) ∧ w' = w := by
  have hL := Lib.hid (l10_at u h1 h2)
  have hB : Hid (Lib.bitLen u ≤ 64) := Lib.hid (Lib.bitLen_le u 64 (Nat.le_refl _) (by omega))
  unfold PZ at hz
  have hto : ((u : Int)).toNat = u := by omega
  go_enter Tryd.func32, Tryd.ntmps32
  go_wp2_with fail
  refine (Tryd.bits_Len64 _ _ (by omega) (by omega)).mono ?_
  rintro e w2 ⟨rfl, rfl⟩
  rw [hto]
  go_wp2_with fail
  refine (Tryd.internal_strconv_log10Pow2 _ hB.out _).mono ?_
  rintro e w3 ⟨rfl, rfl⟩
  rw [hL.out]
  by_cases hc : z ≤ (u : Int)
  · have hn : ndz z u = 3 := by unfold ndz; rw [if_pos hc]
    have HN := Lib.hid hn
    clear hn
    go_wp2_with fail
    refine (Tryd.internal_strconv_bool2_int _ _).mono ?_
    rintro e w4 ⟨rfl, rfl⟩
    go_wp2
    go_ret
    exact ⟨by rw [HN.out]; rfl, rfl⟩
  · have hn : ndz z u = 2 := by unfold ndz; rw [if_neg hc]
    have HN := Lib.hid hn
    clear hn
    go_wp2_with fail
    refine (Tryd.internal_strconv_bool2_int _ _).mono ?_
    rintro e w4 ⟨rfl, rfl⟩
    go_wp2
    go_ret
    exact ⟨by rw [HN.out]; rfl, rfl⟩

def u8V : UInt8 → Value := fun b => Value.int .u8 (b.toNat : Int)
set_option maxHeartbeats 4000000 in
set_option maxRecDepth 100000 in
theorem fb2 (blk cap u : Nat) (w : World) (h1 : 100 ≤ u) (h2 : u ≤ 256) (hH : Holds (fun (b : UInt8) => Value.int .u8 (b.toNat : Int)) w blk 1 (Array.replicate 2 0)) :
    Calls Tryd.prog 33 #[.slice (some ⟨blk, 1, none⟩) 2 cap, .int .u64 u] w fun e w' =>
      e = .returned (.tuple #[]) ∧ ∃ n, w' = (putRow (fun (b : UInt8) => Value.int .u8 (b.toNat : Int)) w blk 1 #[sm (u % 100 * 2), sm (u % 100 * 2 + 1)]).drewN n := by
  have c0 : w.cell? ⟨blk, 1, none⟩ = some (.int .u8 0) := by simpa using (hH 0 (by simp)).1
  have c1 : w.cell? ⟨blk, 2, none⟩ = some (.int .u8 0) := by simpa using (hH 1 (by simp)).1
  have f0 : w.frozen? ⟨blk, 1, none⟩ = false := by simpa using (hH 0 (by simp)).2
  have f1 : w.frozen? ⟨blk, 2, none⟩ = false := by simpa using (hH 1 (by simp)).2
  have AH := Lib.hid hH
  clear hH
  have mixed : Tryd.prog.follows Departure.mixedOrders = true := by kernel_rfl
  have ty9 := Tryd.underlying9
  go_enter Tryd.func33, Tryd.ntmps33
  go_name_bytes SM hSM
  have eSM : SM = Lib.smalls := by rw [← hSM]; decide +kernel
  subst eSM
  clear hSM
  go_wp2
  refine wp_loop_rounds 1 ?_
  rw [rounds_succ]
  go_wp2
  go_name_slot 16 x0 hx0
  have hxe0 : x0 = ((u % 100 * 2 : Nat) : Int) := by omega
  have hXa0 : ∀ w, (Instr.index 9 (.string Lib.smalls) (.int .u32 (x0 + 1))).run Tryd.prog w = .ok (.int .u8 ((sm (u % 100 * 2 + 1)).toNat : Int)) w := idx_smalls 9 ty9 .u32 _ _ (by omega) (by omega)
  have hXb0 : ∀ w, (Instr.index 9 (.string Lib.smalls) (.int .u32 x0)).run Tryd.prog w = .ok (.int .u8 ((sm (u % 100 * 2)).toNat : Int)) w := idx_smalls 9 ty9 .u32 _ _ (by omega) (by omega)
  have hlo0 : 0 ≤ x0 := by omega
  have hhi0 : x0 ≤ 198 := by omega
  clear hx0 hxe0
  go_region_o
  go_wp2
  go_end0
  refine ⟨rfl, 1, ?_⟩
  have hs := store2_world w blk 1 (Array.replicate 2 (0 : UInt8)) 0 1 0 (sm (u % 100 * 2 + 1)) (sm (u % 100 * 2)) (by simp) (by simp)
  rw [putRow_self _ _ _ _ _ AH.out] at hs
  exact hs

def TZ (z : Int) (u : Nat) : List UInt8 := if z ≤ (u : Int) then Lib.decDigits u else [sm (u % 100 * 2), sm (u % 100 * 2 + 1)]
theorem nd_fin : ∀ i : Fin 157, Lib.nDigits (100 + i.val) = 3 := by decide +kernel
theorem nd_at (u : Nat) (h1 : 100 ≤ u) (h2 : u ≤ 256) : Lib.nDigits u = 3 := by
  have := nd_fin ⟨u - 100, by omega⟩
  simpa [show 100 + (u - 100) = u by omega] using this
theorem TZ_len (z : Int) (u : Nat) (h1 : 100 ≤ u) (h2 : u ≤ 256) : (TZ z u).length = ndz z u := by
  unfold TZ ndz
  split
  · rw [Lib.decDigits_length, nd_at u h1 h2]
  · rfl
theorem fbz (blk u : Nat) (z : Int) (w : World) (h1 : 100 ≤ u) (h2 : u ≤ 256) (hH : Holds (fun (b : UInt8) => Value.int .u8 (b.toNat : Int)) w blk 1 (Array.replicate (ndz z u) 0)) :
    Calls Tryd.prog 33 #[.slice (some ⟨blk, 1, none⟩) (ndz z u) 23, .int .u64 u] w fun e w' =>
      e = .returned (.tuple #[]) ∧ ∃ n dk, w' = (putRow (fun (b : UInt8) => Value.int .u8 (b.toNat : Int)) w blk 1 dk).drewN n ∧ dk.size = ndz z u ∧ ∀ j (h : j < (TZ z u).length), (TZ z u)[j] = dk[j]! := by
  by_cases hc : z ≤ (u : Int)
  · have hn : ndz z u = 3 := by unfold ndz; rw [if_pos hc]
    have ht : TZ z u = Lib.decDigits u := by unfold TZ; rw [if_pos hc]
    rw [hn] at hH ⊢
    have := Tryd.internal_strconv_formatBase10 blk 1 23 u _ w hH (by simp; omega) (by omega) (by simp)
    rw [Array.size_replicate] at this
    refine this.mono ?_
    rintro e w2 ⟨rfl, n, v, dk, rfl, hF⟩
    refine ⟨rfl, n, dk, rfl, hF.size, ?_⟩
    rw [ht]
    intro j hj
    exact Lib.row_is_numeral (v' := v) (by rw [nd_at u h1 h2]; exact hF) j hj
  · have hn : ndz z u = 2 := by unfold ndz; rw [if_neg hc]
    have ht : TZ z u = [sm (u % 100 * 2), sm (u % 100 * 2 + 1)] := by unfold TZ; rw [if_neg hc]
    rw [hn] at hH ⊢
    refine (fb2 blk 23 u w h1 h2 hH).mono ?_
    rintro e w2 ⟨rfl, n, rfl⟩
    refine ⟨rfl, n, _, rfl, rfl, ?_⟩
    rw [ht]
    intro j hj
    rcases j with _ | _ | j
    · simp
    · simp
    · simp at hj; omega

set_option maxHeartbeats 4000000 in
set_option maxRecDepth 100000 in
theorem fmt_z (u : Nat) (z : Int) (w : World) (h1 : 100 ≤ u) (h2 : u ≤ 256) (hz : PZ w z) :
    Calls Tryd.prog 30 #[.int .i64 u, .int .i64 10] w fun e w' => e = .returned (.string ⟨(TZ z u).toArray⟩) ∧ ∃ k os, w' = grow (w.drewN k) os := by
  have hb3 : ndz z u ≤ 23 := by unfold ndz; split <;> omega
  have hb0 : 1 ≤ ndz z u := by unfold ndz; split <;> omega
  have hal : Tryd.prog.arrayLen 79 = 24 := by simp [Program.arrayLen, Tryd.underlying79]
  have hsl1 : ∀ W, (Instr.sliceAt 79 (.pointer (some ⟨w.heap.size, 0, none⟩)) (some (.int .i64 1)) (some (.int .i64 (1 + (ndz z u : Int)))) none).run Tryd.prog W = .ok (.slice (some ⟨w.heap.size, 1, none⟩) (ndz z u) 23) W := fun W => by
    rw [run_sliceAt_array_lh W 79 ⟨w.heap.size, 0, none⟩ (by simp [Program.arrayLen, Program.elem, Tryd.underlying79]) .i64 .i64 1 (1 + (ndz z u : Int)) (by omega) (by omega) (by rw [hal]; omega)]
    go_simp
    omega
  have hH0 := Lib.holds_zero w 79 (ndz z u) (by omega)
  have hfmt := fbz w.heap.size u z _ h1 h2 hH0
  have hzl : PZ (w.alloc (.cells Lib.zeros24 79)) z := bcell ((Below.refl w.heap.size w).alloc (Nat.le_refl _) _) hz
  have HH0 := Lib.hid hH0
  have HTL := Lib.hid (TZ_len z u h1 h2)
  obtain ⟨N, hN⟩ : ∃ N, N = ndz z u := ⟨_, rfl⟩
  rw [← hN] at hb3 hb0 hfmt hsl1
  have HN := Lib.hid hN
  clear hH0 hal hz hN
  go_enter Tryd.func30, Tryd.ntmps30
  go_wp2_with fail
  refine (num_z u z h1 h2 _ hzl).mono ?_
  rintro e w' ⟨rfl, rfl⟩
  rw [← HN.out]
  go_wp2_with fail
  refine hfmt.mono ?_
  rintro e w' ⟨rfl, k, dk, rfl, hds, hF⟩
  have hcv : (convert 83 9 (.slice (some ⟨w.heap.size, 1, none⟩) N 23)).run Tryd.prog ((putRow (fun (b : UInt8) => Value.int .u8 (b.toNat : Int)) (w.alloc (.cells Lib.zeros24 79)) w.heap.size 1 dk).drewN k) = .ok (.string ⟨(TZ z u).toArray⟩) ((putRow (fun (b : UInt8) => Value.int .u8 (b.toNat : Int)) (w.alloc (.cells Lib.zeros24 79)) w.heap.size 1 dk).drewN k) := by
    have h := run_convert_bytes_back (P := Tryd.prog) ((putRow (fun (b : UInt8) => Value.int .u8 (b.toNat : Int)) (w.alloc (.cells Lib.zeros24 79)) w.heap.size 1 dk).drewN k) 83 9 5 ⟨w.heap.size, 1, none⟩ 23 (TZ z u) Tryd.underlying83 Tryd.underlying5 Tryd.underlying9 (fun j hj => by
      rw [hF j hj, Lib.add_plain, World.cell?_drewN]
      exact cell?_putRow (fun (b : UInt8) => Value.int .u8 (b.toNat : Int)) _ w.heap.size 1 _ dk HH0.out (by rw [hds, Array.size_replicate, HN.out]) j (by rw [hds, HN.out, ← HTL.out]; exact hj))
    rw [HTL.out, ← HN.out] at h
    exact h
  go_wp2
  go_ret
  obtain ⟨os, eo⟩ := Lib.fin_pos w (.cells Lib.zeros24 79) dk k
  exact ⟨rfl, k, os, eo⟩
end Go.Proofs.YtekmfdcmnmehoaaDoor
