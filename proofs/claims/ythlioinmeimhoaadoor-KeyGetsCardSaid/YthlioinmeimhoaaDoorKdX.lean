/- The law's Bend: some text as long. -/
import Derived.Test.YthlioinmeimhoaaDoorGB
import Derived.Laws.IdiomStrings
import Derived.Laws.BytesString
import Derived.Lib.SmallJoins
namespace Go.Proofs.YthlioinmeimhoaaDoor
open Go.Shelf Go.RowKit Go.Lib

set_option maxHeartbeats 2000000 in
set_option maxRecDepth 100000 in
theorem bend_any (s : ByteArray) (at_ c : Nat) (w : World) (hs : s.size ≤ 1099511627000) (ha : at_ < 65536) (hc : c < 256) :
    Calls Tryd.prog 24 #[.string s, .int .u16 at_, .int .u8 c] w fun e w' => (∃ Z : ByteArray, e = .returned (.string Z) ∧ Z.size = s.size) ∧ Below w.heap.size w w' := by
  by_cases h0 : s.size = 0
  · have hs0 : s = ⟨#[]⟩ := by
      have hn : s.data.toList = [] := List.eq_nil_of_length_eq_zero (by rw [← size_eq]; exact h0)
      rw [← ba_list s, hn]
    clear h0 hs
    subst hs0
    go_enter Tryd.func24, Tryd.ntmps24
    go_wp2
    go_ret
    exact ⟨⟨_, rfl, rfl⟩, Below.refl _ _⟩
  have h1 : 0 < s.size := by omega
  have hLne : s.toList.isEmpty = false := by
    rw [Lib.toList_data]
    cases h : s.data.toList with
    | nil => rw [size_eq, h] at h1; simp at h1
    | cons _ _ => rfl
  obtain ⟨cap, hcap⟩ : ∃ cap, grownCap w s.size 0 5 = cap := ⟨_, rfl⟩
  have hconv := run_bytes_of_string w 9 22 5 s Tryd.underlying9 Tryd.underlying22 Tryd.underlying5
  rw [hcap] at hconv
  obtain ⟨row, hrow⟩ : ∃ row, bytesRow s cap = row := ⟨_, rfl⟩
  rw [hrow] at hconv
  have hrs : s.size ≤ row.size := by rw [← hrow]; unfold bytesRow; simp
  have hat : ∀ j (hj : j < s.size), row[j]? = some (.int .u8 (s.data[j].toNat : Int)) := fun j hj => by rw [← hrow]; exact bytesRow_at s cap j hj
  obtain ⟨W, hW⟩ : ∃ W, w.drew.alloc (.cells row 5 (row.size, row.size + 1)) = W := ⟨_, rfl⟩
  rw [hW] at hconv
  have hblk : W.heap[w.heap.size]? = some (.cells row 5 (row.size, row.size + 1)) := by rw [← hW]; exact heap_alloc_new w.drew _
  have hbl : Below w.heap.size w W := by rw [← hW]; exact ((Below.refl _ w).drew).alloc (Nat.le_refl _) _
  obtain ⟨k, hk⟩ : ∃ k, at_ % s.size = k := ⟨_, rfl⟩
  have hks : k < s.size := by rw [← hk]; exact Nat.mod_lt _ h1
  obtain ⟨x, hx⟩ : ∃ x, s.data[k]'hks = x := ⟨_, rfl⟩
  have hcell : W.cell? ⟨w.heap.size, k, none⟩ = some (.int .u8 (x.toNat : Int)) := by rw [Go.Joins.cell_of_block hblk, hat k hks, hx]
  have hfz : W.frozen? ⟨w.heap.size, k, none⟩ = false := by
    simp [World.frozen?, hblk]
    omega
  obtain ⟨y, hy⟩ : ∃ y : Nat, x.toNat ^^^ c = y := ⟨_, rfl⟩
  have hy8 : y < 256 := by rw [← hy]; exact Nat.xor_lt_two_pow (n := 8) x.toNat_lt (by omega)
  have hxor : bits .xor .u8 (x.toNat : Int) (c : Int) = (y : Int) := by rw [u8_xor_nat _ _ x.toNat_lt hc, hy]
  have hwr : IntKind.i64.wrap (at_ : Int) = (at_ : Int) := IntWalk.i64_in _ (by omega)
  have hkz : (at_ : Int) % (s.size : Int) = (k : Int) := by omega
  have hkz2 : (k : Int) < (s.size : Int) := by omega
  have hq0 : ¬ (s.size : Int) = 0 := by omega
  have hq0' : ((s.size : Int) == 0) = false := beq_eq_false_iff_ne.2 hq0
  have hqn : ¬ s.size = 0 := h0
  obtain ⟨l, hl⟩ : ∃ l : BL, s.data.toList.set k (UInt8.ofNat y) = l := ⟨_, rfl⟩
  have hll : l.length = s.size := by rw [← hl, List.length_set, ← size_eq]
  have hback : (convert 22 9 (.slice (some ⟨w.heap.size, 0, none⟩) s.size cap)).run Tryd.prog (W.setCell ⟨w.heap.size, k, none⟩ (.int .u8 (y : Int))) = .ok (.string (BA l)) (W.setCell ⟨w.heap.size, k, none⟩ (.int .u8 (y : Int))) := by
    have hset := Go.Joins.block_setCell (i := k) hblk (.int .u8 (y : Int))
    have := run_convert_bytes_back (P := Tryd.prog) (W.setCell ⟨w.heap.size, k, none⟩ (.int .u8 (y : Int))) 22 9 5 ⟨w.heap.size, 0, none⟩ cap l Tryd.underlying22 Tryd.underlying5 Tryd.underlying9 (fun j hj => by
      have hj2 : j < s.size := by omega
      rw [show (⟨w.heap.size, 0, none⟩ : Addr).add j = ⟨w.heap.size, j, none⟩ by unfold Addr.add; split <;> simp_all]
      rw [Go.Joins.cell_of_block hset]
      subst hl
      by_cases hjk : j = k
      · subst hjk
        have hsz : j < row.size := by omega
        rw [Array.getElem?_setIfInBounds_self_of_lt hsz]
        rw [List.getElem_set_self, UInt8.toNat_ofNat']
        rw [show y % 2 ^ 8 = y by omega]
      · rw [Array.getElem?_setIfInBounds_ne (fun e => hjk e.symm), hat j hj2, List.getElem_set_ne (fun e => hjk e.symm)]
        rfl)
    rw [hll] at this
    exact this
  have HF := Lib.hid (And.intro hbl (And.intro hll hblk))
  clear hl hll hbl hblk hat hx hy hy8 hrs hrow hcap hW hk h0
  go_enter Tryd.func24, Tryd.ntmps24
  go_wp2
  go_ret
  exact ⟨⟨_, rfl, by rw [ba_size, HF.out.2.1]⟩, HF.out.1.setCell (p := ⟨w.heap.size, k, none⟩) (Nat.le_refl _) _⟩
end Go.Proofs.YthlioinmeimhoaaDoor
