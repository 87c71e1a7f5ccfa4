/- The law's Mend. -/
import Derived.Test.YthlioinmeimhoaaDoorTxQ
import Derived.Test.YthlioinmeimhoaaDoorTxR
namespace Go.Proofs.YthlioinmeimhoaaDoor
open Go.Shelf Go.RowKit Go.Lib

theorem runes_one (r : Int) : runesBytes [r] = BA (encodeRune r) := by
  unfold runesBytes
  rw [List.foldl_cons, List.foldl_nil, encode_ba]
  have : ∀ b : ByteArray, ByteArray.empty ++ b = b := fun b => by simp
  exact this _

/-- what is put anew of the rest. -/
theorem mend_at (L acc : BL) (pos : Nat) (T : BL) (hp : pos < L.length) (h : acc ++ mendL (L.drop pos) = T) :
    (acc ++ encodeRune (decodeL (L.drop pos)).1) ++ mendL (L.drop (pos + (decodeL (L.drop pos)).2)) = T := by
  have hne : L.drop pos ≠ [] := fun e => by
    have := congrArg List.length e
    rw [List.length_drop] at this
    simp at this
    omega
  rw [← h, mend_step _ hne, List.drop_drop, List.append_assoc]

set_option maxHeartbeats 2000000 in
set_option maxRecDepth 100000 in
theorem mend_any (s : ByteArray) (w : World) (hs : s.size ≤ 1099511627776) :
    Calls Tryd.prog 32 #[.string s] w fun e w' => e = .returned (.string (BA (mendL s.data.toList))) ∧ Below w.heap.size w w' := by
  obtain ⟨L, hL⟩ : ∃ L, s.data.toList = L := ⟨_, rfl⟩
  have hLs : L.length = s.size := by rw [← hL, ← size_eq]
  have HL := Lib.hid hL
  rw [hL]
  clear hL
  go_enter Tryd.func32, Tryd.ntmps32
  go_wp2
  go_loopg [3] s.size (fun gk ov wr => ∃ (pos : Nat) (acc : BL) (O : ByteArray), gk + pos = s.size ∧ wr.heap[w.heap.size]? = some (.stringIter s pos) ∧ ov = .string O ∧ O.data.toList = acc ∧ acc ++ mendL (L.drop pos) = mendL L ∧ acc.length ≤ 4 * pos ∧ Below w.heap.size w wr)
  case atStart =>
    refine ⟨0, [], ⟨#[]⟩, by omega, ?_, rfl, rfl, rfl, by simp, (Below.refl _ w).alloc (Nat.le_refl _) _⟩
    have := World.iter_heap w s 0
    simpa using this
  case round =>
    obtain ⟨pos, acc, O, hg, hit, rfl, hO, hacc, hal, hbw⟩ := hrel
    have hsz : w.heap.size < wr.heap.size := (Array.getElem?_eq_some_iff.1 hit).1
    have hOs : O.size = acc.length := by rw [size_eq, hO]
    by_cases hp : pos < s.size
    · have hnx : ∀ ty, (Instr.next (.pointer (some ⟨w.heap.size, 0, none⟩)) true ty).run Tryd.prog wr = _ := fun ty => Lib.run_next_any_at wr w.heap.size s pos ty hit hp
      have hit2 := Lib.iterAt_heap wr w.heap.size s pos (pos + (Utf8.decode s pos).2) hit
      have hbw2 := Lib.below_iterAt hbw (k := w.heap.size) (Nat.le_refl _) s (pos + (Utf8.decode s pos).2)
      have hde : Utf8.decode s pos = decodeL (L.drop pos) := by rw [← HL.out, decodeL_drop]
      have hma := mend_at L acc pos _ (by omega) hacc
      have hDne : L.drop pos ≠ [] := fun e => by
        have := congrArg List.length e
        rw [List.length_drop] at this
        simp at this
        omega
      have hKw := decodeL_width (L.drop pos)
      have hKle := decodeL_le (L.drop pos) hDne
      rw [List.length_drop] at hKle
      rw [← hde] at hma hKw hKle
      obtain ⟨R, hR⟩ : ∃ R, (Utf8.decode s pos).1 = R := ⟨_, rfl⟩
      obtain ⟨K, hK⟩ : ∃ K, (Utf8.decode s pos).2 = K := ⟨_, rfl⟩
      rw [hR, hK] at hma hnx
      rw [hK] at hit2 hbw2 hKw hKle
      have hel : (encodeRune (R : Int)).length ≤ 4 := by
        have := encodeRuneZ_length (R : Int)
        unfold encodeRune
        rw [List.length_map]
        omega
      obtain ⟨E, hE⟩ : ∃ E, BA (encodeRune (R : Int)) = E := ⟨_, rfl⟩
      have hEL : E.data.toList = encodeRune (R : Int) := by rw [← hE]
      have hEs : E.size ≤ 4 := by rw [size_eq, hEL]; exact hel
      have hcv : ∀ (W : World) (b : Nat), W.cell? ⟨b, 0, none⟩ = some (.int .i32 (R : Int)) → (convert 58 9 (.slice (some ⟨b, 0, none⟩) 1 1)).run Tryd.prog W = .ok (.string E) W := fun W b hc => by
        have := run_convert_runes W 58 9 21 ⟨b, 0, none⟩ 1 1 [(R : Int)] (by simp) Tryd.underlying58 Tryd.underlying21 Tryd.underlying9 (fun j hj => by
          simp at hj
          subst hj
          simpa [Addr.add] using hc)
        rw [this, List.take_of_length_le (by simp), runes_one, hE]
      have hcat : ¬ 9223372036854775807 < O.size + E.size := by omega
      have HB := Lib.hid (And.intro hit2 (And.intro hbw2 (And.intro hma (And.intro hal (And.intro hEL (And.intro hel hO))))))
      clear hit2 hbw2 hbw hit hma hal hEL hel hO hde hR hK hE hDne hacc
      have hsz2 : w.heap.size < (wr.iterAt w.heap.size s (pos + K)).heap.size := by rw [Lib.iterAt_size]; exact hsz
      go_wp2
      go_roundg (gk - K)
      case rel =>
        refine ⟨pos + K, acc ++ encodeRune (R : Int), O ++ E, by omega, ?_, rfl, ?_, HB.out.2.2.1, ?_, HB.out.2.1.alloc (by omega) _⟩
        · rw [Lib.alloc_old _ _ _ hsz2]; exact HB.out.1
        · rw [app_list, HB.out.2.2.2.2.2.2, HB.out.2.2.2.2.1]
        · have h1 := HB.out.2.2.2.1
          have h2 := HB.out.2.2.2.2.2.1
          rw [List.length_append]
          omega
      case measure => omega
    · have hnx : ∀ ty, (Instr.next (.pointer (some ⟨w.heap.size, 0, none⟩)) true ty).run Tryd.prog wr = _ := fun ty => Lib.run_next_end_at wr w.heap.size s pos ty hit hp
      rw [List.drop_eq_nil_of_le (by omega), mend_nil, List.append_nil] at hacc
      have HQ := Lib.hid (show BA (mendL L) = O by rw [← hacc, ← hO, ba_list])
      have HB := Lib.hid hbw
      clear hbw hit hacc hal hO
      go_wp2
      go_ret
      rw [HQ.out]
      exact ⟨rfl, HB.out⟩
end Go.Proofs.YthlioinmeimhoaaDoor
