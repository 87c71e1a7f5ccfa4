/- has, Same. -/
import Derived.Test.YteghcgiclpbkdaaDoorLawA
namespace Go.Proofs.YteghcgiclpbkdaaDoor
open Go.RowKit

def hasI (l : List (Int × Int)) (id : Int) : Int := match l.find? (fun g => g.1 == id) with | some g => g.2 | none => 0
theorem hasI_found {l : List (Int × Int)} {id : Int} {k : Nat} (h : k < l.length) (hp : (l[k].1 == id) = true) (hno : ∀ j (h : j < l.length), j < k → (l[j].1 == id) = false) : hasI l id = l[k].2 := by
  have : l.find? (fun g => g.1 == id) = some l[k] := by
    rw [List.find?_eq_some_iff_getElem]
    exact ⟨hp, k, h, rfl, fun j hj => by simpa using hno j (by omega) hj⟩
  simp [hasI, this]
theorem hasI_none {l : List (Int × Int)} {id : Int} (hno : ∀ j (h : j < l.length), (l[j].1 == id) = false) : hasI l id = 0 := by
  have : l.find? (fun g => g.1 == id) = none := by
    rw [List.find?_eq_none]
    intro x hx
    obtain ⟨i, hi, rfl⟩ := List.getElem_of_mem hx
    simpa using hno i hi
  simp [hasI, this]

set_option maxHeartbeats 400000 in
theorem has_any (v : Value) (l : List (Int × Int)) (id : Int) (w : World) (hv : GRead w v l) :
    Calls Tryd.prog 47 #[v, .int .i64 id] w fun e w' => e = .returned (.int .i64 (hasI l id)) ∧ Below w.heap.size w w' := by
  obtain ⟨hm, a, cap, rfl, hv⟩ := hv
  go_enter Tryd.func47, Tryd.ntmps47
  go_wp2
  go_loopw [9] (fun i wr => ∃ k : Nat, k ≤ l.length ∧ i = .int .i64 k ∧ (∀ j (h : j < l.length), j < k → (l[j].1 == id) = false) ∧ Below w.heap.size w wr) (fun i _ => l.length - (intOf i).toNat)
  case atStart => exact ⟨0, Nat.zero_le _, rfl, by omega, Below.refl _ _⟩
  case round =>
    obtain ⟨k, hk, rfl, hno, hb⟩ := hrel
    by_cases hlt : k < l.length
    · obtain ⟨b, off, rfl, hc⟩ := hv (by omega)
      have c0 := bcell hb (hc k hlt).1
      have c1 := bcell hb (hc k hlt).2
      have HB := Lib.hid hb
      have HN := Lib.hid hno
      clear hc hv hb hno
      cases hp : l[k].1 == id with
      | true =>
        go_wp2
        go_ret
        exact ⟨ret_int (hasI_found hlt hp HN.out).symm, HB.out.alloc HB.out.size _⟩
      | false =>
        go_wp2
        go_roundw
        case rel =>
          refine ⟨k + 1, by omega, by go_num, fun j hj hjk => ?_, HB.out.alloc HB.out.size _⟩
          rcases Nat.lt_or_ge j k with h | h
          · exact HN.out j hj h
          · obtain rfl : j = k := by omega
            exact hp
        case measure => simp [intOf]; omega
    · go_wp2
      go_ret
      exact ⟨ret_int (hasI_none (fun j hj => hno j hj (by omega))).symm, hb⟩

/-- v is a slice that reads as the numbers l. -/
def IRead (w : World) (v : Value) (l : List Int) : Prop :=
  l.length ≤ 9223372036854775807 ∧ ∃ a cap, v = .slice a l.length cap ∧ (0 < l.length → ∃ b off, a = some ⟨b, off, none⟩ ∧ ∀ i (h : i < l.length), w.cell? ⟨b, off + i, none⟩ = some (.int .i64 l[i]))
theorem IRead.below {w w2 : World} {v : Value} {l : List Int} (h : IRead w v l) (hb : Below w.heap.size w w2) : IRead w2 v l := by
  obtain ⟨hm, a, cap, rfl, h⟩ := h
  refine ⟨hm, a, cap, rfl, fun hl => ?_⟩
  obtain ⟨b, off, rfl, hc⟩ := h hl
  exact ⟨b, off, rfl, fun i hi => bcell hb (hc i hi)⟩
theorem iread_of_own {w : World} {b : Nat} {e : TypeId} {v : Value} {l : List Int} (h : w.ownsRow b e 1 v l.length (i64s l)) : IRead w v l := by
  rcases ownsRow_cases h with ⟨rfl, h0, hx⟩ | ⟨g, cap, rfl⟩
  · have : l = [] := by cases l <;> simp_all
    subst this
    exact ⟨by simp, none, 0, rfl, fun h => by simp at h⟩
  · obtain ⟨rest, hb, _, _, hn, hc⟩ := blk_of_ownsRow h
    refine ⟨by unfold maxLen at hc; omega, _, cap, rfl, fun _ => ⟨g, 0, rfl, fun i hi => ?_⟩⟩
    rw [hb.cell, Nat.zero_add, List.getElem?_append_left (by simpa [i64s] using hi)]
    simp [i64s, hi]

set_option maxHeartbeats 1000000 in
theorem same_any (v1 v2 : Value) (l1 l2 : List Int) (w : World) (h1 : IRead w v1 l1) (h2 : IRead w v2 l2) :
    Calls Tryd.prog 21 #[v1, v2] w fun e w' => e = .returned (.bool (decide (l1 = l2))) ∧ Below w.heap.size w w' := by
  obtain ⟨m1, a1, c1, rfl, h1⟩ := h1
  obtain ⟨m2, a2, c2, rfl, h2⟩ := h2
  by_cases hlen : l1.length = l2.length
  · have hle : ((l1.length : Int) != (l2.length : Int)) = false := by simp [hlen]
    have HL := Lib.hid hlen
    clear hlen
    go_enter Tryd.func21, Tryd.ntmps21
    go_wp2
    go_loopw [13] (fun i wr => ∃ k : Nat, k ≤ l1.length ∧ i = .int .i64 k ∧ (∀ j (h : j < l1.length) (h2 : j < l2.length), j < k → l1[j] = l2[j]) ∧ Below w.heap.size w wr) (fun i _ => l1.length - (intOf i).toNat)
    case atStart => exact ⟨0, Nat.zero_le _, rfl, by omega, Below.refl _ _⟩
    case round =>
      obtain ⟨k, hk, rfl, hno, hb⟩ := hrel
      by_cases hlt : k < l1.length
      · have hl2 : k < l2.length := by rw [← HL.out]; exact hlt
        have hlt2 : (k : Int) < (l2.length : Int) := by omega
        have hltI : (k : Int) < (l1.length : Int) := by omega
        have hk0 : (0 : Int) ≤ (k : Int) := by omega
        obtain ⟨b1, o1, rfl, hc1⟩ := h1 (by omega)
        obtain ⟨b2, o2, rfl, hc2⟩ := h2 (by omega)
        have d1 := bcell hb (hc1 k hlt)
        have d2 := bcell hb (hc2 k hl2)
        have HB := Lib.hid hb
        have HN := Lib.hid hno
        clear hc1 hc2 h1 h2 hb hno
        cases hp : l1[k] != l2[k] with
        | true =>
          have HP := Lib.hid hp
          go_wp2
          go_quiet (fail)
          go_wp2
          go_ret
          refine ⟨ret_bool ?_, pwDrewN HB.out _⟩
          symm
          rw [decide_eq_false_iff_not]
          rintro rfl
          simp at HP; exact absurd HP.out (by simp)
        | false =>
          have HP := Lib.hid hp
          go_wp2
          go_quiet (fail)
          go_wp2
          go_roundw
          case rel =>
            refine ⟨k + 1, by omega, by go_num, fun j hj hj2 hjk => ?_, pwDrewN HB.out _⟩
            rcases Nat.lt_or_ge j k with h | h
            · exact HN.out j hj hj2 h
            · obtain rfl : j = k := by omega
              have := HP.out; simpa using this
          case measure => simp [intOf]; omega
      · go_wp2
        go_ret
        refine ⟨ret_bool ?_, hb⟩
        symm
        rw [decide_eq_true_eq]
        exact List.ext_getElem HL.out (fun i hi hi2 => hno i hi hi2 (by omega))
  · have hle : ((l1.length : Int) != (l2.length : Int)) = true := by simp; omega
    go_enter Tryd.func21, Tryd.ntmps21
    go_wp2
    go_ret
    refine ⟨ret_bool ?_, Below.refl _ _⟩
    symm
    rw [decide_eq_false_iff_not]
    rintro rfl
    exact hlen rfl
end Go.Proofs.YteghcgiclpbkdaaDoor
