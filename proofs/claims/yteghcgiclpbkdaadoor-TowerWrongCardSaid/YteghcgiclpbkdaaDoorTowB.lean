/- IndexFunc, ContainsFunc over texts; Ask's own look at a name. -/
import Derived.Test.YteghcgiclpbkdaaDoorTowA
namespace Go.Proofs.YteghcgiclpbkdaaDoor
open Go.RowKit

/-- f, called with any grant in a world in which only blocks of S have changed, answers p and leaves what is there alone. -/
def AsksS (S : Nat → Prop) (w : World) (f : Value) (p : ByteArray → Bool) : Prop :=
  ∃ k caps, f = .func (.func k) #[] caps ∧ (∀ args w1, (callFunc k args).run Tryd.prog w1 = .ok (.enter k args) w1) ∧ ∀ g w1, Only S w w1 →
    Calls Tryd.prog k (#[.string g] ++ caps) w1 fun e w2 => e = .returned (.bool (p g)) ∧ Below w1.heap.size w1 w2

def IdxIS (l : List ByteArray) (p : ByteArray → Bool) : Int := match l.findIdx? p with | some i => i | none => -1

theorem idxI_foundS {l : List ByteArray} {p : ByteArray → Bool} {k : Nat} (h : k < l.length) (hp : p l[k] = true) (hno : ∀ j (h : j < l.length), j < k → p l[j] = false) : IdxIS l p = k := by
  have : l.findIdx? p = some k := by
    rw [List.findIdx?_eq_some_iff_getElem]
    exact ⟨h, hp, fun j hj => by simpa using hno j (by omega) hj⟩
  simp [IdxIS, this]
theorem idxI_noneS {l : List ByteArray} {p : ByteArray → Bool} (hno : ∀ j (h : j < l.length), p l[j] = false) : IdxIS l p = -1 := by
  have : l.findIdx? p = none := by
    rw [List.findIdx?_eq_none_iff]
    intro x hx
    obtain ⟨i, hi, rfl⟩ := List.getElem_of_mem hx
    simpa using hno i hi
  simp [IdxIS, this]
theorem idxI_anyS (l : List ByteArray) (p : ByteArray → Bool) : decide (0 ≤ IdxIS l p) = l.any p := by
  unfold IdxIS
  cases h : l.findIdx? p with
  | none =>
    rw [List.findIdx?_eq_none_iff] at h
    have : l.any p = false := by
      rw [List.any_eq_false]; intro x hx; simpa using h x hx
    simp [this]
  | some i =>
    rw [List.findIdx?_eq_some_iff_getElem] at h
    obtain ⟨hi, hp, _⟩ := h
    have : l.any p = true := List.any_eq_true.2 ⟨_, List.getElem_mem hi, hp⟩
    simp [this]

theorem step_noS {l : List ByteArray} {p : ByteArray → Bool} {k : Nat} {hk : k < l.length} (hno : ∀ j (h : j < l.length), j < k → p l[j] = false) (hp : p l[k] = false) : ∀ j (h : j < l.length), j < k + 1 → p l[j] = false := by
  intro j hj hjk
  rcases Nat.lt_or_ge j k with h | h
  · exact hno j hj h
  · obtain rfl : j = k := by omega
    exact hp

set_option maxHeartbeats 400000 in
theorem indexFunc_anyS (v f : Value) (l : List ByteArray) (p : ByteArray → Bool) (w : World) (hv : SRead w v l) (S : Nat → Prop) (hf : AsksS S w f p) :
    Calls Tryd.prog 73 #[v, f] w fun e w' => e = .returned (.int .i64 (IdxIS l p)) ∧ Below w.heap.size w w' := by
  obtain ⟨hm, a, cap, rfl, _, _, _, hv⟩ := hv
  obtain ⟨kf, caps, rfl, henter, hf⟩ := hf
  have hsz : l.length ≤ 9223372036854775807 := by omega
  go_enter Tryd.func73, Tryd.ntmps73
  go_wp2
  go_loopw [5, 8] (fun _ i wr => ∃ k : Nat, k ≤ l.length ∧ i = .int .i64 k ∧ (∀ j (h : j < l.length), j < k → p l[j] = false) ∧ Below w.heap.size w wr) (fun _ i _ => l.length - (intOf i).toNat)
  case atStart => exact ⟨0, Nat.zero_le _, rfl, by omega, Below.refl _ _⟩
  case round =>
    obtain ⟨k, hk, rfl, hno, hb⟩ := hrel
    by_cases hlt : k < l.length
    · obtain ⟨b, off, rfl, hc⟩ := hv (by omega)
      have c0 := bcell hb (hc k hlt)
      have hcall := Lib.hid (hf l[k] wr (Only.ofBelow hb S))
      clear hf hc hv
      go_wp2_with fail
      refine hcall.out.mono ?_
      rintro e w2 ⟨rfl, hb2⟩
      cases hp : p l[k] with
      | true =>
        have HP := Lib.hid hp
        clear hp
        go_wp2
        go_ret
        exact ⟨ret_int (idxI_foundS hlt HP.out hno).symm, hb.trans (hb2.mono hb.size)⟩
      | false =>
        have HP := Lib.hid hp
        clear hp
        go_wp2
        go_roundw
        case rel => exact ⟨k + 1, by omega, by go_num, step_noS hno HP.out, hb.trans (hb2.mono hb.size)⟩
        case measure => simp [intOf]; omega
    · go_wp2
      go_ret
      exact ⟨ret_int (idxI_noneS (fun j hj => hno j hj (by omega))).symm, hb⟩

theorem idxI_rangeS (l : List ByteArray) (p : ByteArray → Bool) : -1 ≤ IdxIS l p ∧ IdxIS l p < l.length := by
  unfold IdxIS
  cases h : l.findIdx? p with
  | none => simp; omega
  | some i =>
    rw [List.findIdx?_eq_some_iff_getElem] at h
    obtain ⟨hi, _⟩ := h
    constructor <;> simp <;> omega

set_option maxHeartbeats 400000 in
theorem containsFunc_anyS (v f : Value) (l : List ByteArray) (p : ByteArray → Bool) (w : World) (hv : SRead w v l) (S : Nat → Prop) (hf : AsksS S w f p) :
    Calls Tryd.prog 62 #[v, f] w fun e w' => e = .returned (.bool (l.any p)) ∧ Below w.heap.size w w' := by
  go_enter Tryd.func62, Tryd.ntmps62
  go_wp2_with fail
  refine (indexFunc_anyS v f l p _ hv S hf).mono ?_
  rintro e w2 ⟨rfl, hb⟩
  go_wp2
  go_ret
  exact ⟨ret_bool (idxI_anyS l p), hb⟩

def oddB (s : ByteArray) : Bool := s.toList.isEmpty || decide (16 < (s.size : Int))
theorem enter_odd (args : Array Value) (w : World) : (callFunc 61 args).run Tryd.prog w = .ok (.enter 61 args) w := by kernel_rfl
set_option maxHeartbeats 400000 in
theorem odd_any (s : ByteArray) (w : World) :
    Calls Tryd.prog 61 #[.string s] w fun e w' => e = .returned (.bool (oddB s)) ∧ w = w' := by
  go_enter Tryd.func61, Tryd.ntmps61
  go_wp2
  all_goals go_ret
  all_goals exact ⟨ret_bool (by simp [oddB, *]), rfl⟩
theorem asks_odd (T : Nat → Prop) (w : World) : AsksS T w (.func (.func 61) #[] #[]) oddB :=
  ⟨_, _, rfl, enter_odd, fun g w1 _ => (odd_any g w1).mono fun _ _ ⟨h1, h2⟩ => ⟨h1, h2 ▸ Below.refl _ _⟩⟩
end Go.Proofs.YteghcgiclpbkdaaDoor
