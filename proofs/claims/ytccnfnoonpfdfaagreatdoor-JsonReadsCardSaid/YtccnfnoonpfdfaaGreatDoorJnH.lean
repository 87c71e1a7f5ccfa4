/- The JSON reader's number: strconv.ParseInt at digits. -/
import Derived.Test.YtccnfnoonpfdfaaGreatDoorJnG
namespace Go.Proofs.YtccnfnoonpfdfaaGreatDoor
open Go.Shelf Go.RowKit Go.Lib

theorem numOf_from (l : BL) : ∀ acc : Nat, acc ≤ l.foldl (fun n c => n * 10 + (c.toNat - 48)) acc := by
  induction l with
  | nil => intro acc; exact Nat.le_refl _
  | cons c l ih => intro acc; exact Nat.le_trans (by omega) (ih (acc * 10 + (c.toNat - 48)))
theorem parseM_digits : ∀ (l : BL), (∀ c ∈ l, isDig c = true) → ∀ acc : Nat, acc ≤ 18446744073709551615 →
    (l.foldl (fun n c => n * 10 + (c.toNat - 48)) acc ≤ 18446744073709551615 → Lib.parseUintM 18446744073709551615 acc l = .ok (l.foldl (fun n c => n * 10 + (c.toNat - 48)) acc)) ∧
    (18446744073709551615 < l.foldl (fun n c => n * 10 + (c.toNat - 48)) acc → Lib.parseUintM 18446744073709551615 acc l = .range)
  | [], _, acc, ha => ⟨fun _ => rfl, fun h => absurd h (by show ¬ _ < acc; omega)⟩
  | c :: l, h, acc, ha => by
    have hc : 48 ≤ c.toNat ∧ c.toNat ≤ 57 := by have := h c (List.mem_cons_self ..); unfold isDig at this; simpa using this
    have h1 := numOf_from l (acc * 10 + (c.toNat - 48))
    simp only [List.foldl_cons, Lib.parseUintM, if_pos hc]
    by_cases h2 : 1844674407370955162 ≤ acc
    · rw [if_pos h2]
      exact ⟨fun h => absurd h (by omega), fun _ => rfl⟩
    · rw [if_neg h2]
      by_cases h3 : 18446744073709551615 < acc * 10 + (c.toNat - 48)
      · rw [if_pos h3]
        exact ⟨fun h => absurd h (by omega), fun _ => rfl⟩
      · rw [if_neg h3]
        exact parseM_digits l (fun x hx => h x (List.mem_cons_of_mem _ hx)) _ (by omega)
theorem digsL_all : ∀ (s : BL), ∀ c ∈ digsL s, isDig c = true
  | [], c, h => by simp [digsL] at h
  | a :: s, c, h => by
    rw [digsL] at h
    split at h
    · rename_i ha
      rcases List.mem_cons.1 h with rfl | h
      · exact ha
      · exact digsL_all s c h
    · simp at h
theorem takeN_all (s : BL) : ∀ c ∈ takeN s, isDig c = true := by
  cases s with
  | nil => intro c h; simp [takeN] at h
  | cons a s =>
    intro c h
    simp only [takeN] at h
    split at h
    · rw [List.mem_singleton] at h; rw [h]; rfl
    · exact digsL_all _ c h
def sgnL (m : Bool) : BL := if m then [45] else []
def fits (m : Bool) (n : Nat) : Prop := n < 9223372036854775808 ∨ (m = true ∧ n = 9223372036854775808)
theorem parse_num (m : Bool) (d : BL) (hd : d ≠ []) (hall : ∀ c ∈ d, isDig c = true) :
    (fits m (numOf d) → Lib.parseIntB 64 (sgnL m ++ d) = .ok (if m then - (numOf d : Int) else numOf d)) ∧ (¬ fits m (numOf d) → Lib.parseIntB 64 (sgnL m ++ d) = .range) := by
  have h1 := parseM_digits d hall 0 (by omega)
  have h2 : Lib.parseUintB 64 d = Lib.parseUintM 18446744073709551615 0 d := by unfold Lib.parseUintB; rw [if_neg hd]
  rw [← h2] at h1
  have e : d.foldl (fun n c => n * 10 + (c.toNat - 48)) 0 = numOf d := rfl
  rw [e] at h1
  obtain ⟨u, hu⟩ : ∃ u, numOf d = u := ⟨_, rfl⟩
  rw [hu] at h1 ⊢
  have key : ∀ b : Bool, (b = m) → ((u ≤ 18446744073709551615 → Lib.parseIntB 64 (sgnL m ++ d) = (if ¬ (m = true) ∧ 9223372036854775808 ≤ u then .range else if m = true ∧ 9223372036854775808 < u then .range else .ok (if m = true then -(u : Int) else u))) ∧ (18446744073709551615 < u → Lib.parseIntB 64 (sgnL m ++ d) = .range)) := by
    intro b hb
    cases m with
    | true =>
      show (_ → Lib.parseIntB 64 (45 :: d) = _) ∧ (_ → Lib.parseIntB 64 (45 :: d) = _)
      unfold Lib.parseIntB
      refine ⟨fun h => ?_, fun h => ?_⟩
      · simp only [show (45 : UInt8).toNat = 45 from rfl, if_true, or_true, h1.1 h]
        try rfl
      · simp only [show (45 : UInt8).toNat = 45 from rfl, if_true, or_true, h1.2 h]
    | false =>
      show (_ → Lib.parseIntB 64 d = _) ∧ (_ → Lib.parseIntB 64 d = _)
      cases d with
      | nil => exact absurd rfl hd
      | cons c r =>
        have hc : 48 ≤ c.toNat ∧ c.toNat ≤ 57 := by have := hall c (List.mem_cons_self ..); unfold isDig at this; simpa using this
        unfold Lib.parseIntB
        have n1 : ¬ (c.toNat = 43 ∨ c.toNat = 45) := by omega
        have n2 : ¬ c.toNat = 45 := by omega
        refine ⟨fun h => ?_, fun h => ?_⟩
        · have e1 : (if c.toNat = 43 ∨ c.toNat = 45 then r else c :: r) = c :: r := if_neg n1
          simp only [e1, h1.1 h]
          simp only [n2, not_false_eq_true, true_and, false_and, if_false]
          have e2 : (2 : Nat) ^ (64 - 1) = 9223372036854775808 := rfl
          by_cases h5 : 9223372036854775808 ≤ u
          · rw [if_pos (by omega), if_pos ⟨by simp, h5⟩]
          · rw [if_neg (by omega), if_neg (by simp; omega), if_neg (by simp)]
            rfl
        · simp only [if_neg n1, h1.2 h]
  have hk := key m rfl
  unfold fits
  refine ⟨fun h => ?_, fun h => ?_⟩
  · rw [hk.1 (by omega)]
    cases m with
    | true => rw [if_neg (by simp), if_neg (by simp; omega)]
    | false => rw [if_neg (by simp; rcases h with h | ⟨h, _⟩; omega; cases h), if_neg (by simp)]
  · by_cases hb : u ≤ 18446744073709551615
    · rw [hk.1 hb]
      cases m with
      | true => rw [if_neg (by simp), if_pos ⟨rfl, by have : ¬ (u < 9223372036854775808 ∨ u = 9223372036854775808) := fun hh => h (hh.imp id (fun e => ⟨rfl, e⟩)); omega⟩]
      | false => rw [if_pos ⟨by simp, by have : ¬ u < 9223372036854775808 := fun hh => h (.inl hh); omega⟩]
    · exact hk.2 (by omega)

/-- strconv.ParseInt at any text: the number, or an error. -/
def ParseP (T : BL) (w : World) (e : Ending) (w' : World) : Prop := ∃ (n : Int) (ev : Value), e = .returned (.tuple #[.int .i64 n, ev]) ∧ ((ev = .nilIface ∧ Lib.parseIntB 64 T = .ok n) ∨ ((∃ t u, ev = .iface t u) ∧ ∀ v, Lib.parseIntB 64 T ≠ .ok v)) ∧ Below w.heap.size w w'
theorem parse_any (T : ByteArray) (w : World) (hs : T.size ≤ 2000000) (hE : Env w) : Calls Tryz.prog 98 #[.string T, .int .i64 10, .int .i64 64] w (ParseP T.data.toList w) := by
  cases h : Lib.parseIntB 64 T.data.toList with
  | ok v =>
    refine (Tryz.strconv_ParseInt_10_at64_ok T (by omega) v h w).mono ?_
    rintro e w' ⟨rfl, hw⟩
    refine ⟨v, .nilIface, rfl, .inl ⟨rfl, h⟩, ?_⟩
    rcases hw with rfl | ⟨t, rfl⟩
    · exact Below.refl _ _
    · exact Lib.bytesWorld_below _ _ _
  | range =>
    obtain ⟨tp, p, hv⟩ := hE.far
    refine (Tryz.strconv_ParseInt_10_at64_range_var T (by omega) h tp p w hv).mono ?_
    rintro e w' ⟨N, rfl, _, _, hb⟩
    exact ⟨_, _, rfl, .inr ⟨⟨_, _, rfl⟩, fun v e => by rw [h] at e; cases e⟩, hb⟩
  | _ =>
    obtain ⟨tp, p, hv⟩ := hE.bad
    refine (Any.strconv_ParseInt_10_at64_syntax_var Tryz.laysC174 T (by omega) h tp p w hv).mono ?_
    rintro e w' ⟨N, rfl, _, _, hb⟩
    exact ⟨_, _, rfl, .inr ⟨⟨_, _, rfl⟩, fun v e => by rw [h] at e; cases e⟩, hb⟩
end Go.Proofs.YtccnfnoonpfdfaaGreatDoor
