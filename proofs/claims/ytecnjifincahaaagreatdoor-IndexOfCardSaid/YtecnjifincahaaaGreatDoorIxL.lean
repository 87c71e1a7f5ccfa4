/- The law's Key at its five paths; the two ways to find are one there. -/
import Derived.Test.YtecnjifincahaaaGreatDoorIxK
import Derived.Test.YtecnjifincahaaaGreatDoorIxG
import Derived.Test.YtecnjifincahaaaGreatDoorIxI
namespace Go.Proofs.YtecnjifincahaaaGreatDoor
open Go.Shelf Go.RowKit Go.Lib

theorem smallVs_of : ∀ {l : List V}, (∀ x ∈ l, smallV x) → smallVs l
  | [], _ => by rw [smallVs]; trivial
  | v :: l, h => by rw [smallVs]; exact ⟨h v (List.mem_cons_self ..), smallVs_of fun x hx => h x (List.mem_cons_of_mem _ hx)⟩
theorem smallFs_of : ∀ {l : List (BL × V)}, (∀ x ∈ l, smallV x.2) → smallFs l
  | [], _ => by rw [smallFs]; trivial
  | (n, v) :: l, h => by rw [smallFs, smallF]; exact ⟨h (n, v) (List.mem_cons_self ..), smallFs_of fun x hx => h x (List.mem_cons_of_mem _ hx)⟩
theorem small_leaf (c : Nat) : smallV (leafL c) := by
  unfold leafL
  split
  · simp [smallV]
  · split
    · simp [smallV]
    · split <;> simp [smallV]
theorem small_times {rec : BL → V × BL} (h : ∀ b, smallV (rec b).1) (b : BL) : ∀ k, ∀ x ∈ (timesL rec k b).1, smallV x
  | 0, x, hx => by simp [timesL] at hx
  | k + 1, x, hx => by
    rw [timesL_succ] at hx
    rcases List.mem_append.1 hx with h1 | h1
    · exact small_times h b k x h1
    · rw [List.mem_singleton] at h1; rw [h1]; exact h _
theorem small_fields {rec : BL → V × BL} (h : ∀ b, smallV (rec b).1) (n : Nat) (b : BL) : ∀ k, ∀ x ∈ (fieldsN rec n k b).1, smallV x.2
  | 0, x, hx => by simp [fieldsN] at hx
  | k + 1, x, hx => by
    rw [fieldsN] at hx
    split at hx
    · rcases List.mem_append.1 hx with h1 | h1
      · exact small_fields h n b k x h1
      · rw [List.mem_singleton] at h1; rw [h1]; exact h _
    · exact small_fields h n b k x hx
theorem small_made : ∀ (d : Nat) (b : BL), smallV (madeL d b).1
  | d, [] => by rw [madeL_nil]; simp [smallV]
  | 0, c :: b => small_leaf c.toNat
  | d + 1, c :: b => by
    unfold madeL
    split
    · show smallV (.list _)
      rw [smallV]
      exact ⟨by rw [timesL_len]; omega, smallVs_of (small_times (small_made d) b _)⟩
    · split
      · show smallV (.obj _)
        rw [smallV]
        exact smallFs_of (small_fields (small_made d) _ b _)
      · exact small_leaf c.toNat
theorem small_of (l : BL) : smallV (ofL l) := small_made 3 _
theorem keysL_mem : ∀ {l : List V} {x : V}, x ∈ l → (keyL x).length ≤ (keysL l).length
  | v :: l, x, h => by
    rw [keysL, List.length_append]
    rcases List.mem_cons.1 h with rfl | h
    · omega
    · have := keysL_mem h; omega
theorem fieldsL_mem : ∀ {l : List (BL × V)} {f : BL × V}, f ∈ l → (keyL f.2).length ≤ (fieldsL l).length
  | g :: l, f, h => by
    rw [fieldsL, List.length_append]
    rcases List.mem_cons.1 h with rfl | h
    · rw [fieldL_eq]; simp; omega
    · have := fieldsL_mem h; omega
theorem step_key {place : BL → Nat → Option Nat} {v x : V} {p : BL} (e : stepP place v p = some x) : (keyL x).length ≤ (keyL v).length := by
  cases v with
  | list l =>
    rw [stepP] at e
    cases hk : place p l.length with
    | none => rw [hk] at e; simp at e
    | some k =>
      rw [hk] at e
      have := keysL_mem (List.mem_of_getElem? (show l[k]? = some x from e))
      rw [keyL]; simp; omega
  | obj l =>
    rw [stepP] at e
    obtain ⟨f, hf, rfl⟩ := fieldP_mem e
    have := fieldsL_mem hf
    rw [keyL]; simp; omega
  | _ => simp [stepP] at e
theorem find_key {place : BL → Nat → Option Nat} : ∀ {ps : List BL} {v x : V}, findP place v ps = some x → (keyL x).length ≤ (keyL v).length
  | [], v, x, e => by rw [findP] at e; rw [Option.some.inj e]; exact Nat.le_refl _
  | p :: ps, v, x, e => by
    rw [findP] at e
    cases h : stepP place v p with
    | none => rw [h] at e; simp at e
    | some y =>
      rw [h] at e
      exact Nat.le_trans (find_key (show findP place y ps = some x from e)) (step_key h)
theorem find_eq (ps : List BL) (h : ∀ p ∈ ps, ∀ n, n ≤ 10 → placeK p n = placeL p n) : ∀ (v : V), smallV v → findP placeK v ps = findP placeL v ps := by
  induction ps with
  | nil => intro v _; rw [findP, findP]
  | cons p ps ih =>
    intro v hs
    have e : stepP placeK v p = stepP placeL v p := by
      cases v with
      | list l =>
        rw [stepP, stepP]
        rw [smallV] at hs
        rw [h p (List.mem_cons_self ..) _ hs.1]
      | obj l => rw [stepP, stepP]
      | _ => rfl
    rw [findP, findP, ← e]
    cases hx : stepP placeK v p with
    | none => rfl
    | some x => exact ih (fun q hq => h q (List.mem_cons_of_mem _ hq)) x (small_step hs hx)
/-- the law's paths, and their parts. -/
def pathS (k : Nat) : BL := ([[97], [98], [97, 46, 98], [99, 46, 48], [110]] : List BL).getD k []
def partS (k : Nat) : List BL := ([[[97]], [[98]], [[97], [98]], [[99], [48]], [[110]]] : List (List BL)).getD k []
theorem place_five (c : UInt8) (hc : c = 97 ∨ c = 98 ∨ c = 99 ∨ c = 48 ∨ c = 110) : ∀ n, n ≤ 10 → placeK [c] n = placeL [c] n := by
  intro n hn
  have h : ∀ n, n < 11 → placeK [c] n = placeL [c] n := by
    rcases hc with rfl | rfl | rfl | rfl | rfl <;> decide +kernel
  exact h n (by omega)
theorem find_five (k : Nat) (hk : k < 5) (v : V) (hs : smallV v) : findP placeK v (partS k) = findP placeL v (partS k) := by
  refine find_eq _ (fun p hp => ?_) v hs
  rcases (show k = 0 ∨ k = 1 ∨ k = 2 ∨ k = 3 ∨ k = 4 by omega) with rfl | rfl | rfl | rfl | rfl
  · simp [partS] at hp; subst hp; exact place_five _ (by simp)
  · simp [partS] at hp; subst hp; exact place_five _ (by simp)
  · simp [partS] at hp; rcases hp with rfl | rfl <;> exact place_five _ (by simp)
  · simp [partS] at hp; rcases hp with rfl | rfl <;> exact place_five _ (by simp)
  · simp [partS] at hp; subst hp; exact place_five _ (by simp)
theorem path_five (k : Nat) (hk : k < 5) : IsPath (pathS k) (partS k) := by
  rcases (show k = 0 ∨ k = 1 ∨ k = 2 ∨ k = 3 ∨ k = 4 by omega) with rfl | rfl | rfl | rfl | rfl
  iterate 5 (· exact ⟨by decide +kernel, by decide +kernel, by decide +kernel, by decide +kernel, by decide +kernel, by decide +kernel⟩)
theorem parts_five (k : Nat) (hk : k < 5) (w : World) : Calls Tryz.prog 44 #[.string (BA (pathS k))] w fun e w' => ∃ sl, e = .returned sl ∧ PRead w' sl (partS k) ∧ Below w.heap.size w w' := by
  rcases (show k = 0 ∨ k = 1 ∨ k = 2 ∨ k = 3 ∨ k = 4 by omega) with rfl | rfl | rfl | rfl | rfl
  · exact parts_one 97 w
  · exact parts_one 98 w
  · exact parts_two 97 46 98 w
  · exact parts_two 99 46 48 w
  · exact parts_one 110 w
theorem PRead.later {w w2 : World} {sl : Value} {ps : List BL} (h : PRead w sl ps) (hb : Below w.heap.size w w2) : PRead w2 sl ps := by
  obtain ⟨h0, g, cap, rfl, h⟩ := h
  exact ⟨h0, g, cap, rfl, fun i hi => bcell hb (h i hi)⟩
/-- the law's Key is what index.Key is said to be. -/
theorem lkey_any (N : ByteArray) (u : Bool) (k : Nat) (hk : k < 5) (v : V) (hs : smallV v) (S : Nat → Prop) (w : World) (c : List Value) (hv : VAt S w v c) (hS : ∀ b, S b → b < w.heap.size) (hM : ML w) (hK : (keyL v).length ≤ 1000000) :
    Calls Tryz.prog 17 #[.agg #[.string N, .string (BA (pathS k)), .bool u], .agg c.toArray] w fun e w' => e = .returned (OptK (findP placeK v (partS k))) ∧ Below w.heap.size w w' := by
  rw [find_five k hk v hs]
  have hpl : ∀ p ∈ partS k, p.length ≤ 1000000 := fun p hp => by have := (path_five k hk).ok p hp; omega
  obtain ⟨q0, q1, q2, q3, q4, q5, q6, q7, q8, rfl⟩ := hv.shape
  cases hr : findP placeL v (partS k) with
  | none =>
    refine (lkey_core N (BA (pathS k)) ⟨#[]⟩ u false q0 q1 q2 q3 q4 q5 q6 q7 q8 (fun W sl => PRead W sl (partS k)) (fun _ d => d = [.int .i64 0, .int .i64 0, .string ⟨#[]⟩, .slice none 0 0, .slice none 0 0]) w (fun _ d hd => ⟨_, _, _, _, _, _, _, _, _, hd⟩) (fun _ _ _ h _ => h) (fun _ _ _ h hb => h.later hb) (fun W _ => parts_five k hk W) (fun W sl hb hp => ?_) (fun h => by cases h)).mono ?_
    · have h := lfind_any v (partS k) hpl hs S W _ sl (hv.later hb) (fun b hbS => Nat.lt_of_lt_of_le (hS b hbS) hb.size) hp
      rw [hr] at h
      refine (show Calls _ _ _ _ (fun e w' => e = .returned (.tuple #[.agg #[.int .i64 0, .int .i64 0, .string ⟨#[]⟩, .slice none 0 0, .slice none 0 0], .bool false]) ∧ Below W.heap.size W w') from h).mono ?_
      rintro e w' ⟨rfl, hb⟩
      exact ⟨_, rfl, rfl, hb⟩
    · rintro e w' ⟨rfl, hb⟩
      exact ⟨rfl, hb⟩
  | some x =>
    refine (lkey_core N (BA (pathS k)) (BA (keyL x)) u true q0 q1 q2 q3 q4 q5 q6 q7 q8 (fun W sl => PRead W sl (partS k)) (fun W d => VAt (fun b => S b ∧ b < w.heap.size) W x d) w (fun _ d hd => hd.shape) (fun W1 W2 d h hb => VAt.low (fun b hb => hb.2) hb h) (fun _ _ _ h hb => h.later hb) (fun W _ => parts_five k hk W) (fun W sl hb hp => ?_) (fun _ W d hb hd => ?_)).mono ?_
    · have h := lfind_any v (partS k) hpl hs (fun b => S b ∧ b < w.heap.size) W _ sl ((VAt.keep (fun b hb => ⟨hb, hS b hb⟩) (fun _ _ _ _ h => h) hv).later hb) (fun b hbS => Nat.lt_of_lt_of_le hbS.2 hb.size) hp
      rw [hr] at h
      refine (show Calls _ _ _ _ (fun e w' => ∃ d, e = .returned (.tuple #[.agg d.toArray, .bool true]) ∧ VAt _ w' x d ∧ Below W.heap.size W w') from h).mono ?_
      rintro e w' ⟨d, rfl, hd, hb⟩
      exact ⟨d, rfl, hd, hb⟩
    · exact lput_v x _ W d hd (hM.later hb) (Nat.le_trans (find_key hr) hK)
    · rintro e w' ⟨rfl, hb⟩
      exact ⟨rfl, hb⟩
end Go.Proofs.YtecnjifincahaaaGreatDoor
