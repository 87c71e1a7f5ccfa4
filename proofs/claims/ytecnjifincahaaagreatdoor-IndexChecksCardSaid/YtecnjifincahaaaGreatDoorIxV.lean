/- IndexChecks' law. -/
import Derived.Test.YtecnjifincahaaaGreatDoorIxU
import Derived.Test.YtecnjifincahaaaGreatDoorIxS
namespace Go.Proofs.YtecnjifincahaaaGreatDoor
open Go.Shelf Go.RowKit Go.Lib

theorem checks_any (L : BL) (N X N1 X1 : ByteArray) (n m p q : Nat) (u : Bool) (w : World) (sv : Value) (c1 c2 : Int) (PD : World → List Value → Prop)
    (hn : N.size = n)
    (hm : min n 100 = m)
    (hN1 : N.extract 0 m = N1)
    (hL : BA L = N1)
    (hp : X.size = p)
    (hq : min p 100 = q)
    (hX1 : X.extract 0 q = X1)
    (hI : IxW w)
    (hpar : ∀ W, Below w.heap.size w W → Calls Tryz.prog 10 #[.string X1] W fun e w' => ∃ sl ve, e = .returned (.tuple #[sl, ve]) ∧ EC w' ve c2 ∧ Below W.heap.size W w')
    (hchk : ∀ W, Below w.heap.size w W → Calls Tryz.prog 11 #[.agg #[.string N1, .string X1, .bool u]] W fun e w' => ∃ ve, e = .returned ve ∧ EC w' ve c1 ∧ Below W.heap.size W w')
    (hdoc : ∀ W, Below w.heap.size w W → Calls Tryz.prog 14 #[sv] W fun e w' => ∃ c, e = .returned (.agg c.toArray) ∧ PD w' c ∧ Below W.heap.size W w')
    (hsh : ∀ W c, PD W c → ∃ q0 q1 q2 q3 q4 q5 q6 q7 q8, c = [.int .i64 q0, .int .i64 q1, .string q2, .slice q3 q4 q5, .slice q6 q7 q8])
    (hkey : ∀ W c, Below w.heap.size w W → PD W c → Calls Tryz.prog 13 #[.agg #[.string N1, .string X1, .bool u], .agg c.toArray] W fun e w' => ∃ k has, e = .returned (.tuple #[.string k, .bool has]) ∧ (¬ c2 = 0 → has = false) ∧ Below W.heap.size W w')
    (hc1 : badName L → c1 = 5)
    (hc2 : ¬ badName L → c1 = c2) :
    Calls Tryz.prog 3 #[.agg #[.string N, .string X, .bool u], sv] w fun e w' => e = .returned (.bool true) ∧ Below w.heap.size w w' := by
  by_cases h0 : L = []
  · exact checks_empty L N X N1 X1 n m p q u w sv c1 c2 PD hn hm hN1 hL hp hq hX1 hI hpar hchk hdoc hsh hkey hc1 hc2 h0
  · have h1 : 1 ≤ L.length := by
      cases L with
      | nil => exact absurd rfl h0
      | cons => simp
    by_cases h2 : 16 < L.length
    · exact checks_long L N X N1 X1 n m p q u w sv c1 c2 PD hn hm hN1 hL hp hq hX1 hI hpar hchk hdoc hsh hkey hc1 hc2 h2
    · exact checks_short L N X N1 X1 n m p q u w sv c1 c2 PD hn hm hN1 hL hp hq hX1 hI hpar hchk hdoc hsh hkey hc1 hc2 ⟨h1, by omega⟩

theorem keyL_doc (l : BL) : (keyL (docL l)).length ≤ 5000 := keyL_made 3 _
theorem small_doc (l : BL) : smallV (docL l) := small_made 3 _
theorem ba_back (N : ByteArray) : BA N.data.toList = N := by simp [BA]
theorem checks_law (N X : ByteArray) (u : Bool) (nb : Nat) (w : World) (sv : Value) (l : BL) (hnb : nb ≤ w.heap.size) (h : BRead nb w sv l) (hI : IxW w) :
    Calls Tryz.prog 3 #[.agg #[.string N, .string X, .bool u], sv] w fun e w' => e = .returned (.bool true) ∧ Below w.heap.size w w' := by
  obtain ⟨N1, hN1⟩ : ∃ s, N.extract 0 (min N.size 100) = s := ⟨_, rfl⟩
  obtain ⟨X1, hX1⟩ : ∃ s, X.extract 0 (min X.size 100) = s := ⟨_, rfl⟩
  obtain ⟨L, hL⟩ : ∃ L, BA L = N1 := ⟨_, ba_back N1⟩
  obtain ⟨lx, hlx⟩ : ∃ L, BA L = X1 := ⟨_, ba_back X1⟩
  have hLl : L.length ≤ 1000000 := by
    have h1 : L.length = N1.size := by rw [← hL, ba_size]
    rw [← hN1, ByteArray.size_extract] at h1
    omega
  have hxl : lx.length ≤ 1000 := by
    have h1 : lx.length = X1.size := by rw [← hlx, ba_size]
    rw [← hX1, ByteArray.size_extract] at h1
    omega
  obtain ⟨ps, hcut⟩ := cut_some lx hxl
  have hdoc : ∀ W, Below w.heap.size w W → Calls Tryz.prog 14 #[sv] W fun e w' => ∃ c, e = .returned (.agg c.toArray) ∧ VAt (fun b => b < w'.heap.size) w' (docL l) c ∧ Below W.heap.size W w' := fun W hW => by
    refine (doc_any nb W sv l (Nat.le_trans hnb hW.size) (h.later (hW.mono hnb)) (hI.words.later hW)).mono ?_
    rintro e w' ⟨c, rfl, hv, hb⟩
    exact ⟨c, rfl, VAt.keep (fun b hb => hb.2) (fun _ _ _ _ h => h) hv, hb⟩
  by_cases hp : noPath lx ps
  · have hpar : ∀ W, Below w.heap.size w W → Calls Tryz.prog 10 #[.string X1] W fun e w' => ∃ v, e = .returned (.tuple #[.slice none 0 0, v]) ∧ Chain w' 1 v 6 ∧ Below W.heap.size W w' := fun W hW => by
      rw [← hlx]; exact parse_no lx ps hcut hp W (hI.tabs.below hW) (hI.ml.later hW)
    by_cases hb : badName L
    · refine checks_any L N X N1 X1 _ _ _ _ u w sv 5 6 (fun W c => VAt (fun b => b < W.heap.size) W (docL l) c) rfl rfl hN1 hL rfl rfl hX1 hI (fun W hW => (hpar W hW).mono ?_) (fun W hW => ?_) hdoc (fun W c hc => VAt.shape hc) (fun W c hW hc => ?_) (fun _ => rfl) (fun h => absurd hb h)
      · rintro e w' ⟨v, rfl, hv, hbl⟩
        exact ⟨_, _, rfl, .inr ⟨⟨1, hv⟩, by decide⟩, hbl⟩
      · rw [← hL]
        refine (check_name L X1 u W hLl hb).mono ?_
        rintro e w' ⟨v, rfl, hv, hbl⟩
        exact ⟨_, rfl, .inr ⟨⟨1, hv⟩, by decide⟩, hbl⟩
      · rw [← hlx]
        refine (ikey_no N1 u lx ps hcut hp c (docL l) _ W hc (hI.tabs.below hW) (hI.ml.later hW)).mono ?_
        rintro e w' ⟨rfl, hbl⟩
        exact ⟨_, _, rfl, fun _ => rfl, hbl⟩
    · refine checks_any L N X N1 X1 _ _ _ _ u w sv 6 6 (fun W c => VAt (fun b => b < W.heap.size) W (docL l) c) rfl rfl hN1 hL rfl rfl hX1 hI (fun W hW => (hpar W hW).mono ?_) (fun W hW => ?_) hdoc (fun W c hc => VAt.shape hc) (fun W c hW hc => ?_) (fun h => absurd h hb) (fun _ => rfl)
      · rintro e w' ⟨v, rfl, hv, hbl⟩
        exact ⟨_, _, rfl, .inr ⟨⟨1, hv⟩, by decide⟩, hbl⟩
      · rw [← hL]
        refine (check_path L X1 u W hLl hb (fun W2 h2 => hpar W2 (hW.trans (h2.mono hW.size)))).mono ?_
        rintro e w' ⟨v, rfl, hv, hbl⟩
        exact ⟨_, rfl, .inr ⟨⟨2, hv⟩, by decide⟩, hbl⟩
      · rw [← hlx]
        refine (ikey_no N1 u lx ps hcut hp c (docL l) _ W hc (hI.tabs.below hW) (hI.ml.later hW)).mono ?_
        rintro e w' ⟨rfl, hbl⟩
        exact ⟨_, _, rfl, fun _ => rfl, hbl⟩
  · have hip := hcut.path hp
    have hpar : ∀ W, Below w.heap.size w W → Calls Tryz.prog 10 #[.string X1] W fun e w' => ∃ sl, e = .returned (.tuple #[sl, .nilIface]) ∧ Below W.heap.size W w' := fun W hW => by
      rw [← hlx]
      refine (parse_any lx ps hip W (hI.tabs.below hW) (hI.ml.later hW)).mono ?_
      rintro e w' ⟨sl, rfl, _, hbl⟩
      exact ⟨sl, rfl, hbl⟩
    have hkey : ∀ W c, Below w.heap.size w W → VAt (fun b => b < W.heap.size) W (docL l) c → Calls Tryz.prog 13 #[.agg #[.string N1, .string X1, .bool u], .agg c.toArray] W fun e w' => ∃ k has, e = .returned (.tuple #[.string k, .bool has]) ∧ (¬ (0 : Int) = 0 → has = false) ∧ Below W.heap.size W w' := fun W c hW hc => by
      rw [← hlx]
      refine (ikey_any N1 u lx ps hip (docL l) (small_doc l) _ W c hc (fun b hb => hb) (hI.errv.later hW) (hI.tabs.below hW) (hI.ml.later hW) (fun x hx => by have := find_key hx; have := keyL_doc l; omega)).mono ?_
      rintro e w' ⟨rfl, hbl⟩
      cases findP placeK (docL l) ps with
      | none => exact ⟨_, _, rfl, fun h => absurd rfl h, hbl⟩
      | some x => exact ⟨_, _, rfl, fun h => absurd rfl h, hbl⟩
    by_cases hb : badName L
    · refine checks_any L N X N1 X1 _ _ _ _ u w sv 5 0 (fun W c => VAt (fun b => b < W.heap.size) W (docL l) c) rfl rfl hN1 hL rfl rfl hX1 hI (fun W hW => (hpar W hW).mono ?_) (fun W hW => ?_) hdoc (fun W c hc => VAt.shape hc) hkey (fun _ => rfl) (fun h => absurd hb h)
      · rintro e w' ⟨sl, rfl, hbl⟩
        exact ⟨_, _, rfl, .inl ⟨rfl, rfl⟩, hbl⟩
      · rw [← hL]
        refine (check_name L X1 u W hLl hb).mono ?_
        rintro e w' ⟨v, rfl, hv, hbl⟩
        exact ⟨_, rfl, .inr ⟨⟨1, hv⟩, by decide⟩, hbl⟩
    · refine checks_any L N X N1 X1 _ _ _ _ u w sv 0 0 (fun W c => VAt (fun b => b < W.heap.size) W (docL l) c) rfl rfl hN1 hL rfl rfl hX1 hI (fun W hW => (hpar W hW).mono ?_) (fun W hW => ?_) hdoc (fun W c hc => VAt.shape hc) hkey (fun h => absurd h hb) (fun _ => rfl)
      · rintro e w' ⟨sl, rfl, hbl⟩
        exact ⟨_, _, rfl, .inl ⟨rfl, rfl⟩, hbl⟩
      · rw [← hL]
        refine (check_nil L X1 u W hLl hb (fun W2 h2 => hpar W2 (hW.trans (h2.mono hW.size)))).mono ?_
        rintro e w' ⟨rfl, hbl⟩
        exact ⟨_, rfl, .inl ⟨rfl, rfl⟩, hbl⟩
end Go.Proofs.YtecnjifincahaaaGreatDoor
