/- index.Check. -/
import Derived.Test.YtecnjifincahaaaGreatDoorIxM
namespace Go.Proofs.YtecnjifincahaaaGreatDoor
open Go.Shelf Go.RowKit Go.Lib

theorem wrap_nil (s : ByteArray) (w : World) : Calls Tryz.prog 38 #[.nilIface, .string s] w fun e w' => e = .returned .nilIface ∧ w' = w := by
  go_enter Tryz.func38, Tryz.ntmps38
  go_wp2
  go_ret
  exact ⟨rfl, rfl⟩
set_option maxHeartbeats 400000 in
theorem wrap_some (t : TypeId) (u : Value) (s : ByteArray) (w : World) : Calls Tryz.prog 38 #[.iface t u, .string s] w fun e w' => e = .returned (.iface 107 (.pointer (some ⟨w.heap.size, 0, none⟩))) ∧ w' = w.alloc (.cells #[.string s, .iface t u] 109) := by
  go_enter Tryz.func38, Tryz.ntmps38
  go_wp2
  go_ret
  exact ⟨rfl, rfl⟩
/-- may a name have the sign x? -/
def signB (x : Nat) : Bool := decide (97 ≤ x ∧ x ≤ 122 ∨ 48 ≤ x ∧ x ≤ 57 ∨ x = 95)
set_option maxHeartbeats 1000000 in
theorem sign_any (x : Nat) (w : World) : Calls Tryz.prog 37 #[.int .i32 (x : Int)] w fun e w' => e = .returned (.bool (signB x)) ∧ w' = w := by
  by_cases h1 : (97 : Int) ≤ (x : Int) <;> by_cases h2 : (x : Int) ≤ 122 <;> by_cases h3 : (48 : Int) ≤ (x : Int) <;> by_cases h4 : (x : Int) ≤ 57 <;> by_cases h5 : (x : Int) = 95 <;> first
    | (exfalso; omega)
    | (have hs : signB x = true := by unfold signB; apply decide_eq_true; omega
       rw [hs]
       clear hs
       have h6 : ((x : Int) == 95) = decide ((x : Int) = 95) := by rw [Bool.eq_iff_iff]; simp
       go_enter Tryz.func37, Tryz.ntmps37
       go_wp2
       go_ret
       first
         | exact ⟨rfl, rfl⟩
         | (refine ⟨?_, rfl⟩; show Ending.returned (.bool ((x : Int) == 95)) = _; rw [h6, decide_eq_true h5]))
    | (have hs : signB x = false := by unfold signB; apply decide_eq_false; omega
       rw [hs]
       clear hs
       have h6 : ((x : Int) == 95) = decide ((x : Int) = 95) := by rw [Bool.eq_iff_iff]; simp
       go_enter Tryz.func37, Tryz.ntmps37
       go_wp2
       go_ret
       first
         | exact ⟨rfl, rfl⟩
         | (refine ⟨?_, rfl⟩; show Ending.returned (.bool ((x : Int) == 95)) = _; rw [h6, decide_eq_false h5]))
theorem nsign_any (x : Nat) (w : World) : Calls Tryz.prog 36 #[.int .i32 (x : Int)] w fun e w' => e = .returned (.bool (!signB x)) ∧ w' = w := by
  have HC := Lib.hid (sign_any x)
  obtain ⟨b, hb⟩ : ∃ b, signB x = b := ⟨_, rfl⟩
  rw [hb] at HC ⊢
  clear hb
  go_enter Tryz.func36, Tryz.ntmps36
  go_wp2_with fail
  refine (HC.out _).mono ?_
  rintro e w2 ⟨rfl, rfl⟩
  go_wp2
  go_ret
  exact ⟨rfl, rfl⟩
/-- has a name a byte that it may not have? -/
def oddB (l : BL) : Bool := l.any fun b => !signB b.toNat
theorem idx_odd (s : ByteArray) : ∀ (f pos : Nat), s.size ≤ pos + f → (0 ≤ Lib.idxFuncFrom (fun x => !signB x) true s f pos ↔ ∃ b ∈ s.data.toList.drop pos, signB b.toNat = false)
  | 0, pos, h => by
    rw [Lib.idxFuncFrom]
    refine ⟨fun h => absurd h (by decide), ?_⟩
    rintro ⟨b, hb, _⟩
    rw [List.drop_eq_nil_of_le (by have : s.data.toList.length = s.size := by first | rfl | simp
                                   omega)] at hb
    cases hb
  | f + 1, pos, h => by
    have hl : s.data.toList.length = s.size := by first | rfl | simp
    rw [Lib.idxFuncFrom]
    by_cases hp : pos < s.size
    · rw [if_pos hp, List.drop_eq_getElem_cons (by omega)]
      have hg : s.data.toList[pos]'(by omega) = s[pos]'hp := by first | rfl | simp
      by_cases ha : (s[pos]'hp).toNat < 128
      · rw [decode_ascii s pos hp ha]
        by_cases hs : signB (s[pos]'hp).toNat = true
        · rw [if_neg (by simp [hs]), idx_odd s f (pos + 1) (by omega)]
          constructor
          · rintro ⟨b, hb, e⟩; exact ⟨b, List.mem_cons_of_mem _ hb, e⟩
          · rintro ⟨b, hb, e⟩
            rcases List.mem_cons.1 hb with rfl | hb
            · rw [hg, hs] at e; cases e
            · exact ⟨b, hb, e⟩
        · rw [if_pos (by simpa using hs)]
          refine ⟨fun _ => ⟨_, List.mem_cons_self .., by rw [hg]; simpa using hs⟩, fun _ => by omega⟩
      · have hd := decode_high s pos hp (by omega)
        have n1 : signB (Utf8.decode s pos).1 = false := by unfold signB; apply decide_eq_false; omega
        have n2 : signB (s[pos]'hp).toNat = false := by unfold signB; apply decide_eq_false; omega
        rw [if_pos (by rw [n1]; rfl)]
        exact ⟨fun _ => ⟨_, List.mem_cons_self .., by rw [hg]; exact n2⟩, fun _ => by omega⟩
    · rw [if_neg hp]
      refine ⟨fun h => absurd h (by decide), ?_⟩
      rintro ⟨b, hb, _⟩
      rw [List.drop_eq_nil_of_le (by omega)] at hb
      cases hb
theorem idx_oddB (l : BL) : decide (0 ≤ Lib.idxFunc (fun x => !signB x) true (BA l)) = oddB l := by
  have h := idx_odd (BA l) (BA l).size 0 (by omega)
  rw [Bool.eq_iff_iff, decide_eq_true_iff]
  unfold Lib.idxFunc oddB
  rw [h, List.any_eq_true]
  simp
set_option maxRecDepth 100000 in
theorem contains_any (l : BL) (w : World) : Calls Tryz.prog 35 #[.string (BA l), .func (.func 36) #[] #[]] w fun e w' => e = .returned (.bool (oddB l)) ∧ Below w.heap.size w w' := by
  have h := Tryz.strings_ContainsFunc 36 #[] (fun args w => rfl) (fun x => !signB x) (BA l) w (fun W x _ => (nsign_any x W).mono fun e w' h => ⟨h.1, 0, h.2⟩)
  rw [idx_oddB] at h
  exact h
/-- is a name wrong? -/
def badName (l : BL) : Prop := oddB l = true ∨ l = [] ∨ 16 < l.length
set_option maxHeartbeats 4000000 in
set_option maxRecDepth 100000 in
theorem check_name (l : BL) (X : ByteArray) (u : Bool) (w : World) (hl : l.length ≤ 1000000) (hbad : badName l) :
    Calls Tryz.prog 11 #[.agg #[.string (BA l), .string X, .bool u]] w fun e w' => ∃ v, e = .returned v ∧ Chain w' 1 v 5 ∧ Below w.heap.size w w' := by
  obtain ⟨W0, hW0⟩ : ∃ W, w.alloc (.cells #[.string (BA l), .string X, .bool u] 23) = W := ⟨_, rfl⟩
  have hb0 : Below w.heap.size w W0 := by rw [← hW0]; exact (Below.refl _ w).alloc (Nat.le_refl _) _
  have hk0 : Blk W0 w.heap.size 23 [.string (BA l), .string X, .bool u] := by rw [← hW0]; exact heap_alloc_new w _
  have hcall := contains_any l W0
  have hsz : (BA l).size = l.length := ba_size l
  have h5 : ((5 : Int) == 0) = false := rfl
  have hN : ∀ W : World, Calls Tryz.prog 34 #[.int .i64 5, .string ⟨#[105, 110, 100, 101, 120]⟩] W fun e w' => e = .returned (.iface 107 (.pointer (some ⟨W.heap.size, 0, none⟩))) ∧ w' = W.alloc (.cells #[.string ⟨#[105, 110, 100, 101, 120]⟩, .iface 32 (.int .i64 5)] 109) := fun W => faultNew_some 5 _ W h5
  have hfin : ∀ W : World, Below w.heap.size w W → Chain (W.alloc (.cells #[.string ⟨#[105, 110, 100, 101, 120]⟩, .iface 32 (.int .i64 5)] 109)) 1 (.iface 107 (.pointer (some ⟨W.heap.size, 0, none⟩))) 5 := fun W _ => ⟨W.heap.size, _, _, rfl, heap_alloc_new W _, rfl⟩
  obtain ⟨od, hod⟩ : ∃ b, oddB l = b := ⟨_, rfl⟩
  obtain ⟨NM, hNM⟩ : ∃ N, BA l = N := ⟨_, rfl⟩
  obtain ⟨P0, hP0⟩ : ∃ P, w.heap.size = P := ⟨_, rfl⟩
  rw [hP0] at hk0
  rw [hod] at hcall
  rw [hNM] at hcall hsz hk0 hW0 ⊢
  have hz0 : NM.size = 0 → NM = ⟨#[]⟩ := fun h => by
    have : l = [] := List.length_eq_zero_iff.1 (by omega)
    rw [← hNM, this]
  have hnil : l = [] → NM.size = 0 := fun h => by rw [hsz, h]; rfl
  have HB : (od = true) ∨ NM.size = 0 ∨ 16 < NM.size := by
    rcases hbad with h | h | h
    · exact .inl (hod.symm.trans h)
    · exact .inr (.inl (hnil h))
    · exact .inr (.inr (by omega))
  have hlen : NM.size ≤ 1000000 := by omega
  have H0 := Lib.hid (And.intro hW0 (And.intro hP0 (And.intro hcall (And.intro hb0 (And.intro hk0 (And.intro hN (And.intro hfin hz0)))))))
  clear hW0 hb0 hk0 hcall hN hfin hod hNM hP0 h5 hnil hbad hsz hl hz0
  go_enter Tryz.func11, Tryz.ntmps11
  go_wp2_with fail
  rw [H0.out.1, H0.out.2.1]
  have c0 := H0.out.2.2.2.2.1.cell 0
  go_wp2_with fail
  refine (show Calls _ _ _ _ _ from H0.out.2.2.1).mono ?_
  rintro e w2 ⟨rfl, hb2⟩
  have H2 := Lib.hid (And.intro (H0.out.2.2.2.1.trans (hb2.mono H0.out.2.2.2.1.size)) (H0.out.2.2.2.2.1.below hb2))
  clear hb2 c0
  have c0 := H2.out.2.cell 0
  cases od with
  | true =>
    go_wp2_with fail
    refine (show Calls _ _ _ _ _ from H0.out.2.2.2.2.2.1 _).mono ?_
    rintro e w3 ⟨rfl, rfl⟩
    clear c0
    go_wp2
    go_ret
    exact ⟨_, rfl, H0.out.2.2.2.2.2.2.1 w2 H2.out.1, H2.out.1.alloc H2.out.1.size _⟩
  | false =>
    by_cases hz : NM.size = 0
    · obtain rfl := H0.out.2.2.2.2.2.2.2 hz
      go_wp2_with fail
      refine (show Calls _ _ _ _ _ from H0.out.2.2.2.2.2.1 _).mono ?_
      rintro e w3 ⟨rfl, rfl⟩
      clear c0
      go_wp2
      go_ret
      exact ⟨_, rfl, H0.out.2.2.2.2.2.2.1 w2 H2.out.1, H2.out.1.alloc H2.out.1.size _⟩
    · have hne : NM.toList.isEmpty = false := by
        rw [Lib.toList_data]
        have h3 : NM.size = NM.data.toList.length := by rw [Array.length_toList]; rfl
        cases h : NM.data.toList with
        | nil => rw [h, List.length_nil] at h3; exact absurd h3 hz
        | cons _ _ => rfl
      have hlen2 : (16 : Int) < (NM.size : Int) := by rcases HB with h | h | h <;> first | (cases h) | (exact absurd h hz) | omega
      clear HB hz
      go_wp2_with fail
      refine (show Calls _ _ _ _ _ from H0.out.2.2.2.2.2.1 _).mono ?_
      rintro e w3 ⟨rfl, rfl⟩
      clear c0
      go_wp2
      go_ret
      exact ⟨_, rfl, H0.out.2.2.2.2.2.2.1 w2 H2.out.1, H2.out.1.alloc H2.out.1.size _⟩
end Go.Proofs.YtecnjifincahaaaGreatDoor
