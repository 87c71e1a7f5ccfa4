/- slices.DeleteFunc, Delete, Clone over grants. -/
import Derived.Test.YteghcgiclpbkdaaDoorSlA
import Derived.Test.YteghcgiclpbkdaaDoorRow
namespace Go.Proofs.YteghcgiclpbkdaaDoor
open Go.RowKit

theorem own_below {w w1 : World} {base : Nat} {e : TypeId} {size n : Nat} {v : Value} {xs : List Value} (h : w.ownsRow base e size v n xs) (hb : Below w.heap.size w w1) : w1.ownsRow base e size v n xs :=
  h.kept (row := none) ⟨hb.os, hb.tape, hb.output, hb.size, fun k hk _ => hb.block k hk⟩ (by cases v.ownBlock <;> simp)
theorem zeroGrant (w : World) : (zeroValue 34).run Tryd.prog w = .ok (.agg #[.int .i64 0, .int .i64 0]) w := by kernel_rfl

/-- DeleteFunc's loop, at j with i kept: the first i grants are those of l's first j that stay, those from j on are l's. -/
structure DelAt (l m : List (Int × Int)) (p : Int × Int → Bool) (i j : Nat) : Prop where
  len : m.length = l.length
  ij : i < j
  jl : j ≤ l.length
  fore : m.take i = (l.take j).filter (fun g => !p g)
  aft : ∀ k (h : k < l.length) (h2 : k < m.length), j ≤ k → m[k] = l[k]

theorem filter_take_out {l : List (Int × Int)} {p : Int × Int → Bool} {j : Nat} (hj : j < l.length) (hp : p l[j] = true) : (l.take (j + 1)).filter (fun g => !p g) = (l.take j).filter (fun g => !p g) := by
  rw [List.take_succ_eq_append_getElem hj, List.filter_append]; simp [hp]
theorem filter_take_in {l : List (Int × Int)} {p : Int × Int → Bool} {j : Nat} (hj : j < l.length) (hp : p l[j] = false) : (l.take (j + 1)).filter (fun g => !p g) = (l.take j).filter (fun g => !p g) ++ [l[j]] := by
  rw [List.take_succ_eq_append_getElem hj, List.filter_append]; simp [hp]
theorem DelAt.drop {l m : List (Int × Int)} {p : Int × Int → Bool} {i j : Nat} (h : DelAt l m p i j) (hj : j < l.length) (hp : p l[j] = true) : DelAt l m p i (j + 1) :=
  ⟨h.len, by have := h.ij; omega, hj, by rw [h.fore, filter_take_out hj hp], fun k h1 h2 h3 => h.aft k h1 h2 (by omega)⟩
theorem DelAt.keep {l m : List (Int × Int)} {p : Int × Int → Bool} {i j : Nat} (h : DelAt l m p i j) (hj : j < l.length) (hp : p l[j] = false) : DelAt l (m.set i l[j]) p (i + 1) (j + 1) :=
  ⟨by simp [h.len], by have := h.ij; omega, hj, by
    have him : i < m.length := by have := h.ij; have := h.len; omega
    rw [filter_take_in hj hp, List.take_succ_eq_append_getElem (by simpa using him), List.take_set_of_le (Nat.le_refl _), h.fore]
    simp, fun k h1 h2 h3 => by
    have := h.ij
    simp only [List.length_set] at h2
    rw [List.getElem_set_ne (by omega)]; exact h.aft k h1 h2 (by omega)⟩
theorem idxI_cases (l : List (Int × Int)) (p : Int × Int → Bool) (h : IdxI l p ≠ -1) : ∃ i0, ∃ h : i0 < l.length, p l[i0] = true ∧ (∀ j (h : j < l.length), j < i0 → p l[j] = false) ∧ IdxI l p = i0 := by
  unfold IdxI at h ⊢
  cases hf : l.findIdx? p with
  | none => simp [hf] at h
  | some i =>
    have hf2 := hf
    rw [List.findIdx?_eq_some_iff_getElem] at hf
    obtain ⟨hi, hp, hno⟩ := hf
    exact ⟨i, hi, hp, fun j hj hji => by simpa using hno j hji, rfl⟩
theorem idxI_neg (l : List (Int × Int)) (p : Int × Int → Bool) (h : IdxI l p = -1) : l.filter (fun g => !p g) = l := by
  unfold IdxI at h
  cases hf : l.findIdx? p with
  | none =>
    rw [List.findIdx?_eq_none_iff] at hf
    rw [List.filter_eq_self]
    intro a ha
    simpa using hf a ha
  | some i => rw [hf] at h; simp at h
theorem delAt_start {l : List (Int × Int)} {p : Int × Int → Bool} {i : Nat} (hi : i < l.length) (hp : p l[i] = true) (hno : ∀ j (h : j < l.length), j < i → p l[j] = false) : DelAt l l p i (i + 1) :=
  ⟨rfl, by omega, hi, by
    rw [filter_take_out hi hp]
    symm
    rw [List.filter_eq_self]
    intro a ha
    obtain ⟨j, hj, rfl⟩ := List.getElem_of_mem ha
    simp only [List.length_take] at hj
    rw [List.getElem_take]
    simpa using hno j (by omega) (by omega), fun k h1 h2 h3 => rfl⟩

set_option maxHeartbeats 1000000 in
theorem deleteFunc_any (v f : Value) (l : List (Int × Int)) (p : Int × Int → Bool) (w : World) (hv : w.ownsRow 0 34 2 v l.length (gcells l)) (hf : Asks (fun b => v.ownBlock = some b) w f p) :
    Calls Tryd.prog 53 #[v, f] w fun e w' => ∃ v', e = .returned v' ∧ w'.ownsRow 0 34 2 v' (l.filter (fun g => !p g)).length (gcells (l.filter (fun g => !p g))) ∧ v'.ownBlock = v.ownBlock ∧ Only (fun b => v.ownBlock = some b) w w' := by
  by_cases hidx : IdxI l p = -1
  · have hall : l.filter (fun g => !p g) = l := idxI_neg l p hidx
    rw [hall]
    have H := Lib.hid hidx
    clear hidx hall
    go_enter Tryd.func53, Tryd.ntmps53
    go_wp2_with fail
    refine (indexFunc_any v f l p _ (gread_of_ownsRow hv) _ hf).mono ?_
    rintro e w2 ⟨rfl, hb⟩
    rw [H.out]
    go_wp2
    go_ret
    exact ⟨v, rfl, own_below hv hb, rfl, Only.ofBelow hb _⟩
  · obtain ⟨i0, hi0, hp0, hno0, hI⟩ : ∃ i0, ∃ h : i0 < l.length, p l[i0] = true ∧ (∀ j (h : j < l.length), j < i0 → p l[j] = false) ∧ IdxI l p = i0 := idxI_cases l p hidx
    obtain ⟨g, cap, rfl⟩ : ∃ g cap, v = .slice (some ⟨g, 0, none⟩) l.length cap := by
      rcases ownsRow_cases hv with ⟨_, h0, _⟩ | h
      · omega
      · exact h
    have H := Lib.hid hI
    clear hI hidx
    obtain ⟨rest, hblk, _, hcl, hcap, hmax⟩ := blk_of_ownsRow hv
    have hmax' : cap ≤ 9223372036854775807 := by unfold maxLen at hmax; omega
    have HF := Lib.hid hf
    clear hf
    go_enter Tryd.func53, Tryd.ntmps53
    go_wp2_with fail
    refine (indexFunc_any _ f l p _ (gread_of_ownsRow hv) _ HF.out).mono ?_
    rintro e w2 ⟨rfl, hb⟩
    rw [H.out]
    have hne : ((i0 : Int) == -1) = false := by simp
    go_wp2
    go_loopw [5, 6] (fun i j wr => ∃ (m : List (Int × Int)) (i1 j1 : Nat), i = .int .i64 i1 ∧ j = .int .i64 j1 ∧ DelAt l m p i1 j1 ∧ Blk wr g 34 (gcells m ++ rest) ∧ Only (fun b => b = g) w wr) (fun _ j _ => l.length - (intOf j).toNat)
    case atStart => exact ⟨l, i0, i0 + 1, rfl, by go_num, delAt_start hi0 hp0 hno0, hblk.below hb, Only.ofBelow hb _⟩
    case round =>
      obtain ⟨m, i, j, rfl, rfl, hd, hB, ho⟩ := hrel
      obtain ⟨hml, hij, hjl, hfore, haft⟩ := hd
      have HD := Lib.hid (And.intro hml hfore)
      have HA := Lib.hid haft
      clear hml hfore haft
      by_cases hlt : j < l.length
      · have hmj : j < m.length := by rw [HD.out.1]; exact hlt
        have e0 := (gcells_at m j hmj)
        have c0 : wr.cell? ⟨g, j * 2, none⟩ = some (.int .i64 l[j].1) := by
          rw [hB.cell, List.getElem?_append_left (by simp; omega), e0.1, HA.out j hlt hmj (Nat.le_refl _)]
        have c1 : wr.cell? ⟨g, j * 2 + 1, none⟩ = some (.int .i64 l[j].2) := by
          rw [hB.cell, List.getElem?_append_left (by simp; omega), e0.2, HA.out j hlt hmj (Nat.le_refl _)]
        clear e0
        obtain ⟨kf, caps, rfl, henter, hcall⟩ := HF.out
        have HC := Lib.hid (hcall l[j] (wr.alloc (.cells #[.int .i64 l[j].1, .int .i64 l[j].2] 34)) ((ho.trans (Only.alloc _ _ _)).mono (fun b _ h => by simp [Value.ownBlock, h])))
        clear hcall
        have hBa := Lib.hid (hB.alloc (.cells #[.int .i64 l[j].1, .int .i64 l[j].2] 34))
        clear hB
        go_wp2_with fail
        refine HC.out.mono ?_
        rintro e w3 ⟨rfl, hb3⟩
        have hB3 : Blk w3 g 34 (gcells m ++ rest) := hBa.out.below hb3
        have n0 : w3.cell? ⟨wr.heap.size, 0, none⟩ = some (.int .i64 l[j].1) := bcell hb3 (by simp)
        have n1 : w3.cell? ⟨wr.heap.size, 1, none⟩ = some (.int .i64 l[j].2) := bcell hb3 (by simp)
        have ho3 : Only (fun b => b = g) w w3 := ho.trans ((Only.alloc _ _ _).trans (Only.ofBelow hb3 _))
        have HO := Lib.hid ho3
        have HB3 := Lib.hid hb3
        clear ho3 ho hBa HC c0 c1 hb3 hv hblk hb
        have him : i < m.length := by omega
        cases hp : p l[j] with
        | true =>
          have HP := Lib.hid hp
          clear hp
          go_wp2
          go_roundw
          case rel => exact ⟨m, i, j + 1, rfl, by go_num, DelAt.drop ⟨HD.out.1, hij, hjl, HD.out.2, HA.out⟩ hlt HP.out, hB3, HO.out⟩
          case measure => simp [intOf]; omega
        | false =>
          have HP := Lib.hid hp
          clear hp
          have e0 := (gcells_at m i him)
          have c0 : w3.cell? ⟨g, i * 2, none⟩ = some (.int .i64 m[i].1) := by
            rw [hB3.cell, List.getElem?_append_left (by simp; omega), e0.1]
          have c1 : w3.cell? ⟨g, i * 2 + 1, none⟩ = some (.int .i64 m[i].2) := by
            rw [hB3.cell, List.getElem?_append_left (by simp; omega), e0.2]
          have f0 := hB3.frozen (i * 2)
          have f1 := hB3.frozen (i * 2 + 1)
          have HBB := Lib.hid hB3
          clear e0 hB3
          go_wp2
          go_roundw
          case rel =>
            refine ⟨m.set i l[j], i + 1, j + 1, by go_num, by go_num, DelAt.keep ⟨HD.out.1, hij, hjl, HD.out.2, HA.out⟩ hlt HP.out, ?_, ?_⟩
            · have := (HBB.out.set (i * 2) (.int .i64 l[j].1)).set (i * 2 + 1) (.int .i64 l[j].2)
              rw [List.set_append_left _ _ (by simp; omega), List.set_append_left _ _ (by simp; omega), gcells_set m i l[j] him] at this
              exact this
            · exact (HO.out.trans (Only.setCell (S := fun b => b = g) (p := ⟨g, i * 2, none⟩) w3 rfl _)).trans (Only.setCell (S := fun b => b = g) (p := ⟨g, i * 2 + 1, none⟩) _ rfl _)
          case measure => simp [intOf]; omega
      · have hje : j = l.length := by omega
        subst hje
        have hm1 := HD.out.1
        obtain ⟨w4, ys, hrun, hB4, hl4, ho4⟩ := run_clear_row (P := Tryd.prog) (t := 31) (e := 34) (ty := 0) (z := .agg #[.int .i64 0, .int .i64 0]) Tryd.underlying31 zeroGrant (by simp [Value.cells]; decide) (by decide) (n := l.length - i) (c := cap - i) hB (o := i * 2) (by simp [Value.cells]; omega)
        clear hv hblk hb hB
        go_wp2
        go_ret
        have hfil : l.filter (fun g => !p g) = m.take i := by rw [HD.out.2, List.take_length]
        have hgl : (gcells (m.take i)).length = i * 2 := by simp; omega
        have hil : (m.take i).length = i := by simp; omega
        refine ⟨_, rfl, ?_, rfl, ((ho.trans ho4).mono (fun b _ h => by simp [Value.ownBlock, h]))⟩
        rw [hfil, hil]
        have hpre : (gcells m ++ rest).take (i * 2) = gcells (m.take i) := by
          rw [List.take_append_of_le_length (by simp; omega), gcells_take]
        rw [hpre] at hB4 hl4
        exact ownsRow_of_blk hB4 hgl (by rw [hl4, ← hcl]; simp [hm1]) (by omega) hmax
end Go.Proofs.YteghcgiclpbkdaaDoor
