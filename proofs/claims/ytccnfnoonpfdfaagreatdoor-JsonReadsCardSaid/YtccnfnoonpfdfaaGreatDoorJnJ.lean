/- slices.Insert at fields, where the row is one's own (printed by wip/gen_jnj.py). -/
import Derived.Test.YtccnfnoonpfdfaaGreatDoorJnI
import Derived.Laws.CopyRow
import Derived.Lib.Overlaps
import Derived.Lib.AppendZerosOnto
namespace Go.Proofs.YtccnfnoonpfdfaaGreatDoor
open Go.Shelf Go.RowKit Go.Lib

theorem only_setRow (w : World) (g : Nat) (xs : Array Value) : Only (fun b => b = g) w (w.setRow g xs) :=
  ⟨rfl, rfl, rfl, by simp [World.setRow], fun k hk hne => by simp only [World.setRow, Array.getElem?_modify]; rw [if_neg (fun e => hne e.symm)]⟩
/-- the built-in copy between rows of many-celled elements. -/
theorem run_copy_wide {P : Program} (w : World) (dT sT elem : TypeId) (size g o dLen dCap : Nat) (a : Addr) (sLen sCap m : Nat) (cur : List Value) (t : TypeId) (cs : List Value)
    (hu : P.underlying dT = some (.slice elem)) (hs : (P.info? elem).map (·.size) = some size) (hg : Blk w g t cur) (hm : Nat.min sLen dLen = m) (hn : cs.length = m * size)
    (hsrc : ∀ j v, cs[j]? = some v → w.cell? (a.add j) = some v) (hfit : o + cs.length ≤ cur.length) (h1 : ∀ v ∈ cs, v.oneCell' = true) :
    ∃ W, (∀ ty, (Builtin.copy_ #[dT, sT] ty #[.slice (some ⟨g, o, none⟩) dLen dCap, .slice (some a) sLen sCap]).run P w = .ok (goInt m) W) ∧ Blk W g t (cur.take o ++ cs ++ cur.drop (o + cs.length)) ∧ Only (fun b => b = g) w W := by
  have hl := run_firstCells_some (P := P) w size m a sLen sCap cs hn hsrc
  have hst := run_storeCells_at P g o t cs 0 cur.toArray w hg (by simpa using hfit) h1
  refine ⟨w.setRow g (cur.take o ++ cs ++ cur.drop (o + cs.length)).toArray, fun ty => ?_, setRow_heap w g _ _ _ _ hg, only_setRow w g _⟩
  cases hq : P.info? elem with
  | none => simp [hq] at hs
  | some i =>
    have hi : i.size = size := by simpa [hq] using hs
    simp only [Nat.add_zero] at hst
    simp [Builtin.copy_, run_underlying hu, Builtin.lenOf, sizeOf, typeInfo, hq, hi, hm, hl, hst]
theorem wpList_copy_run {P : Program} {ops : Array Oper} {rest : List Oper} {o : Oper} {a : Act} {w : World} {Q : Exit → Act → World → Prop}
    (hg : o.guard = none) (s x : Operand) (t : TypeId) (hop : o.op = Op.call { callee := Callee.builtin Builtin.copy, args := #[s, x], argTypes := #[t, t] })
    (v u : Value) (hs : a.eval s = v) (hx : a.eval x = u) (v2 : Value) (w2 : World) (hrun : ∀ ty, (Builtin.copy_ #[t, t] ty #[v, u]).run P w = .ok v2 w2)
    (hK : wpList P ops Q rest (a.put o.dst v2) w2) : wpList P ops Q (o :: rest) a w := by
  refine wpList_plain hg fun K hK' => ?_
  unfold Oper.wp
  simp [execOp, hop, resolve, invoke, builtin, hs, hx, hrun, Result.andThen]
  exact hK' _ _ hK
theorem wpList_append_run2 {P : Program} {ops : Array Oper} {rest : List Oper} {o : Oper} {a : Act} {w : World} {Q : Exit → Act → World → Prop}
    (hg : o.guard = none) (s x : Operand) (t t' : TypeId) (hop : o.op = Op.call { callee := Callee.builtin Builtin.append, args := #[s, x], argTypes := #[t, t'] })
    (v u : Value) (hs : a.eval s = v) (hx : a.eval x = u) (v2 : Value) (w2 : World) (hrun : ∀ ty, (Builtin.append_ #[t, t'] ty #[v, u]).run P w = .ok v2 w2)
    (hK : wpList P ops Q rest (a.put o.dst v2) w2) : wpList P ops Q (o :: rest) a w := by
  refine wpList_plain hg fun K hK' => ?_
  unfold Oper.wp
  simp [execOp, hop, resolve, invoke, builtin, hs, hx, hrun, Result.andThen]
  exact hK' _ _ hK
theorem step_copy_run {P : Program} {ops : Array Oper} {o : Oper} {a : Act} {w : World} {K : Act → World → Prop} {Q : Exit → Act → World → Prop} {E : Prop}
    (hg : o.guard = none) (s x : Operand) (t : TypeId) (hop : o.op = Op.call { callee := Callee.builtin Builtin.copy, args := #[s, x], argTypes := #[t, t] })
    (v u : Value) (hs : a.eval s = v) (hx : a.eval x = u) (v2 : Value) (w2 : World) (hrun : ∀ ty, (Builtin.copy_ #[t, t] ty #[v, u]).run P w = .ok v2 w2)
    (hK : K (a.put o.dst v2) w2) : if Region.wanted o (yielded ops a.tmps) = true then Oper.wp P o a w K Q else E := by
  have hw : Region.wanted o (yielded ops a.tmps) = true := by simp [Region.wanted, hg]
  rw [if_pos hw]
  unfold Oper.wp
  simp [execOp, hop, resolve, invoke, builtin, hs, hx, hrun, Result.andThen]
  exact hK
theorem mid_put (A M R x : List Value) (hM : M.length = x.length) : (A ++ (M ++ R)).take A.length ++ x ++ (A ++ (M ++ R)).drop (A.length + x.length) = A ++ x ++ R := by
  rw [List.take_left, ← List.drop_drop, List.drop_left, ← hM, List.drop_left]
theorem ownsRow_of_blkB {w : World} {B g : Nat} {e : TypeId} {size n cap : Nat} {xs rest : List Value} (hB : B ≤ g) (h : Blk w g e (xs ++ rest)) (hx : xs.length = n * size) (hl : (xs ++ rest).length = cap * size) (hn : n ≤ cap) (hc : cap ≤ maxLen) :
    w.ownsRow B e size (.slice (some ⟨g, 0, none⟩) n cap) n xs :=
  ⟨hx, .inr ⟨g, cap, _, rfl, hB, h, hn, hc, by simpa using hl, by rw [← hx]; simp⟩⟩
def putC (cs x : List Value) (k : Nat) : List Value := cs.take (k * 6) ++ x ++ cs.drop (k * 6)
/-- what Insert comes to. -/
def InsPost (B n k : Nat) (cs x : List Value) (row : Option Nat) (w : World) (e : Ending) (w' : World) : Prop := ∃ v', e = .returned v' ∧ w'.ownsRow B 51 6 v' (n + 1) (putC cs x k) ∧ Only (fun b => some b = row) w w'

set_option maxHeartbeats 8000000 in
set_option maxRecDepth 100000 in
/-- at the end. -/
theorem ins_end (B n bh : Nat) (p : Option Addr) (cap : Nat) (cs x : List Value) (w : World) (hv : w.ownsRow B 51 6 (.slice p n cap) n cs) (hx : Blk w bh 51 x) (hxl : x.length = 6) (h1 : ∀ u ∈ x, u.oneCell' = true) (hn : n ≤ 1000000) (hB : B ≤ w.heap.size) :
    Calls Tryz.prog 121 #[.slice p n cap, .int .i64 n, .slice (some ⟨bh, 0, none⟩) 1 1] w (InsPost B n n cs x (Value.slice p n cap).ownBlock w) := by
  obtain ⟨i0, hi, hii⟩ := Option.map_eq_some_iff.1 infoF
  simp only [Prod.mk.injEq] at hii
  obtain ⟨hz0, hz1, hz2⟩ := hii
  obtain ⟨v', w', hr, ho, hg, _, hat⟩ := (fun ty => run_append_own_at (P := Tryz.prog) w B 26 ty 51 i0 _ 6 96 Tryz.underlying26 hi hz0 hz1 hz2 rfl (by decide) (.slice p n cap) n cs hv ⟨bh, 0, none⟩ 1 1 x (by rw [hxl]) (fun j u hu => by
      rw [add_at, hx.cell j]; exact hu) h1 (by unfold maxLen; omega) (by omega) hB) 0
  have hput : putC cs x n = cs ++ x := by
    unfold putC
    rw [List.take_of_length_le (by rw [hv.1]; exact Nat.le_refl _), List.drop_eq_nil_of_le (by rw [hv.1]; exact Nat.le_refl _), List.append_nil]
  have hcases : (p = none ∧ n = 0 ∧ cap = 0) ∨ ∃ g, p = some ⟨g, 0, none⟩ ∧ n ≤ cap := by
    rcases ownsRow_cases hv with ⟨h, h0, _⟩ | ⟨g, c2, h⟩
    · injection h with h1 h2 h3; exact .inl ⟨h1, h2, h3⟩
    · injection h with h1 h2 h3
      subst h1 h3
      obtain ⟨_, _, _, _, hle, _⟩ := blk_of_ownsRow hv
      exact .inr ⟨g, rfl, hle⟩
  have HF := Lib.hid (show InsPost B n n cs x (Value.slice p n cap).ownBlock w (.returned v') w' from ⟨v', rfl, by rw [hput]; exact ho, Only.ofGrown hg (fun k e => e.symm)⟩)
  have HR := Lib.hid (show ∀ ty, (Builtin.append_ #[26, 26] ty #[.slice p n cap, .slice (some ⟨bh, 0, none⟩) 1 1]).run Tryz.prog w = .ok v' w' from fun ty => hr)
  clear hv hx ho hg hat hput hr
  rcases hcases with ⟨rfl, rfl, rfl⟩ | ⟨g, rfl, hle⟩
  · go_enter Tryz.func121, Tryz.ntmps121
    go_wp2_with (at_builtin; refine wpList_append_run rfl (.tmp 23) (.tmp 24) 26 rfl (.slice none 0 0) (.slice (some ⟨bh, 0, none⟩) 1 1) rfl rfl v' w' HR.out ?_)
    go_ret
    exact HF.out
  · have hlz : (n : Int) ≤ (cap : Int) := by omega
    have hn0 : (0 : Int) ≤ (n : Int) := by omega
    go_enter Tryz.func121, Tryz.ntmps121
    go_wp2_with (at_builtin; refine wpList_append_run rfl (.tmp 23) (.tmp 24) 26 rfl (.slice (some ⟨g, 0, none⟩) n cap) (.slice (some ⟨bh, 0, none⟩) 1 1) rfl rfl v' w' HR.out ?_)
    all_goals go_ret
    all_goals exact HF.out

theorem add_at' (g o j : Nat) : (⟨g, o, none⟩ : Addr).add j = ⟨g, o + j, none⟩ := by unfold Addr.add; split <;> simp_all
set_option maxHeartbeats 8000000 in
set_option maxRecDepth 100000 in
/-- in the midst, where there is room. -/
theorem ins_shift (B n g k bh cap : Nat) (cs x : List Value) (w : World) (hv : w.ownsRow B 51 6 (.slice (some ⟨g, 0, none⟩) n cap) n cs) (hk : k < n) (hroom : n + 1 ≤ cap) (hx : Blk w bh 51 x) (hxl : x.length = 6) (h1 : ∀ u ∈ x, u.oneCell' = true) (hc1 : ∀ u ∈ cs, u.oneCell' = true) (hbh : bh ≠ g) (hn : n ≤ 1000000) :
    Calls Tryz.prog 121 #[.slice (some ⟨g, 0, none⟩) n cap, .int .i64 k, .slice (some ⟨bh, 0, none⟩) 1 1] w (InsPost B n k cs x (some g) w) := by
  obtain ⟨rest, hB1, hcl, htot, hle, hmax⟩ := blk_of_ownsRow hv
  have hmax' : cap ≤ 9223372036854775807 := by unfold maxLen at hmax; omega
  obtain ⟨i0, hi, hii⟩ := Option.map_eq_some_iff.1 infoF
  simp only [Prod.mk.injEq] at hii
  obtain ⟨hz0, hz1, hz2⟩ := hii
  have hsz : (Tryz.prog.info? 51).map (·.size) = some 6 := by rw [hi]; simp [hz1]
  have hgB : B ≤ g := (hv.lt g rfl).1
  have hgw : g < w.heap.size := (hv.lt g rfl).2
  obtain ⟨A, D, hcs, hAl, hDl⟩ : ∃ A D, cs = A ++ D ∧ A.length = k * 6 ∧ D.length = (n - k) * 6 := ⟨cs.take (k * 6), cs.drop (k * 6), (List.take_append_drop _ _).symm, by rw [List.length_take]; omega, by rw [List.length_drop]; omega⟩
  have hput : putC cs x k = A ++ x ++ D := by
    unfold putC
    rw [hcs, ← hAl, List.take_left, List.drop_left]
  have hD1 : ∀ u ∈ D, u.oneCell' = true := fun u hu => hc1 u (by rw [hcs]; exact List.mem_append_right _ hu)
  rw [hcs] at hB1
  have hcD : ∀ (W : World), Blk W g 51 (A ++ D ++ rest) → ∀ j v, D[j]? = some v → W.cell? ((⟨g, k * 6, none⟩ : Addr).add j) = some v := fun W hW j v hj => by
    have hjl := (List.getElem?_eq_some_iff.1 hj).1
    rw [add_at']
    rw [hW.cell, List.append_assoc, List.getElem?_append_right (by omega), List.getElem?_append_left (by omega), hAl, Nat.add_sub_cancel_left]
    exact hj
  have hrl : 6 ≤ rest.length := by rw [hcs] at htot; simp only [List.length_append] at htot; omega
  have hBd : Blk w.drew g 51 (A ++ D ++ rest) := hB1
  obtain ⟨W1, hcp1, hR1, hO1⟩ := run_copy_wide (P := Tryz.prog) w.drew 26 26 51 6 g ((k + 1) * 6) (n + 1 - (k + 1)) (cap - (k + 1)) ⟨g, k * 6, none⟩ (n + 1 - k) (cap - k) (n - k) _ 51 D Tryz.underlying26 hsz hBd (by simp only [Nat.min_def]; split <;> omega) hDl (hcD _ hBd) (by simp only [List.length_append]; omega) hD1
  have e1 : (A ++ D ++ rest).take ((k + 1) * 6) ++ D ++ (A ++ D ++ rest).drop ((k + 1) * 6 + D.length) = A ++ ((D ++ rest).take 6) ++ D ++ rest.drop 6 := by
    rw [List.append_assoc A D rest, show (k + 1) * 6 = A.length + 6 by omega, List.take_append, List.take_of_length_le (by omega), show A.length + 6 - A.length = 6 by omega, show A.length + 6 + D.length = A.length + (6 + D.length) by omega, List.drop_append, List.drop_eq_nil_of_le (by omega), List.nil_append, show A.length + (6 + D.length) - A.length = D.length + 6 by omega, List.drop_append, List.drop_eq_nil_of_le (by omega), List.nil_append, show D.length + 6 - D.length = 6 by omega]
  rw [e1] at hR1
  have hx1 : Blk W1 bh 51 x := Blk.only (w := w.drew) hx hO1 hbh
  obtain ⟨M, hM⟩ : ∃ M, (D ++ rest).take 6 = M := ⟨_, rfl⟩
  have hMl : M.length = 6 := by rw [← hM, List.length_take, List.length_append]; omega
  rw [hM] at hR1
  obtain ⟨W2, hcp2, hR2, hO2⟩ := run_copy_wide (P := Tryz.prog) W1 26 26 51 6 g (k * 6) (n + 1 - k) (cap - k) ⟨bh, 0, none⟩ 1 1 1 _ 51 x Tryz.underlying26 hsz hR1 (by simp only [Nat.min_def]; split <;> omega) (by rw [hxl]) (fun j v hj => by rw [add_at, hx1.cell j]; exact hj) (by simp only [List.length_append]; omega) h1
  have e2 : (A ++ M ++ D ++ rest.drop 6).take (k * 6) ++ x ++ (A ++ M ++ D ++ rest.drop 6).drop (k * 6 + x.length) = (A ++ x ++ D) ++ rest.drop 6 := by
    have h := mid_put A M (D ++ rest.drop 6) x (by omega)
    rw [hAl] at h
    simpa only [List.append_assoc] using h
  rw [e2] at hR2
  have hown : W2.ownsRow B 51 6 (.slice (some ⟨g, 0, none⟩) (n + 1) cap) (n + 1) (A ++ x ++ D) := ownsRow_of_blkB hgB hR2 (by simp only [List.length_append]; omega) (by rw [hcs] at htot; simp only [List.length_append, List.length_drop] at htot ⊢; omega) hroom hmax
  have HF := Lib.hid (show InsPost B n k cs x (some g) w (.returned (.slice (some ⟨g, 0, none⟩) (n + 1) cap)) W2 from ⟨_, rfl, by rw [hput]; exact hown, (((Only.drew _ w).trans (hO1.mono (fun i _ e => by rw [e]))).trans (hO2.mono (fun i _ e => by rw [e])))⟩)
  have hov : ∀ lb cb, (callFunc 131 #[.slice (some ⟨bh, 0, none⟩) 1 1, .slice (some ⟨g, (k + 1) * 6, none⟩) lb cb]).run Tryz.prog w = .ok (.value (.bool false)) w := fun lb cb => by
    rw [run_callFunc_extern Tryz.func131 (by kernel_rfl) (by kernel_rfl) (by kernel_rfl) (e := Extern.SlicesOverlaps.overlaps #[26, 26] #[4]) (by kernel_rfl),
      Lib.run_overlaps_apart w 26 4 51 Tryz.underlying26 6 (fun w => by kernel_rfl) ⟨bh, 0, none⟩ ⟨g, (k + 1) * 6, none⟩ 1 1 lb cb hbh 51 51 x.length (A ++ D ++ rest).length (by unfold World.shape?; rw [show w.heap[bh]? = _ from hx]; simp) (by unfold World.shape?; rw [show w.heap[g]? = _ from hB1]; simp) (by simp only [List.length_append]; omega) (hx.frozen 0) (hx.frozen x.length)]
    rfl
  have HC := Lib.hid (And.intro hcp1 hcp2)
  clear hcp1 hcp2 hR1 hO1 hR2 hO2 hown hx1 hBd hcD hD1 hput e1 e2 hB1 hv hx hM hMl hrl htot hcl hi hz0 hz1 hz2 hsz
  have hz1 : ¬ ((k : Int) = (n : Int)) := by omega
  have hz1b : ((k : Int) == (n : Int)) = false := beq_eq_false_iff_ne.2 hz1
  have hlz : (k : Int) ≤ (n : Int) := by omega
  have hk0 : (0 : Int) ≤ (k : Int) := by omega
  have hkc : (k : Int) ≤ (cap : Int) := by omega
  have hnc : (n : Int) + 1 ≤ (cap : Int) := by omega
  have hnc2 : ¬ (cap : Int) < (n : Int) + 1 := by omega
  have hn0 : (0 : Int) ≤ (n : Int) + 1 := by omega
  have hk1 : (0 : Int) ≤ (k : Int) + 1 := by omega
  have hkn : (k : Int) + 1 ≤ (n : Int) + 1 := by omega
  have hkn2 : (k : Int) ≤ (n : Int) + 1 := by omega
  have ht1 : ((k : Int) + 1).toNat = k + 1 := by omega
  have ht2 : ((n : Int) + 1).toNat = n + 1 := by omega
  have hc1' : ¬ cap = k := by omega
  have hc2' : ¬ cap = k + 1 := by omega
  have hw1 : IntKind.i64.wrap ((n : Int) + 1) = (n : Int) + 1 := by rw [IntKind.wrap_i64]; omega
  have hw2 : IntKind.i64.wrap ((k : Int) + 1) = (k : Int) + 1 := by rw [IntKind.wrap_i64]; omega
  go_enter Tryz.func121, Tryz.ntmps121
  go_wp2_with (simp only [hov])
  refine AnyP.begin (J := fun j => false) (S := fun _ => True) (by kernel_rfl) rfl rfl ?_
  refine AnyP.takeP (i := 0) (v := .slice (some ⟨g, 0, none⟩) (n + 1) cap) rfl rfl (by kernel_rfl) (by kernel_rfl) (by kernel_rfl) (fun _ _ _ h => h) (by rfl) ?_ ?_
  · intro W
    go_simp
    try (with_reducible rfl)
  simp only [Act.put, List.setIfInBounds_toArray, List.set_cons_zero, List.set_cons_succ]
  refine AnyP.takeP (i := 1) (v := .int .i64 k) rfl rfl (by kernel_rfl) (by kernel_rfl) (by kernel_rfl) (fun _ _ _ h => h) (by rfl) ?_ ?_
  · intro W
    go_simp
    try (with_reducible rfl)
  simp only [Act.put, List.setIfInBounds_toArray, List.set_cons_zero, List.set_cons_succ]
  refine AnyP.takeP (i := 2) (v := .int .i64 1) rfl rfl (by kernel_rfl) (by kernel_rfl) (by kernel_rfl) (fun _ _ _ h => h) (by rfl) ?_ ?_
  · intro W
    go_simp
    try (with_reducible rfl)
  simp only [Act.put, List.setIfInBounds_toArray, List.set_cons_zero, List.set_cons_succ]
  refine AnyP.takeP (i := 3) (v := .int .i64 ((k : Int) + 1)) rfl rfl (by kernel_rfl) (by kernel_rfl) (by kernel_rfl) (fun _ _ _ h => h) (by rfl) ?_ ?_
  · intro W
    go_simp
    try (with_reducible rfl)
  simp only [Act.put, List.setIfInBounds_toArray, List.set_cons_zero, List.set_cons_succ]
  refine AnyP.takeP (i := 4) (v := .slice (some ⟨g, (k + 1) * 6, none⟩) (n + 1 - (k + 1)) (cap - (k + 1))) rfl rfl (by kernel_rfl) (by kernel_rfl) (by kernel_rfl) (fun _ _ _ h => h) (by rfl) ?_ ?_
  · intro W
    go_simp
    try (with_reducible rfl)
  simp only [Act.put, List.setIfInBounds_toArray, List.set_cons_zero, List.set_cons_succ]
  refine AnyP.takeP (i := 5) (v := .slice (some ⟨g, 0, none⟩) (n + 1) cap) rfl rfl (by kernel_rfl) (by kernel_rfl) (by kernel_rfl) (fun _ _ _ h => h) (by rfl) ?_ ?_
  · intro W
    go_simp
    try (with_reducible rfl)
  simp only [Act.put, List.setIfInBounds_toArray, List.set_cons_zero, List.set_cons_succ]
  refine AnyP.takeP (i := 6) (v := .int .i64 k) rfl rfl (by kernel_rfl) (by kernel_rfl) (by kernel_rfl) (fun _ _ _ h => h) (by rfl) ?_ ?_
  · intro W
    go_simp
    try (with_reducible rfl)
  simp only [Act.put, List.setIfInBounds_toArray, List.set_cons_zero, List.set_cons_succ]
  refine AnyP.takeP (i := 7) (v := .slice (some ⟨g, k * 6, none⟩) (n + 1 - k) (cap - k)) rfl rfl (by kernel_rfl) (by kernel_rfl) (by kernel_rfl) (fun _ _ _ h => h) (by rfl) ?_ ?_
  · intro W
    go_simp
    try (with_reducible rfl)
  simp only [Act.put, List.setIfInBounds_toArray, List.set_cons_zero, List.set_cons_succ]
  refine AnyP.oneL (i := 8) (by kernel_rfl) rfl (fun K hK => ?_)
  refine step_copy_run rfl (.tmp 73) (.tmp 76) 26 rfl (.slice (some ⟨g, (k + 1) * 6, none⟩) (n + 1 - (k + 1)) (cap - (k + 1))) (.slice (some ⟨g, k * 6, none⟩) (n + 1 - k) (cap - k)) rfl rfl (goInt ((n - k : Nat) : Int)) W1 HC.out.1 ?_
  refine hK.out _ _ (fun h => by cases h) ?_
  clear hK K
  (try simp only [Act.put, List.setIfInBounds_toArray, List.set_cons_zero, List.set_cons_succ])
  refine AnyP.done (by kernel_rfl) ?_
  go_wp2_with (refine wpList_copy_run rfl (.tmp 80) (.tmp 81) 26 rfl (.slice (some ⟨g, k * 6, none⟩) (n + 1 - k) (cap - k)) (.slice (some ⟨bh, 0, none⟩) 1 1) rfl rfl (goInt ((1 : Nat) : Int)) W2 HC.out.2 ?_)
  go_ret
  exact HF.out

set_option maxHeartbeats 8000000 in
set_option maxRecDepth 100000 in
/-- in the midst, where there is no room. -/
theorem ins_grow (B n g k bh cap : Nat) (cs x : List Value) (w : World) (hv : w.ownsRow B 51 6 (.slice (some ⟨g, 0, none⟩) n cap) n cs) (hk : k < n) (hroom : cap < n + 1) (hx : Blk w bh 51 x) (hxl : x.length = 6) (h1 : ∀ u ∈ x, u.oneCell' = true) (hc1 : ∀ u ∈ cs, u.oneCell' = true) (_hbh : bh ≠ g) (hn : n ≤ 1000000) :
    Calls Tryz.prog 121 #[.slice (some ⟨g, 0, none⟩) n cap, .int .i64 k, .slice (some ⟨bh, 0, none⟩) 1 1] w (InsPost B n k cs x (some g) w) := by
  obtain ⟨rest, hB1, hcl, htot, hle, hmax⟩ := blk_of_ownsRow hv
  have hmax' : cap ≤ 9223372036854775807 := by unfold maxLen at hmax; omega
  obtain ⟨i0, hi, hii⟩ := Option.map_eq_some_iff.1 infoF
  simp only [Prod.mk.injEq] at hii
  obtain ⟨hz0, hz1, hz2⟩ := hii
  have hsz : (Tryz.prog.info? 51).map (·.size) = some 6 := by rw [hi]; simp [hz1]
  have hgB : B ≤ g := (hv.lt g rfl).1
  have hgw : g < w.heap.size := (hv.lt g rfl).2
  obtain ⟨A, D, hcs, hAl, hDl⟩ : ∃ A D, cs = A ++ D ∧ A.length = k * 6 ∧ D.length = (n - k) * 6 := ⟨cs.take (k * 6), cs.drop (k * 6), (List.take_append_drop _ _).symm, by rw [List.length_take]; omega, by rw [List.length_drop]; omega⟩
  have hput : putC cs x k = A ++ x ++ D := by
    unfold putC
    rw [hcs, ← hAl, List.take_left, List.drop_left]
  have hD1 : ∀ u ∈ D, u.oneCell' = true := fun u hu => hc1 u (by rw [hcs]; exact List.mem_append_right _ hu)
  rw [hcs] at hB1
  have hcD : ∀ (W : World), Blk W g 51 (A ++ D ++ rest) → ∀ j v, D[j]? = some v → W.cell? ((⟨g, k * 6, none⟩ : Addr).add j) = some v := fun W hW j v hj => by
    have hjl := (List.getElem?_eq_some_iff.1 hj).1
    rw [add_at']
    rw [hW.cell, List.append_assoc, List.getElem?_append_right (by omega), List.getElem?_append_left (by omega), hAl, Nat.add_sub_cancel_left]
    exact hj
  obtain ⟨G, hG⟩ : ∃ G, grownCap w (n + 1) cap 51 = G := ⟨_, rfl⟩
  have hGn : n + 1 ≤ G := by rw [← hG]; exact grownCap_ge w _ _ _
  have hGm : G ≤ maxLen := by rw [← hG]; exact grownCap_le_maxLen w _ _ _ (by unfold maxLen; omega)
  obtain ⟨N, hN⟩ : ∃ N, w.heap.size = N := ⟨_, rfl⟩
  have hik : k + (n + 1 - k) = n + 1 := by omega
  have hold : (Builtin.firstCells i0.size k (.slice (some ⟨g, 0, none⟩) k cap)).run Tryz.prog w.drew = .ok A.toArray w.drew := by
    rw [hz1]
    refine run_firstCells_some w.drew 6 k ⟨g, 0, none⟩ k cap A hAl (fun j v hj => ?_)
    have hjl := (List.getElem?_eq_some_iff.1 hj).1
    show w.cell? _ = _
    rw [add_at, hB1.cell, List.append_assoc, List.getElem?_append_left hjl]
    exact hj
  obtain ⟨Z1, hZ1⟩ : ∃ Z, (Builtin.zeroCells (Value.agg #[.string ⟨#[]⟩, .int .i64 0, .int .i64 0, .string ⟨#[]⟩, .slice none 0 0, .slice none 0 0]).cells (n + 1 - k)).toList = Z := ⟨_, rfl⟩
  obtain ⟨Z2, hZ2⟩ : ∃ Z, (Builtin.zeroCells (Value.agg #[.string ⟨#[]⟩, .int .i64 0, .int .i64 0, .string ⟨#[]⟩, .slice none 0 0, .slice none 0 0]).cells (G - (n + 1))).toList = Z := ⟨_, rfl⟩
  have hZ1l : Z1.length = (n + 1 - k) * 6 := by rw [← hZ1]; simp [Builtin.zeroCells, Value.cells]
  have hZ2l : Z2.length = (G - (n + 1)) * 6 := by rw [← hZ2]; simp [Builtin.zeroCells, Value.cells]
  obtain ⟨W1, hW1⟩ : ∃ W, w.drew.alloc (.cells (A ++ Z1 ++ Z2).toArray 51) = W := ⟨_, rfl⟩
  have hap : ∀ ty, (Builtin.append_ #[26, 3] ty #[.slice (some ⟨g, 0, none⟩) k cap, .int .i64 ((n : Int) + 1 - (k : Int))]).run Tryz.prog w = .ok (.slice (some ⟨N, 0, none⟩) (n + 1) G) W1 := fun ty => by
    have h := Lib.run_append_grow_zeros w 26 3 ty 51 i0 _ .i64 .i64 Tryz.underlying26 Tryz.underlying3 hi hz0 (some ⟨g, 0, none⟩) k cap A hold (n + 1 - k) (by omega) (by omega) (by omega) (by omega) (by rw [hz2]; omega) (by rw [hz2, hik]; exact growslice_fits hroom (by omega))
    rw [hik, hN, hG] at h
    rw [show ((n : Int) + 1 - (k : Int)) = ((n + 1 - k : Nat) : Int) by omega, h, ← hW1]
    have hrow : (A ++ Z1 ++ Z2).toArray = A.toArray ++ Builtin.zeroCells (Value.agg #[.string ⟨#[]⟩, .int .i64 0, .int .i64 0, .string ⟨#[]⟩, .slice none 0 0, .slice none 0 0]).cells (n + 1 - k) ++ Builtin.zeroCells (Value.agg #[.string ⟨#[]⟩, .int .i64 0, .int .i64 0, .string ⟨#[]⟩, .slice none 0 0, .slice none 0 0]).cells (G - (n + 1)) := by
      apply Array.ext'
      rw [← hZ1, ← hZ2]
      simp
    rw [hrow]
  have hR0 : Blk W1 N 51 (A ++ Z1 ++ Z2) := by rw [← hW1, ← hN]; exact heap_alloc_new w.drew _
  have hO0 : Below w.heap.size w W1 := by rw [← hW1]; exact ((Below.refl _ w).drew).alloc (Nat.le_refl _) _
  have hx1 : Blk W1 bh 51 x := hx.below hO0
  have hg1 : Blk W1 g 51 (A ++ D ++ rest) := hB1.below hO0
  have hbN : bh < N := by rw [← hN]; exact hx.lt
  have hgN : g < N := by rw [← hN]; exact hgw
  obtain ⟨W2, hcp1, hR1, hO1⟩ := run_copy_wide (P := Tryz.prog) W1 26 26 51 6 N (k * 6) (n + 1 - k) (G - k) ⟨bh, 0, none⟩ 1 1 1 _ 51 x Tryz.underlying26 hsz hR0 (by simp only [Nat.min_def]; split <;> omega) (by rw [hxl]) (fun j v hj => by rw [add_at, hx1.cell j]; exact hj) (by simp only [List.length_append]; omega) h1
  have e1 : (A ++ Z1 ++ Z2).take (k * 6) ++ x ++ (A ++ Z1 ++ Z2).drop (k * 6 + x.length) = A ++ x ++ (Z1.drop 6 ++ Z2) := by
    have h := mid_put A (Z1.take 6) (Z1.drop 6 ++ Z2) x (by rw [List.length_take]; omega)
    rw [hAl, ← List.append_assoc (Z1.take 6), List.take_append_drop] at h
    simpa only [List.append_assoc] using h
  rw [e1] at hR1
  have hg2' : Blk W2 g 51 (A ++ D ++ rest) := hg1.only hO1 (fun e => by have e2 : g = N := e; omega)
  have hg2 : Blk W2.drew g 51 (A ++ D ++ rest) := hg2'
  have hR1' : Blk W2.drew N 51 (A ++ x ++ (Z1.drop 6 ++ Z2)) := hR1
  obtain ⟨W3, hcp2, hR2, hO2⟩ := run_copy_wide (P := Tryz.prog) W2.drew 26 26 51 6 N ((k + 1) * 6) (n + 1 - (k + 1)) (G - (k + 1)) ⟨g, k * 6, none⟩ (n - k) (cap - k) (n - k) _ 51 D Tryz.underlying26 hsz hR1' (by simp only [Nat.min_def]; split <;> omega) hDl (hcD _ hg2) (by simp only [List.length_append, List.length_drop]; omega) hD1
  have e2 : (A ++ x ++ (Z1.drop 6 ++ Z2)).take ((k + 1) * 6) ++ D ++ (A ++ x ++ (Z1.drop 6 ++ Z2)).drop ((k + 1) * 6 + D.length) = (A ++ x ++ D) ++ Z2 := by
    have hax : (A ++ x).length = (k + 1) * 6 := by rw [List.length_append]; omega
    rw [← hax, List.take_left, ← List.drop_drop, List.drop_left, List.drop_append, List.drop_eq_nil_of_le (by rw [List.length_drop]; omega), List.nil_append, show D.length - (Z1.drop 6).length = 0 by rw [List.length_drop]; omega, List.drop_zero]
  rw [e2] at hR2
  have hown : W3.ownsRow B 51 6 (.slice (some ⟨N, 0, none⟩) (n + 1) G) (n + 1) (A ++ x ++ D) := ownsRow_of_blkB (by omega) hR2 (by simp only [List.length_append]; omega) (by simp only [List.length_append]; omega) hGn hGm
  have hO : Only (fun b => some b = some g) w W3 := ((Only.ofBelow hO0 _).trans' (hO1.trans ((Only.drew _ W2).trans hO2)) (fun i hi e => by have e2 : i = N := e; omega))
  have HF := Lib.hid (show InsPost B n k cs x (some g) w (.returned (.slice (some ⟨N, 0, none⟩) (n + 1) G)) W3 from ⟨_, rfl, by rw [hput]; exact hown, hO⟩)
  have HC := Lib.hid (And.intro hap (And.intro hcp1 hcp2))
  have hG63 : G ≤ 9223372036854775807 := by unfold maxLen at hGm; omega
  clear hap hcp1 hcp2 hR0 hR1 hO1 hR2 hO2 hown hx1 hcD hD1 hput e1 e2 hB1 hv hx htot hcl hi hz0 hz1 hz2 hsz hW1 hO0 hg1 hg2 hg2' hR1' hO hZ1 hZ2 hZ1l hZ2l hold hik hG hN hGm
  have hz1 : ¬ ((k : Int) = (n : Int)) := by omega
  have hz1b : ((k : Int) == (n : Int)) = false := beq_eq_false_iff_ne.2 hz1
  have hlz : (k : Int) ≤ (n : Int) := by omega
  have hk0 : (0 : Int) ≤ (k : Int) := by omega
  have hkc : (k : Int) ≤ (cap : Int) := by omega
  have hnc2 : (cap : Int) < (n : Int) + 1 := by omega
  have hk1 : (0 : Int) ≤ (k : Int) + 1 := by omega
  have hkn : (k : Int) + 1 ≤ (n : Int) + 1 := by omega
  have hkn2 : (k : Int) ≤ (n : Int) + 1 := by omega
  have ht1 : ((k : Int) + 1).toNat = k + 1 := by omega
  have hc1' : ¬ G = k := by omega
  have hc2' : ¬ G = k + 1 := by omega
  have hc3' : ¬ cap = k := by omega
  have hw1 : IntKind.i64.wrap ((n : Int) + 1) = (n : Int) + 1 := by rw [IntKind.wrap_i64]; omega
  have hw2 : IntKind.i64.wrap ((k : Int) + 1) = (k : Int) + 1 := by rw [IntKind.wrap_i64]; omega
  have hw3 : IntKind.i64.wrap ((n : Int) + 1 - (k : Int)) = (n : Int) + 1 - (k : Int) := by rw [IntKind.wrap_i64]; omega
  go_enter Tryz.func121, Tryz.ntmps121
  go_wp2_with (first
    | (at_builtin; refine wpList_append_run2 rfl (.tmp 34) (.tmp 39) 26 3 rfl (.slice (some ⟨g, 0, none⟩) k cap) (.int .i64 ((n : Int) + 1 - (k : Int))) rfl rfl (.slice (some ⟨N, 0, none⟩) (n + 1) G) W1 HC.out.1 ?_)
    | (refine wpList_copy_run rfl (.tmp 43) (.tmp 44) 26 rfl (.slice (some ⟨N, k * 6, none⟩) (n + 1 - k) (G - k)) (.slice (some ⟨bh, 0, none⟩) 1 1) rfl rfl (goInt ((1 : Nat) : Int)) W2 HC.out.2.1 ?_))
  refine AnyP.begin (J := fun j => false) (S := fun _ => True) (by kernel_rfl) rfl rfl ?_
  refine AnyP.takeP (i := 0) (v := .slice (some ⟨N, 0, none⟩) (n + 1) G) rfl rfl (by kernel_rfl) (by kernel_rfl) (by kernel_rfl) (fun _ _ _ h => h) (by rfl) ?_ ?_
  · intro W
    go_simp
    try (with_reducible rfl)
  simp only [Act.put, List.setIfInBounds_toArray, List.set_cons_zero, List.set_cons_succ]
  refine AnyP.takeP (i := 1) (v := .int .i64 k) rfl rfl (by kernel_rfl) (by kernel_rfl) (by kernel_rfl) (fun _ _ _ h => h) (by rfl) ?_ ?_
  · intro W
    go_simp
    try (with_reducible rfl)
  simp only [Act.put, List.setIfInBounds_toArray, List.set_cons_zero, List.set_cons_succ]
  refine AnyP.takeP (i := 2) (v := .int .i64 1) rfl rfl (by kernel_rfl) (by kernel_rfl) (by kernel_rfl) (fun _ _ _ h => h) (by rfl) ?_ ?_
  · intro W
    go_simp
    try (with_reducible rfl)
  simp only [Act.put, List.setIfInBounds_toArray, List.set_cons_zero, List.set_cons_succ]
  refine AnyP.takeP (i := 3) (v := .int .i64 ((k : Int) + 1)) rfl rfl (by kernel_rfl) (by kernel_rfl) (by kernel_rfl) (fun _ _ _ h => h) (by rfl) ?_ ?_
  · intro W
    go_simp
    try (with_reducible rfl)
  simp only [Act.put, List.setIfInBounds_toArray, List.set_cons_zero, List.set_cons_succ]
  refine AnyP.takeP (i := 4) (v := .slice (some ⟨N, (k + 1) * 6, none⟩) (n + 1 - (k + 1)) (G - (k + 1))) rfl rfl (by kernel_rfl) (by kernel_rfl) (by kernel_rfl) (fun _ _ _ h => h) (by rfl) ?_ ?_
  · intro W
    go_simp
    try (with_reducible rfl)
  simp only [Act.put, List.setIfInBounds_toArray, List.set_cons_zero, List.set_cons_succ]
  refine AnyP.takeP (i := 5) (v := .slice (some ⟨g, 0, none⟩) n cap) rfl rfl (by kernel_rfl) (by kernel_rfl) (by kernel_rfl) (fun _ _ _ h => h) (by rfl) ?_ ?_
  · intro W
    go_simp
    try (with_reducible rfl)
  simp only [Act.put, List.setIfInBounds_toArray, List.set_cons_zero, List.set_cons_succ]
  refine AnyP.takeP (i := 6) (v := .int .i64 k) rfl rfl (by kernel_rfl) (by kernel_rfl) (by kernel_rfl) (fun _ _ _ h => h) (by rfl) ?_ ?_
  · intro W
    go_simp
    try (with_reducible rfl)
  simp only [Act.put, List.setIfInBounds_toArray, List.set_cons_zero, List.set_cons_succ]
  refine AnyP.takeP (i := 7) (v := .slice (some ⟨g, k * 6, none⟩) (n - k) (cap - k)) rfl rfl (by kernel_rfl) (by kernel_rfl) (by kernel_rfl) (fun _ _ _ h => h) (by rfl) ?_ ?_
  · intro W
    go_simp
    try (with_reducible rfl)
  simp only [Act.put, List.setIfInBounds_toArray, List.set_cons_zero, List.set_cons_succ]
  refine AnyP.oneL (i := 8) (by kernel_rfl) rfl (fun K hK => ?_)
  refine step_copy_run rfl (.tmp 50) (.tmp 53) 26 rfl (.slice (some ⟨N, (k + 1) * 6, none⟩) (n + 1 - (k + 1)) (G - (k + 1))) (.slice (some ⟨g, k * 6, none⟩) (n - k) (cap - k)) rfl rfl (goInt ((n - k : Nat) : Int)) W3 HC.out.2.2 ?_
  refine hK.out _ _ (fun h => by cases h) ?_
  clear hK K
  (try simp only [Act.put, List.setIfInBounds_toArray, List.set_cons_zero, List.set_cons_succ])
  refine AnyP.done (by kernel_rfl) ?_
  go_wp2
  go_ret
  exact HF.out
end Go.Proofs.YtccnfnoonpfdfaaGreatDoor
