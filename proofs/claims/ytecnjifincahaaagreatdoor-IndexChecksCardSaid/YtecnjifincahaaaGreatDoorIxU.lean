/- IndexChecks' walk, of what its callees give. -/
import Derived.Test.YtecnjifincahaaaGreatDoorIxT
import Derived.Test.YtecnjifincahaaaGreatDoorIxR
import Derived.Test.YtecnjifincahaaaGreatDoorIJp
namespace Go.Proofs.YtecnjifincahaaaGreatDoor
open Go.Shelf Go.RowKit Go.Lib

/-- an error of a code; of 0: none. -/
def EC (w : World) (v : Value) (c : Int) : Prop := (v = .nilIface ∧ c = 0) ∨ ((∃ n, Chain w n v c) ∧ ¬ c = 0)
theorem EC.later {w w2 : World} {v : Value} {c : Int} (h : EC w v c) (hb : Below w.heap.size w w2) : EC w2 v c := by
  rcases h with h | ⟨⟨n, h⟩, h0⟩
  · exact .inl h
  · exact .inr ⟨⟨n, h.below hb⟩, h0⟩
theorem EC.code {w : World} {v : Value} {c : Int} (h : EC w v c) (hg : ErrT w) : Calls Tryz.prog 12 #[v] w fun e w' => e = .returned (.int .i64 c) ∧ Below w.heap.size w w' := by
  rcases h with ⟨rfl, rfl⟩ | ⟨⟨n, h⟩, _⟩
  · refine (code_nil w).mono ?_
    rintro e w' ⟨rfl, rfl⟩
    exact ⟨rfl, Below.refl _ _⟩
  · exact code_chain n v c w h hg
theorem EC.nil {w : World} {v : Value} {c : Int} (h : EC w v c) : (v = .nilIface ∧ c = 0) ∨ ((∃ t u, v = .iface t u) ∧ ¬ c = 0) := by
  rcases h with h | ⟨⟨n, h⟩, h0⟩
  · exact .inl h
  · exact .inr ⟨h.ne_nil, h0⟩
theorem oddB_take (l : BL) (i : Nat) (h : i < l.length) : oddB (l.take (i + 1)) = (oddB (l.take i) || !signB l[i].toNat) := by
  unfold oddB
  rw [List.take_succ_eq_append_getElem h, List.any_append]
  simp
theorem oddB_all (l : BL) (i : Nat) (h : l.length ≤ i) : oddB (l.take i) = oddB l := by rw [List.take_of_length_le h]

set_option maxHeartbeats 16000000 in
set_option maxRecDepth 100000 in
theorem checks_empty (L : BL) (N X N1 X1 : ByteArray) (n m p q : Nat) (u : Bool) (w : World) (sv : Value) (c1 c2 : Int) (PD : World → List Value → Prop)
    (hn : N.size = n)
    (hm : min n 100 = m)
    (hN1 : N.extract 0 m = N1)
    (hL : BA L = N1)
    (hp : X.size = p)
    (hq : min p 100 = q)
    (hX1 : X.extract 0 q = X1)
    (hI : IxW w)
    (hpar : ∀ W, Below w.heap.size w W → Calls Tryz.prog 10 #[.string X1] W fun e w' => ∃ sl ve, e = .returned (.tuple #[sl, ve]) ∧ EC w' ve c2 ∧ Below W.heap.size W w')
    (hchk : ∀ W, Below w.heap.size w W → Calls Tryz.prog 11 #[.agg #[.string N1, .string X1, .bool u]] W fun e w' => ∃ ve, e = .returned ve ∧ EC w' ve c1 ∧ Below W.heap.size W w')
    (hdoc : ∀ W, Below w.heap.size w W → Calls Tryz.prog 14 #[sv] W fun e w' => ∃ c, e = .returned (.agg c.toArray) ∧ PD w' c ∧ Below W.heap.size W w')
    (hsh : ∀ W c, PD W c → ∃ q0 q1 q2 q3 q4 q5 q6 q7 q8, c = [.int .i64 q0, .int .i64 q1, .string q2, .slice q3 q4 q5, .slice q6 q7 q8])
    (hkey : ∀ W c, Below w.heap.size w W → PD W c → Calls Tryz.prog 13 #[.agg #[.string N1, .string X1, .bool u], .agg c.toArray] W fun e w' => ∃ k has, e = .returned (.tuple #[.string k, .bool has]) ∧ (¬ c2 = 0 → has = false) ∧ Below W.heap.size W w')
    (hc1 : badName L → c1 = 5)
    (hc2 : ¬ badName L → c1 = c2) (hv : L = []) :
    Calls Tryz.prog 3 #[.agg #[.string N, .string X, .bool u], sv] w fun e w' => e = .returned (.bool true) ∧ Below w.heap.size w w' := by
  obtain ⟨W0, eW0⟩ : ∃ W, w.alloc (.cells #[.string N, .string X, .bool u] 23) = W := ⟨_, rfl⟩
  obtain ⟨P0, eP0⟩ : ∃ P, w.heap.size = P := ⟨_, rfl⟩
  have hb0 : Below w.heap.size w W0 := by rw [← eW0]; exact (Below.refl _ w).alloc (Nat.le_refl _) _
  have hk0 : Blk W0 P0 23 [.string N, .string X, .bool u] := by rw [← eW0, ← eP0]; exact heap_alloc_new w _
  have hmz : min (n : Int) 100 = (m : Int) := by omega
  have hqz : min (p : Int) 100 = (q : Int) := by omega
  have hmn : m ≤ n := by omega
  have hqp : q ≤ p := by omega
  have hmn' : (m : Int) ≤ (n : Int) := by omega
  have hqp' : (q : Int) ≤ (p : Int) := by omega
  have hs1 : N1.size = L.length := by rw [← hL, ba_size]
  have hL100 : L.length ≤ 100 := by
    have h1 : N1.size ≤ m := by rw [← hN1, ByteArray.size_extract]; omega
    omega
  have hgt : ∀ i (h : i < N1.size) (h2 : i < L.length), N1[i]'h = L[i] := by
    intro i h h2
    subst hL
    rfl
  have H0 := Lib.hid (And.intro eW0 (And.intro eP0 (And.intro hb0 (And.intro hk0 (And.intro hn (And.intro hm (And.intro hN1 (And.intro hL (And.intro hp (And.intro hq (And.intro hX1 (And.intro hI (And.intro hpar (And.intro hchk (And.intro hdoc (And.intro hsh (And.intro hkey (And.intro hc1 hc2))))))))))))))))))
  have HV := Lib.hid (And.intro hv (And.intro hs1 (And.intro hL100 hgt)))
  clear eW0 eP0 hb0 hk0 hm hL hq hI hpar hchk hdoc hsh hkey hc1 hc2 hv hs1 hL100 hgt
  go_enter Tryz.func3, Tryz.ntmps3
  go_wp2_with fail
  rw [H0.out.1, H0.out.2.1]
  refine (ixawake_any W0 (H0.out.2.2.2.2.2.2.2.2.2.2.2.1.below H0.out.2.2.1)).mono ?_
  rintro e w1 ⟨rfl, hb1⟩
  have H1 := Lib.hid (And.intro (H0.out.2.2.1.trans (hb1.mono H0.out.2.2.1.size)) (H0.out.2.2.2.1.below hb1))
  clear hb1
  go_wp2_with fail
  refine AnyP.begin (J := fun j => Nat.ble j 14) (S := fun W => Blk W P0 23 [.string N, .string X, .bool u]) (by kernel_rfl) rfl rfl ?_
  refine AnyP.takeP (i := 0) (v := .pointer (some ⟨P0, 0, none⟩)) rfl rfl (by kernel_rfl) (by kernel_rfl) (by kernel_rfl) (fun _ _ _ h => h) (by rfl) ?_ ?_
  · intro W
    go_simp
    try (with_reducible rfl)
  simp only [Act.put, List.setIfInBounds_toArray, List.set_cons_zero, List.set_cons_succ]
  refine AnyP.takeP (i := 2) (v := .pointer (some ⟨P0, 0, none⟩)) rfl rfl (by kernel_rfl) (by kernel_rfl) (by kernel_rfl) (fun _ _ _ h => h) (by rfl) ?_ ?_
  · intro W
    go_simp
    try (with_reducible rfl)
  simp only [Act.put, List.setIfInBounds_toArray, List.set_cons_zero, List.set_cons_succ]
  refine AnyP.takeP (i := 7) (v := .pointer (some ⟨P0, 1, none⟩)) rfl rfl (by kernel_rfl) (by kernel_rfl) (by kernel_rfl) (fun _ _ _ h => h) (by rfl) ?_ ?_
  · intro W
    go_simp
    try (with_reducible rfl)
  simp only [Act.put, List.setIfInBounds_toArray, List.set_cons_zero, List.set_cons_succ]
  refine AnyP.takeP (i := 9) (v := .pointer (some ⟨P0, 1, none⟩)) rfl rfl (by kernel_rfl) (by kernel_rfl) (by kernel_rfl) (fun _ _ _ h => h) (by rfl) ?_ ?_
  · intro W
    go_simp
    try (with_reducible rfl)
  simp only [Act.put, List.setIfInBounds_toArray, List.set_cons_zero, List.set_cons_succ]
  refine AnyP.takeT [3, 4, 5, 8, 10, 11, 12, 13] (by rfl) (i := 1) (v := .string N) rfl rfl (by kernel_rfl) (by kernel_rfl) (by kernel_rfl) (by kernel_rfl) (fun _ _ _ h => h) (by rfl) ?_ H1.out.2.drew ?_
  · intro W hW
    have n0 := hW.cell 0
    have n1 := hW.cell 1
    have n2 := hW.cell 2
    go_simp
    try (with_reducible rfl)
  simp only [Act.put, List.setIfInBounds_toArray, List.set_cons_zero, List.set_cons_succ]
  refine AnyP.takeT [8, 10, 11, 12, 13] (by rfl) (i := 3) (v := .string N) rfl rfl (by kernel_rfl) (by kernel_rfl) (by kernel_rfl) (by kernel_rfl) (fun _ _ _ h => h) (by rfl) ?_ H1.out.2.drew ?_
  · intro W hW
    have n0 := hW.cell 0
    have n1 := hW.cell 1
    have n2 := hW.cell 2
    go_simp
    try (with_reducible rfl)
  simp only [Act.put, List.setIfInBounds_toArray, List.set_cons_zero, List.set_cons_succ]
  refine AnyP.takeT [4, 5, 6, 10, 11, 12] (by rfl) (i := 8) (v := .string X) rfl rfl (by kernel_rfl) (by kernel_rfl) (by kernel_rfl) (by kernel_rfl) (fun _ _ _ h => h) (by rfl) ?_ H1.out.2.drew ?_
  · intro W hW
    have n0 := hW.cell 0
    have n1 := hW.cell 1
    have n2 := hW.cell 2
    go_simp
    try (with_reducible rfl)
  simp only [Act.put, List.setIfInBounds_toArray, List.set_cons_zero, List.set_cons_succ]
  refine AnyP.takeT [4, 5, 6] (by rfl) (i := 10) (v := .string X) rfl rfl (by kernel_rfl) (by kernel_rfl) (by kernel_rfl) (by kernel_rfl) (fun _ _ _ h => h) (by rfl) ?_ H1.out.2.drew ?_
  · intro W hW
    have n0 := hW.cell 0
    have n1 := hW.cell 1
    have n2 := hW.cell 2
    go_simp
    try (with_reducible rfl)
  simp only [Act.put, List.setIfInBounds_toArray, List.set_cons_zero, List.set_cons_succ]
  refine AnyP.takeP (i := 4) (v := .int .i64 (n : Int)) rfl rfl (by kernel_rfl) (by kernel_rfl) (by kernel_rfl) (fun _ _ _ h => h) (by rfl) ?_ ?_
  · intro W
    go_simp
    try (with_reducible rfl)
  simp only [Act.put, List.setIfInBounds_toArray, List.set_cons_zero, List.set_cons_succ]
  refine AnyP.takeP (i := 5) (v := .int .i64 (m : Int)) rfl rfl (by kernel_rfl) (by kernel_rfl) (by kernel_rfl) (fun _ _ _ h => h) (by rfl) ?_ ?_
  · intro W
    go_simp
    try (with_reducible rfl)
  simp only [Act.put, List.setIfInBounds_toArray, List.set_cons_zero, List.set_cons_succ]
  refine AnyP.takeP (i := 6) (v := .string N1) rfl rfl (by kernel_rfl) (by kernel_rfl) (by kernel_rfl) (fun _ _ _ h => h) (by rfl) ?_ ?_
  · intro W
    go_simp
    try (with_reducible rfl)
  simp only [Act.put, List.setIfInBounds_toArray, List.set_cons_zero, List.set_cons_succ]
  refine AnyP.takeP (i := 11) (v := .int .i64 (p : Int)) rfl rfl (by kernel_rfl) (by kernel_rfl) (by kernel_rfl) (fun _ _ _ h => h) (by rfl) ?_ ?_
  · intro W
    go_simp
    try (with_reducible rfl)
  simp only [Act.put, List.setIfInBounds_toArray, List.set_cons_zero, List.set_cons_succ]
  refine AnyP.takeP (i := 12) (v := .int .i64 (q : Int)) rfl rfl (by kernel_rfl) (by kernel_rfl) (by kernel_rfl) (fun _ _ _ h => h) (by rfl) ?_ ?_
  · intro W
    go_simp
    try (with_reducible rfl)
  simp only [Act.put, List.setIfInBounds_toArray, List.set_cons_zero, List.set_cons_succ]
  refine AnyP.takeP (i := 13) (v := .string X1) rfl rfl (by kernel_rfl) (by kernel_rfl) (by kernel_rfl) (fun _ _ _ h => h) (by rfl) ?_ ?_
  · intro W
    go_simp
    try (with_reducible rfl)
  simp only [Act.put, List.setIfInBounds_toArray, List.set_cons_zero, List.set_cons_succ]
  refine AnyP.takeP (i := 14) (v := .pointer (some ⟨P0, 0, none⟩)) rfl rfl (by kernel_rfl) (by kernel_rfl) (by kernel_rfl) (fun _ _ _ h => h) (by rfl) ?_ ?_
  · intro W
    go_simp
    try (with_reducible rfl)
  simp only [Act.put, List.setIfInBounds_toArray, List.set_cons_zero, List.set_cons_succ]
  have n0 := H1.out.2.drew.frozen 0
  have n1 := H1.out.2.drew.frozen 1
  have n2 := H1.out.2.drew.cell 0
  have n3 := H1.out.2.drew.cell 1
  refine AnyP.oneL (i := 15) (by kernel_rfl) rfl (fun K hK => ?_)
  go_simp
  refine hK.out _ _ (fun h => by cases h) ?_
  clear hK K
  (try simp only [Act.put, List.setIfInBounds_toArray, List.set_cons_zero, List.set_cons_succ])
  refine AnyP.takeP (i := 16) (v := .pointer (some ⟨P0, 1, none⟩)) rfl rfl (by kernel_rfl) (by kernel_rfl) (by kernel_rfl) (fun _ _ _ h => h) (by rfl) ?_ ?_
  · intro W
    go_simp
    try (with_reducible rfl)
  simp only [Act.put, List.setIfInBounds_toArray, List.set_cons_zero, List.set_cons_succ]
  have m0 := H1.out.2.frozen 1
  have m1 := H1.out.2.cell 1
  refine AnyP.oneL (i := 17) (by kernel_rfl) rfl (fun K hK => ?_)
  go_simp
  refine hK.out _ _ (fun h => by cases h) ?_
  clear hK K
  (try simp only [Act.put, List.setIfInBounds_toArray, List.set_cons_zero, List.set_cons_succ])
  refine AnyP.done (by kernel_rfl) ?_
  obtain ⟨W2, hW2⟩ : ∃ W, ((w1.setCell ⟨P0, 0, none⟩ (.string N1)).setCell ⟨P0, 1, none⟩ (.string X1)).drew = W := ⟨_, rfl⟩
  have hk2 : Blk W2 P0 23 [.string N1, .string X1, .bool u] := by rw [← hW2]; exact ((H1.out.2.set 0 (.string N1)).set 1 (.string X1)).drew
  have ho2 : Only (fun x => x = P0) w1 W2 := by rw [← hW2]; exact ((Only.set1 _ P0 0 _).trans (Only.set1 _ P0 1 _)).trans (Only.drew _ _)
  have hb2 : Below w.heap.size w W2 := H1.out.1.trans (ho2.below H1.out.1.size (fun k hk e => by have := H0.out.2.1; omega))
  have HR := Lib.hid (And.intro hb2 hk2)
  clear n0 n1 n2 n3 m0 m1 hmz hqz hmn hqp hmn' hqp' hn hp hN1 hX1 ho2 hb2 hk2
  rw [hW2]
  clear hW2
  have c0 := HR.out.2.cell 0
  have hz0 : N1 = ⟨#[]⟩ := by rw [← H0.out.2.2.2.2.2.2.2.1, HV.out.1]
  subst hz0
  go_wp2_with fail
  go_loopg [5, 6] 0 (fun gk bv iv wr => bv = .bool true ∧ iv = .int .i64 0 ∧ wr = W2)
  case atStart => exact ⟨rfl, rfl, rfl⟩
  case round =>
    obtain ⟨rfl, rfl, rfl⟩ := hrel
    clear c0
    have HBN := Lib.hid (show badName L from .inr (.inl HV.out.1))
    have c0 := HR.out.2.cell 0
    have c1' := HR.out.2.cell 1
    have c2' := HR.out.2.cell 2
    go_wp2_with fail
    refine (show Calls _ _ _ _ _ from H0.out.2.2.2.2.2.2.2.2.2.2.2.2.1 _ HR.out.1).mono ?_
    rintro e w3 ⟨sl, ve, rfl, hec, hb3⟩
    have H3 := Lib.hid (And.intro (HR.out.1.trans (hb3.mono HR.out.1.size)) (And.intro (HR.out.2.below hb3) hec))
    clear hb3 hec c0 c1' c2'
    have c0 := H3.out.2.1.cell 0
    have c1' := H3.out.2.1.cell 1
    have c2' := H3.out.2.1.cell 2
    go_wp2_with fail
    refine (show Calls _ _ _ _ _ from H0.out.2.2.2.2.2.2.2.2.2.2.2.2.2.1 _ H3.out.1).mono ?_
    rintro e w4 ⟨vr, rfl, hec, hb4⟩
    have H4 := Lib.hid (And.intro (H3.out.1.trans (hb4.mono H3.out.1.size)) (And.intro (H3.out.2.1.below hb4) (And.intro (H3.out.2.2.later hb4) hec)))
    clear hb4 hec c0 c1' c2'
    go_wp2_with fail
    refine (show Calls _ _ _ _ _ from H4.out.2.2.2.code (H0.out.2.2.2.2.2.2.2.2.2.2.2.1.errt.below H4.out.1)).mono ?_
    rintro e w8 ⟨rfl, hb8⟩
    have H8 := Lib.hid (H4.out.1.trans (hb8.mono H4.out.1.size))
    have hc5 : c1 = 5 := H0.out.2.2.2.2.2.2.2.2.2.2.2.2.2.2.2.2.2.1 HBN.out
    clear hb8
    go_wp2
    go_ret
    exact ⟨by simp, H8.out⟩
set_option maxHeartbeats 16000000 in
set_option maxRecDepth 100000 in
theorem checks_long (L : BL) (N X N1 X1 : ByteArray) (n m p q : Nat) (u : Bool) (w : World) (sv : Value) (c1 c2 : Int) (PD : World → List Value → Prop)
    (hn : N.size = n)
    (hm : min n 100 = m)
    (hN1 : N.extract 0 m = N1)
    (hL : BA L = N1)
    (hp : X.size = p)
    (hq : min p 100 = q)
    (hX1 : X.extract 0 q = X1)
    (hI : IxW w)
    (hpar : ∀ W, Below w.heap.size w W → Calls Tryz.prog 10 #[.string X1] W fun e w' => ∃ sl ve, e = .returned (.tuple #[sl, ve]) ∧ EC w' ve c2 ∧ Below W.heap.size W w')
    (hchk : ∀ W, Below w.heap.size w W → Calls Tryz.prog 11 #[.agg #[.string N1, .string X1, .bool u]] W fun e w' => ∃ ve, e = .returned ve ∧ EC w' ve c1 ∧ Below W.heap.size W w')
    (hdoc : ∀ W, Below w.heap.size w W → Calls Tryz.prog 14 #[sv] W fun e w' => ∃ c, e = .returned (.agg c.toArray) ∧ PD w' c ∧ Below W.heap.size W w')
    (hsh : ∀ W c, PD W c → ∃ q0 q1 q2 q3 q4 q5 q6 q7 q8, c = [.int .i64 q0, .int .i64 q1, .string q2, .slice q3 q4 q5, .slice q6 q7 q8])
    (hkey : ∀ W c, Below w.heap.size w W → PD W c → Calls Tryz.prog 13 #[.agg #[.string N1, .string X1, .bool u], .agg c.toArray] W fun e w' => ∃ k has, e = .returned (.tuple #[.string k, .bool has]) ∧ (¬ c2 = 0 → has = false) ∧ Below W.heap.size W w')
    (hc1 : badName L → c1 = 5)
    (hc2 : ¬ badName L → c1 = c2) (hv : 16 < L.length) :
    Calls Tryz.prog 3 #[.agg #[.string N, .string X, .bool u], sv] w fun e w' => e = .returned (.bool true) ∧ Below w.heap.size w w' := by
  obtain ⟨W0, eW0⟩ : ∃ W, w.alloc (.cells #[.string N, .string X, .bool u] 23) = W := ⟨_, rfl⟩
  obtain ⟨P0, eP0⟩ : ∃ P, w.heap.size = P := ⟨_, rfl⟩
  have hb0 : Below w.heap.size w W0 := by rw [← eW0]; exact (Below.refl _ w).alloc (Nat.le_refl _) _
  have hk0 : Blk W0 P0 23 [.string N, .string X, .bool u] := by rw [← eW0, ← eP0]; exact heap_alloc_new w _
  have hmz : min (n : Int) 100 = (m : Int) := by omega
  have hqz : min (p : Int) 100 = (q : Int) := by omega
  have hmn : m ≤ n := by omega
  have hqp : q ≤ p := by omega
  have hmn' : (m : Int) ≤ (n : Int) := by omega
  have hqp' : (q : Int) ≤ (p : Int) := by omega
  have hs1 : N1.size = L.length := by rw [← hL, ba_size]
  have hL100 : L.length ≤ 100 := by
    have h1 : N1.size ≤ m := by rw [← hN1, ByteArray.size_extract]; omega
    omega
  have hgt : ∀ i (h : i < N1.size) (h2 : i < L.length), N1[i]'h = L[i] := by
    intro i h h2
    subst hL
    rfl
  have H0 := Lib.hid (And.intro eW0 (And.intro eP0 (And.intro hb0 (And.intro hk0 (And.intro hn (And.intro hm (And.intro hN1 (And.intro hL (And.intro hp (And.intro hq (And.intro hX1 (And.intro hI (And.intro hpar (And.intro hchk (And.intro hdoc (And.intro hsh (And.intro hkey (And.intro hc1 hc2))))))))))))))))))
  have HV := Lib.hid (And.intro hv (And.intro hs1 (And.intro hL100 hgt)))
  clear eW0 eP0 hb0 hk0 hm hL hq hI hpar hchk hdoc hsh hkey hc1 hc2 hv hs1 hL100 hgt
  go_enter Tryz.func3, Tryz.ntmps3
  go_wp2_with fail
  rw [H0.out.1, H0.out.2.1]
  refine (ixawake_any W0 (H0.out.2.2.2.2.2.2.2.2.2.2.2.1.below H0.out.2.2.1)).mono ?_
  rintro e w1 ⟨rfl, hb1⟩
  have H1 := Lib.hid (And.intro (H0.out.2.2.1.trans (hb1.mono H0.out.2.2.1.size)) (H0.out.2.2.2.1.below hb1))
  clear hb1
  go_wp2_with fail
  refine AnyP.begin (J := fun j => Nat.ble j 14) (S := fun W => Blk W P0 23 [.string N, .string X, .bool u]) (by kernel_rfl) rfl rfl ?_
  refine AnyP.takeP (i := 0) (v := .pointer (some ⟨P0, 0, none⟩)) rfl rfl (by kernel_rfl) (by kernel_rfl) (by kernel_rfl) (fun _ _ _ h => h) (by rfl) ?_ ?_
  · intro W
    go_simp
    try (with_reducible rfl)
  simp only [Act.put, List.setIfInBounds_toArray, List.set_cons_zero, List.set_cons_succ]
  refine AnyP.takeP (i := 2) (v := .pointer (some ⟨P0, 0, none⟩)) rfl rfl (by kernel_rfl) (by kernel_rfl) (by kernel_rfl) (fun _ _ _ h => h) (by rfl) ?_ ?_
  · intro W
    go_simp
    try (with_reducible rfl)
  simp only [Act.put, List.setIfInBounds_toArray, List.set_cons_zero, List.set_cons_succ]
  refine AnyP.takeP (i := 7) (v := .pointer (some ⟨P0, 1, none⟩)) rfl rfl (by kernel_rfl) (by kernel_rfl) (by kernel_rfl) (fun _ _ _ h => h) (by rfl) ?_ ?_
  · intro W
    go_simp
    try (with_reducible rfl)
  simp only [Act.put, List.setIfInBounds_toArray, List.set_cons_zero, List.set_cons_succ]
  refine AnyP.takeP (i := 9) (v := .pointer (some ⟨P0, 1, none⟩)) rfl rfl (by kernel_rfl) (by kernel_rfl) (by kernel_rfl) (fun _ _ _ h => h) (by rfl) ?_ ?_
  · intro W
    go_simp
    try (with_reducible rfl)
  simp only [Act.put, List.setIfInBounds_toArray, List.set_cons_zero, List.set_cons_succ]
  refine AnyP.takeT [3, 4, 5, 8, 10, 11, 12, 13] (by rfl) (i := 1) (v := .string N) rfl rfl (by kernel_rfl) (by kernel_rfl) (by kernel_rfl) (by kernel_rfl) (fun _ _ _ h => h) (by rfl) ?_ H1.out.2.drew ?_
  · intro W hW
    have n0 := hW.cell 0
    have n1 := hW.cell 1
    have n2 := hW.cell 2
    go_simp
    try (with_reducible rfl)
  simp only [Act.put, List.setIfInBounds_toArray, List.set_cons_zero, List.set_cons_succ]
  refine AnyP.takeT [8, 10, 11, 12, 13] (by rfl) (i := 3) (v := .string N) rfl rfl (by kernel_rfl) (by kernel_rfl) (by kernel_rfl) (by kernel_rfl) (fun _ _ _ h => h) (by rfl) ?_ H1.out.2.drew ?_
  · intro W hW
    have n0 := hW.cell 0
    have n1 := hW.cell 1
    have n2 := hW.cell 2
    go_simp
    try (with_reducible rfl)
  simp only [Act.put, List.setIfInBounds_toArray, List.set_cons_zero, List.set_cons_succ]
  refine AnyP.takeT [4, 5, 6, 10, 11, 12] (by rfl) (i := 8) (v := .string X) rfl rfl (by kernel_rfl) (by kernel_rfl) (by kernel_rfl) (by kernel_rfl) (fun _ _ _ h => h) (by rfl) ?_ H1.out.2.drew ?_
  · intro W hW
    have n0 := hW.cell 0
    have n1 := hW.cell 1
    have n2 := hW.cell 2
    go_simp
    try (with_reducible rfl)
  simp only [Act.put, List.setIfInBounds_toArray, List.set_cons_zero, List.set_cons_succ]
  refine AnyP.takeT [4, 5, 6] (by rfl) (i := 10) (v := .string X) rfl rfl (by kernel_rfl) (by kernel_rfl) (by kernel_rfl) (by kernel_rfl) (fun _ _ _ h => h) (by rfl) ?_ H1.out.2.drew ?_
  · intro W hW
    have n0 := hW.cell 0
    have n1 := hW.cell 1
    have n2 := hW.cell 2
    go_simp
    try (with_reducible rfl)
  simp only [Act.put, List.setIfInBounds_toArray, List.set_cons_zero, List.set_cons_succ]
  refine AnyP.takeP (i := 4) (v := .int .i64 (n : Int)) rfl rfl (by kernel_rfl) (by kernel_rfl) (by kernel_rfl) (fun _ _ _ h => h) (by rfl) ?_ ?_
  · intro W
    go_simp
    try (with_reducible rfl)
  simp only [Act.put, List.setIfInBounds_toArray, List.set_cons_zero, List.set_cons_succ]
  refine AnyP.takeP (i := 5) (v := .int .i64 (m : Int)) rfl rfl (by kernel_rfl) (by kernel_rfl) (by kernel_rfl) (fun _ _ _ h => h) (by rfl) ?_ ?_
  · intro W
    go_simp
    try (with_reducible rfl)
  simp only [Act.put, List.setIfInBounds_toArray, List.set_cons_zero, List.set_cons_succ]
  refine AnyP.takeP (i := 6) (v := .string N1) rfl rfl (by kernel_rfl) (by kernel_rfl) (by kernel_rfl) (fun _ _ _ h => h) (by rfl) ?_ ?_
  · intro W
    go_simp
    try (with_reducible rfl)
  simp only [Act.put, List.setIfInBounds_toArray, List.set_cons_zero, List.set_cons_succ]
  refine AnyP.takeP (i := 11) (v := .int .i64 (p : Int)) rfl rfl (by kernel_rfl) (by kernel_rfl) (by kernel_rfl) (fun _ _ _ h => h) (by rfl) ?_ ?_
  · intro W
    go_simp
    try (with_reducible rfl)
  simp only [Act.put, List.setIfInBounds_toArray, List.set_cons_zero, List.set_cons_succ]
  refine AnyP.takeP (i := 12) (v := .int .i64 (q : Int)) rfl rfl (by kernel_rfl) (by kernel_rfl) (by kernel_rfl) (fun _ _ _ h => h) (by rfl) ?_ ?_
  · intro W
    go_simp
    try (with_reducible rfl)
  simp only [Act.put, List.setIfInBounds_toArray, List.set_cons_zero, List.set_cons_succ]
  refine AnyP.takeP (i := 13) (v := .string X1) rfl rfl (by kernel_rfl) (by kernel_rfl) (by kernel_rfl) (fun _ _ _ h => h) (by rfl) ?_ ?_
  · intro W
    go_simp
    try (with_reducible rfl)
  simp only [Act.put, List.setIfInBounds_toArray, List.set_cons_zero, List.set_cons_succ]
  refine AnyP.takeP (i := 14) (v := .pointer (some ⟨P0, 0, none⟩)) rfl rfl (by kernel_rfl) (by kernel_rfl) (by kernel_rfl) (fun _ _ _ h => h) (by rfl) ?_ ?_
  · intro W
    go_simp
    try (with_reducible rfl)
  simp only [Act.put, List.setIfInBounds_toArray, List.set_cons_zero, List.set_cons_succ]
  have n0 := H1.out.2.drew.frozen 0
  have n1 := H1.out.2.drew.frozen 1
  have n2 := H1.out.2.drew.cell 0
  have n3 := H1.out.2.drew.cell 1
  refine AnyP.oneL (i := 15) (by kernel_rfl) rfl (fun K hK => ?_)
  go_simp
  refine hK.out _ _ (fun h => by cases h) ?_
  clear hK K
  (try simp only [Act.put, List.setIfInBounds_toArray, List.set_cons_zero, List.set_cons_succ])
  refine AnyP.takeP (i := 16) (v := .pointer (some ⟨P0, 1, none⟩)) rfl rfl (by kernel_rfl) (by kernel_rfl) (by kernel_rfl) (fun _ _ _ h => h) (by rfl) ?_ ?_
  · intro W
    go_simp
    try (with_reducible rfl)
  simp only [Act.put, List.setIfInBounds_toArray, List.set_cons_zero, List.set_cons_succ]
  have m0 := H1.out.2.frozen 1
  have m1 := H1.out.2.cell 1
  refine AnyP.oneL (i := 17) (by kernel_rfl) rfl (fun K hK => ?_)
  go_simp
  refine hK.out _ _ (fun h => by cases h) ?_
  clear hK K
  (try simp only [Act.put, List.setIfInBounds_toArray, List.set_cons_zero, List.set_cons_succ])
  refine AnyP.done (by kernel_rfl) ?_
  obtain ⟨W2, hW2⟩ : ∃ W, ((w1.setCell ⟨P0, 0, none⟩ (.string N1)).setCell ⟨P0, 1, none⟩ (.string X1)).drew = W := ⟨_, rfl⟩
  have hk2 : Blk W2 P0 23 [.string N1, .string X1, .bool u] := by rw [← hW2]; exact ((H1.out.2.set 0 (.string N1)).set 1 (.string X1)).drew
  have ho2 : Only (fun x => x = P0) w1 W2 := by rw [← hW2]; exact ((Only.set1 _ P0 0 _).trans (Only.set1 _ P0 1 _)).trans (Only.drew _ _)
  have hb2 : Below w.heap.size w W2 := H1.out.1.trans (ho2.below H1.out.1.size (fun k hk e => by have := H0.out.2.1; omega))
  have HR := Lib.hid (And.intro hb2 hk2)
  clear n0 n1 n2 n3 m0 m1 hmz hqz hmn hqp hmn' hqp' hn hp hN1 hX1 ho2 hb2 hk2
  rw [hW2]
  clear hW2
  have c0 := HR.out.2.cell 0
  have hne : N1.toList.isEmpty = false := by
    rw [Lib.toList_data]
    have h3 : N1.size = N1.data.toList.length := by rw [Array.length_toList]; rfl
    have := HV.out.2.1
    have := HV.out.1
    cases h : N1.data.toList with
    | nil => rw [h, List.length_nil] at h3; omega
    | cons _ _ => rfl
  obtain ⟨s1, hs1⟩ : ∃ s, N1.size = s := ⟨_, rfl⟩
  have hs16 : (16 : Int) < (s1 : Int) := by have := HV.out.2.1; have := HV.out.1; omega
  have hs100 : s1 ≤ 100 := by have := HV.out.2.1; have := HV.out.2.2.1; omega
  go_wp2_with fail
  go_loopg [5, 6] s1 (fun gk bv iv wr => ∃ i : Nat, gk + i = s1 ∧ bv = .bool true ∧ iv = .int .i64 i ∧ wr = W2)
  case atStart => exact ⟨0, by omega, rfl, rfl, rfl⟩
  case round =>
    obtain ⟨i, hg, rfl, rfl, rfl⟩ := hrel
    by_cases hi : i < s1
    · have hiz : (i : Int) < (s1 : Int) := by omega
      have his : i < N1.size := by omega
      have hwK : IntKind.i64.wrap ((i : Int) + 1) = ((i + 1 : Nat) : Int) := by rw [IntWalk.i64_in _ (by omega)]; omega
      obtain ⟨b, hb⟩ : ∃ b, N1[i]'his = b := ⟨_, rfl⟩
      go_wp2
      go_roundg (gk - 1)
      case rel => exact ⟨i + 1, by omega, rfl, rfl, rfl⟩
      case measure => omega
    · have hiz : ¬ (i : Int) < (s1 : Int) := by omega
      have HBN := Lib.hid (show badName L from .inr (.inr HV.out.1))
      clear c0
      have c0 := HR.out.2.cell 0
      have c1' := HR.out.2.cell 1
      have c2' := HR.out.2.cell 2
      go_wp2_with fail
      refine (show Calls _ _ _ _ _ from H0.out.2.2.2.2.2.2.2.2.2.2.2.2.1 _ HR.out.1).mono ?_
      rintro e w3 ⟨sl, ve, rfl, hec, hb3⟩
      have H3 := Lib.hid (And.intro (HR.out.1.trans (hb3.mono HR.out.1.size)) (And.intro (HR.out.2.below hb3) hec))
      clear hb3 hec c0 c1' c2'
      have c0 := H3.out.2.1.cell 0
      have c1' := H3.out.2.1.cell 1
      have c2' := H3.out.2.1.cell 2
      go_wp2_with fail
      refine (show Calls _ _ _ _ _ from H0.out.2.2.2.2.2.2.2.2.2.2.2.2.2.1 _ H3.out.1).mono ?_
      rintro e w4 ⟨vr, rfl, hec, hb4⟩
      have H4 := Lib.hid (And.intro (H3.out.1.trans (hb4.mono H3.out.1.size)) (And.intro (H3.out.2.1.below hb4) (And.intro (H3.out.2.2.later hb4) hec)))
      clear hb4 hec c0 c1' c2'
      go_wp2_with fail
      refine (show Calls _ _ _ _ _ from H4.out.2.2.2.code (H0.out.2.2.2.2.2.2.2.2.2.2.2.1.errt.below H4.out.1)).mono ?_
      rintro e w8 ⟨rfl, hb8⟩
      have H8 := Lib.hid (H4.out.1.trans (hb8.mono H4.out.1.size))
      have hc5 : c1 = 5 := H0.out.2.2.2.2.2.2.2.2.2.2.2.2.2.2.2.2.2.1 HBN.out
      clear hb8
      go_wp2
      go_ret
      exact ⟨by simp, H8.out⟩
set_option maxHeartbeats 16000000 in
set_option maxRecDepth 100000 in
theorem checks_short (L : BL) (N X N1 X1 : ByteArray) (n m p q : Nat) (u : Bool) (w : World) (sv : Value) (c1 c2 : Int) (PD : World → List Value → Prop)
    (hn : N.size = n)
    (hm : min n 100 = m)
    (hN1 : N.extract 0 m = N1)
    (hL : BA L = N1)
    (hp : X.size = p)
    (hq : min p 100 = q)
    (hX1 : X.extract 0 q = X1)
    (hI : IxW w)
    (hpar : ∀ W, Below w.heap.size w W → Calls Tryz.prog 10 #[.string X1] W fun e w' => ∃ sl ve, e = .returned (.tuple #[sl, ve]) ∧ EC w' ve c2 ∧ Below W.heap.size W w')
    (hchk : ∀ W, Below w.heap.size w W → Calls Tryz.prog 11 #[.agg #[.string N1, .string X1, .bool u]] W fun e w' => ∃ ve, e = .returned ve ∧ EC w' ve c1 ∧ Below W.heap.size W w')
    (hdoc : ∀ W, Below w.heap.size w W → Calls Tryz.prog 14 #[sv] W fun e w' => ∃ c, e = .returned (.agg c.toArray) ∧ PD w' c ∧ Below W.heap.size W w')
    (hsh : ∀ W c, PD W c → ∃ q0 q1 q2 q3 q4 q5 q6 q7 q8, c = [.int .i64 q0, .int .i64 q1, .string q2, .slice q3 q4 q5, .slice q6 q7 q8])
    (hkey : ∀ W c, Below w.heap.size w W → PD W c → Calls Tryz.prog 13 #[.agg #[.string N1, .string X1, .bool u], .agg c.toArray] W fun e w' => ∃ k has, e = .returned (.tuple #[.string k, .bool has]) ∧ (¬ c2 = 0 → has = false) ∧ Below W.heap.size W w')
    (hc1 : badName L → c1 = 5)
    (hc2 : ¬ badName L → c1 = c2) (hv : 1 ≤ L.length ∧ L.length ≤ 16) :
    Calls Tryz.prog 3 #[.agg #[.string N, .string X, .bool u], sv] w fun e w' => e = .returned (.bool true) ∧ Below w.heap.size w w' := by
  obtain ⟨W0, eW0⟩ : ∃ W, w.alloc (.cells #[.string N, .string X, .bool u] 23) = W := ⟨_, rfl⟩
  obtain ⟨P0, eP0⟩ : ∃ P, w.heap.size = P := ⟨_, rfl⟩
  have hb0 : Below w.heap.size w W0 := by rw [← eW0]; exact (Below.refl _ w).alloc (Nat.le_refl _) _
  have hk0 : Blk W0 P0 23 [.string N, .string X, .bool u] := by rw [← eW0, ← eP0]; exact heap_alloc_new w _
  have hmz : min (n : Int) 100 = (m : Int) := by omega
  have hqz : min (p : Int) 100 = (q : Int) := by omega
  have hmn : m ≤ n := by omega
  have hqp : q ≤ p := by omega
  have hmn' : (m : Int) ≤ (n : Int) := by omega
  have hqp' : (q : Int) ≤ (p : Int) := by omega
  have hs1 : N1.size = L.length := by rw [← hL, ba_size]
  have hL100 : L.length ≤ 100 := by
    have h1 : N1.size ≤ m := by rw [← hN1, ByteArray.size_extract]; omega
    omega
  have hgt : ∀ i (h : i < N1.size) (h2 : i < L.length), N1[i]'h = L[i] := by
    intro i h h2
    subst hL
    rfl
  have H0 := Lib.hid (And.intro eW0 (And.intro eP0 (And.intro hb0 (And.intro hk0 (And.intro hn (And.intro hm (And.intro hN1 (And.intro hL (And.intro hp (And.intro hq (And.intro hX1 (And.intro hI (And.intro hpar (And.intro hchk (And.intro hdoc (And.intro hsh (And.intro hkey (And.intro hc1 hc2))))))))))))))))))
  have HV := Lib.hid (And.intro hv (And.intro hs1 (And.intro hL100 hgt)))
  clear eW0 eP0 hb0 hk0 hm hL hq hI hpar hchk hdoc hsh hkey hc1 hc2 hv hs1 hL100 hgt
  go_enter Tryz.func3, Tryz.ntmps3
  go_wp2_with fail
  rw [H0.out.1, H0.out.2.1]
  refine (ixawake_any W0 (H0.out.2.2.2.2.2.2.2.2.2.2.2.1.below H0.out.2.2.1)).mono ?_
  rintro e w1 ⟨rfl, hb1⟩
  have H1 := Lib.hid (And.intro (H0.out.2.2.1.trans (hb1.mono H0.out.2.2.1.size)) (H0.out.2.2.2.1.below hb1))
  clear hb1
  go_wp2_with fail
  refine AnyP.begin (J := fun j => Nat.ble j 14) (S := fun W => Blk W P0 23 [.string N, .string X, .bool u]) (by kernel_rfl) rfl rfl ?_
  refine AnyP.takeP (i := 0) (v := .pointer (some ⟨P0, 0, none⟩)) rfl rfl (by kernel_rfl) (by kernel_rfl) (by kernel_rfl) (fun _ _ _ h => h) (by rfl) ?_ ?_
  · intro W
    go_simp
    try (with_reducible rfl)
  simp only [Act.put, List.setIfInBounds_toArray, List.set_cons_zero, List.set_cons_succ]
  refine AnyP.takeP (i := 2) (v := .pointer (some ⟨P0, 0, none⟩)) rfl rfl (by kernel_rfl) (by kernel_rfl) (by kernel_rfl) (fun _ _ _ h => h) (by rfl) ?_ ?_
  · intro W
    go_simp
    try (with_reducible rfl)
  simp only [Act.put, List.setIfInBounds_toArray, List.set_cons_zero, List.set_cons_succ]
  refine AnyP.takeP (i := 7) (v := .pointer (some ⟨P0, 1, none⟩)) rfl rfl (by kernel_rfl) (by kernel_rfl) (by kernel_rfl) (fun _ _ _ h => h) (by rfl) ?_ ?_
  · intro W
    go_simp
    try (with_reducible rfl)
  simp only [Act.put, List.setIfInBounds_toArray, List.set_cons_zero, List.set_cons_succ]
  refine AnyP.takeP (i := 9) (v := .pointer (some ⟨P0, 1, none⟩)) rfl rfl (by kernel_rfl) (by kernel_rfl) (by kernel_rfl) (fun _ _ _ h => h) (by rfl) ?_ ?_
  · intro W
    go_simp
    try (with_reducible rfl)
  simp only [Act.put, List.setIfInBounds_toArray, List.set_cons_zero, List.set_cons_succ]
  refine AnyP.takeT [3, 4, 5, 8, 10, 11, 12, 13] (by rfl) (i := 1) (v := .string N) rfl rfl (by kernel_rfl) (by kernel_rfl) (by kernel_rfl) (by kernel_rfl) (fun _ _ _ h => h) (by rfl) ?_ H1.out.2.drew ?_
  · intro W hW
    have n0 := hW.cell 0
    have n1 := hW.cell 1
    have n2 := hW.cell 2
    go_simp
    try (with_reducible rfl)
  simp only [Act.put, List.setIfInBounds_toArray, List.set_cons_zero, List.set_cons_succ]
  refine AnyP.takeT [8, 10, 11, 12, 13] (by rfl) (i := 3) (v := .string N) rfl rfl (by kernel_rfl) (by kernel_rfl) (by kernel_rfl) (by kernel_rfl) (fun _ _ _ h => h) (by rfl) ?_ H1.out.2.drew ?_
  · intro W hW
    have n0 := hW.cell 0
    have n1 := hW.cell 1
    have n2 := hW.cell 2
    go_simp
    try (with_reducible rfl)
  simp only [Act.put, List.setIfInBounds_toArray, List.set_cons_zero, List.set_cons_succ]
  refine AnyP.takeT [4, 5, 6, 10, 11, 12] (by rfl) (i := 8) (v := .string X) rfl rfl (by kernel_rfl) (by kernel_rfl) (by kernel_rfl) (by kernel_rfl) (fun _ _ _ h => h) (by rfl) ?_ H1.out.2.drew ?_
  · intro W hW
    have n0 := hW.cell 0
    have n1 := hW.cell 1
    have n2 := hW.cell 2
    go_simp
    try (with_reducible rfl)
  simp only [Act.put, List.setIfInBounds_toArray, List.set_cons_zero, List.set_cons_succ]
  refine AnyP.takeT [4, 5, 6] (by rfl) (i := 10) (v := .string X) rfl rfl (by kernel_rfl) (by kernel_rfl) (by kernel_rfl) (by kernel_rfl) (fun _ _ _ h => h) (by rfl) ?_ H1.out.2.drew ?_
  · intro W hW
    have n0 := hW.cell 0
    have n1 := hW.cell 1
    have n2 := hW.cell 2
    go_simp
    try (with_reducible rfl)
  simp only [Act.put, List.setIfInBounds_toArray, List.set_cons_zero, List.set_cons_succ]
  refine AnyP.takeP (i := 4) (v := .int .i64 (n : Int)) rfl rfl (by kernel_rfl) (by kernel_rfl) (by kernel_rfl) (fun _ _ _ h => h) (by rfl) ?_ ?_
  · intro W
    go_simp
    try (with_reducible rfl)
  simp only [Act.put, List.setIfInBounds_toArray, List.set_cons_zero, List.set_cons_succ]
  refine AnyP.takeP (i := 5) (v := .int .i64 (m : Int)) rfl rfl (by kernel_rfl) (by kernel_rfl) (by kernel_rfl) (fun _ _ _ h => h) (by rfl) ?_ ?_
  · intro W
    go_simp
    try (with_reducible rfl)
  simp only [Act.put, List.setIfInBounds_toArray, List.set_cons_zero, List.set_cons_succ]
  refine AnyP.takeP (i := 6) (v := .string N1) rfl rfl (by kernel_rfl) (by kernel_rfl) (by kernel_rfl) (fun _ _ _ h => h) (by rfl) ?_ ?_
  · intro W
    go_simp
    try (with_reducible rfl)
  simp only [Act.put, List.setIfInBounds_toArray, List.set_cons_zero, List.set_cons_succ]
  refine AnyP.takeP (i := 11) (v := .int .i64 (p : Int)) rfl rfl (by kernel_rfl) (by kernel_rfl) (by kernel_rfl) (fun _ _ _ h => h) (by rfl) ?_ ?_
  · intro W
    go_simp
    try (with_reducible rfl)
  simp only [Act.put, List.setIfInBounds_toArray, List.set_cons_zero, List.set_cons_succ]
  refine AnyP.takeP (i := 12) (v := .int .i64 (q : Int)) rfl rfl (by kernel_rfl) (by kernel_rfl) (by kernel_rfl) (fun _ _ _ h => h) (by rfl) ?_ ?_
  · intro W
    go_simp
    try (with_reducible rfl)
  simp only [Act.put, List.setIfInBounds_toArray, List.set_cons_zero, List.set_cons_succ]
  refine AnyP.takeP (i := 13) (v := .string X1) rfl rfl (by kernel_rfl) (by kernel_rfl) (by kernel_rfl) (fun _ _ _ h => h) (by rfl) ?_ ?_
  · intro W
    go_simp
    try (with_reducible rfl)
  simp only [Act.put, List.setIfInBounds_toArray, List.set_cons_zero, List.set_cons_succ]
  refine AnyP.takeP (i := 14) (v := .pointer (some ⟨P0, 0, none⟩)) rfl rfl (by kernel_rfl) (by kernel_rfl) (by kernel_rfl) (fun _ _ _ h => h) (by rfl) ?_ ?_
  · intro W
    go_simp
    try (with_reducible rfl)
  simp only [Act.put, List.setIfInBounds_toArray, List.set_cons_zero, List.set_cons_succ]
  have n0 := H1.out.2.drew.frozen 0
  have n1 := H1.out.2.drew.frozen 1
  have n2 := H1.out.2.drew.cell 0
  have n3 := H1.out.2.drew.cell 1
  refine AnyP.oneL (i := 15) (by kernel_rfl) rfl (fun K hK => ?_)
  go_simp
  refine hK.out _ _ (fun h => by cases h) ?_
  clear hK K
  (try simp only [Act.put, List.setIfInBounds_toArray, List.set_cons_zero, List.set_cons_succ])
  refine AnyP.takeP (i := 16) (v := .pointer (some ⟨P0, 1, none⟩)) rfl rfl (by kernel_rfl) (by kernel_rfl) (by kernel_rfl) (fun _ _ _ h => h) (by rfl) ?_ ?_
  · intro W
    go_simp
    try (with_reducible rfl)
  simp only [Act.put, List.setIfInBounds_toArray, List.set_cons_zero, List.set_cons_succ]
  have m0 := H1.out.2.frozen 1
  have m1 := H1.out.2.cell 1
  refine AnyP.oneL (i := 17) (by kernel_rfl) rfl (fun K hK => ?_)
  go_simp
  refine hK.out _ _ (fun h => by cases h) ?_
  clear hK K
  (try simp only [Act.put, List.setIfInBounds_toArray, List.set_cons_zero, List.set_cons_succ])
  refine AnyP.done (by kernel_rfl) ?_
  obtain ⟨W2, hW2⟩ : ∃ W, ((w1.setCell ⟨P0, 0, none⟩ (.string N1)).setCell ⟨P0, 1, none⟩ (.string X1)).drew = W := ⟨_, rfl⟩
  have hk2 : Blk W2 P0 23 [.string N1, .string X1, .bool u] := by rw [← hW2]; exact ((H1.out.2.set 0 (.string N1)).set 1 (.string X1)).drew
  have ho2 : Only (fun x => x = P0) w1 W2 := by rw [← hW2]; exact ((Only.set1 _ P0 0 _).trans (Only.set1 _ P0 1 _)).trans (Only.drew _ _)
  have hb2 : Below w.heap.size w W2 := H1.out.1.trans (ho2.below H1.out.1.size (fun k hk e => by have := H0.out.2.1; omega))
  have HR := Lib.hid (And.intro hb2 hk2)
  clear n0 n1 n2 n3 m0 m1 hmz hqz hmn hqp hmn' hqp' hn hp hN1 hX1 ho2 hb2 hk2
  rw [hW2]
  clear hW2
  have c0 := HR.out.2.cell 0
  have hne : N1.toList.isEmpty = false := by
    rw [Lib.toList_data]
    have h3 : N1.size = N1.data.toList.length := by rw [Array.length_toList]; rfl
    have := HV.out.2.1
    have := HV.out.1
    cases h : N1.data.toList with
    | nil => rw [h, List.length_nil] at h3; omega
    | cons _ _ => rfl
  obtain ⟨s1, hs1⟩ : ∃ s, N1.size = s := ⟨_, rfl⟩
  have hs16 : ¬ (16 : Int) < (s1 : Int) := by have := HV.out.2.1; have := HV.out.1; omega
  have hs100 : s1 ≤ 100 := by have := HV.out.2.1; have := HV.out.2.2.1; omega
  go_wp2_with fail
  go_loopg [5, 6] s1 (fun gk bv iv wr => ∃ i : Nat, gk + i = s1 ∧ bv = .bool (oddB (L.take i)) ∧ iv = .int .i64 i ∧ wr = W2)
  case atStart => exact ⟨0, by omega, by rfl, rfl, rfl⟩
  case round =>
    obtain ⟨i, hg, rfl, rfl, rfl⟩ := hrel
    by_cases hi : i < s1
    · have hiz : (i : Int) < (s1 : Int) := by omega
      have his : i < N1.size := by omega
      have hil : i < L.length := by have := HV.out.2.1; omega
      have hwK : IntKind.i64.wrap ((i : Int) + 1) = ((i + 1 : Nat) : Int) := by rw [IntWalk.i64_in _ (by omega)]; omega
      have hbl := HV.out.2.2.2 i his hil
      obtain ⟨b, hb⟩ : ∃ b, N1[i]'his = b := ⟨_, rfl⟩
      have HO := Lib.hid (show oddB (L.take (i + 1)) = (oddB (L.take i) || !signB b.toNat) by rw [oddB_take L i hil, ← hbl, hb])
      clear hbl
      obtain ⟨od, hod⟩ : ∃ od, oddB (L.take i) = od := ⟨_, rfl⟩
      obtain ⟨z, hz⟩ : ∃ z, b.toNat = z := ⟨_, rfl⟩
      rw [hod, hz] at HO
      have HQ := Lib.hid (And.intro hod (show (97 ≤ z ∧ z ≤ 122 ∨ 48 ≤ z ∧ z ≤ 57 ∨ z = 95) ↔ signB z = true from by unfold signB; rw [decide_eq_true_iff]))
      rw [hod]
      clear hod
      cases od with
      | true =>
        clear hz
        go_wp2
        go_roundg (gk - 1)
        case rel => exact ⟨i + 1, by omega, by rw [HO.out]; first | rfl | simp [h5], rfl, rfl⟩
        case measure => omega
      | false =>
        by_cases h1 : (97 : Int) ≤ (z : Int) <;> by_cases h2 : (z : Int) ≤ 122 <;> by_cases h3 : (48 : Int) ≤ (z : Int) <;> by_cases h4 : (z : Int) ≤ 57 <;> by_cases h5 : (z : Int) = 95 <;> first
          | (exfalso; omega)
          | (have hs : signB z = true := HQ.out.2.1 (by omega)
             rw [hs] at HO
             go_wp2
             go_roundg (gk - 1)
             case rel => exact ⟨i + 1, by omega, by rw [HO.out]; first | rfl | simp [h5], rfl, rfl⟩
             case measure => omega)
          | (have hs : signB z = false := by
               cases hq : signB z with
               | false => rfl
               | true => exfalso; have := HQ.out.2.2 hq; omega
             rw [hs] at HO
             go_wp2
             go_roundg (gk - 1)
             case rel => exact ⟨i + 1, by omega, by rw [HO.out]; first | rfl | simp [h5], rfl, rfl⟩
             case measure => omega)
    · have hiz : ¬ (i : Int) < (s1 : Int) := by omega
      have hall : oddB (L.take i) = oddB L := oddB_all L i (by have := HV.out.2.1; omega)
      rw [hall]
      clear hall c0
      have c0 := HR.out.2.cell 0
      have c1' := HR.out.2.cell 1
      have c2' := HR.out.2.cell 2
      go_wp2_with fail
      refine (show Calls _ _ _ _ _ from H0.out.2.2.2.2.2.2.2.2.2.2.2.2.1 _ HR.out.1).mono ?_
      rintro e w3 ⟨sl, ve, rfl, hec, hb3⟩
      have H3 := Lib.hid (And.intro (HR.out.1.trans (hb3.mono HR.out.1.size)) (And.intro (HR.out.2.below hb3) hec))
      clear hb3 hec c0 c1' c2'
      have c0 := H3.out.2.1.cell 0
      have c1' := H3.out.2.1.cell 1
      have c2' := H3.out.2.1.cell 2
      go_wp2_with fail
      refine (show Calls _ _ _ _ _ from H0.out.2.2.2.2.2.2.2.2.2.2.2.2.2.1 _ H3.out.1).mono ?_
      rintro e w4 ⟨vr, rfl, hec, hb4⟩
      have H4 := Lib.hid (And.intro (H3.out.1.trans (hb4.mono H3.out.1.size)) (And.intro (H3.out.2.1.below hb4) (And.intro (H3.out.2.2.later hb4) hec)))
      clear hb4 hec c0 c1' c2'
      cases hod : oddB L with
      | true =>
        have HBN := Lib.hid (show badName L from .inl hod)
        clear hod
        go_wp2_with fail
        refine (show Calls _ _ _ _ _ from H4.out.2.2.2.code (H0.out.2.2.2.2.2.2.2.2.2.2.2.1.errt.below H4.out.1)).mono ?_
        rintro e w8 ⟨rfl, hb8⟩
        have H8 := Lib.hid (H4.out.1.trans (hb8.mono H4.out.1.size))
        have hc5 : c1 = 5 := H0.out.2.2.2.2.2.2.2.2.2.2.2.2.2.2.2.2.2.1 HBN.out
        clear hb8
        go_wp2
        go_ret
        exact ⟨by simp, H8.out⟩
      | false =>
        have HCC := Lib.hid (H0.out.2.2.2.2.2.2.2.2.2.2.2.2.2.2.2.2.2.2 (show ¬ badName L from by
          rintro (h | h | h)
          · rw [hod] at h; cases h
          · have := HV.out.1.1; rw [h] at this; simp at this
          · have := HV.out.1.2; omega))
        clear hod
        have H5 := Lib.hid (show Below w.heap.size w w4.drew ∧ Blk w4.drew P0 23 [.string N1, .string X1, .bool u] ∧ EC w4.drew ve c2 ∧ EC w4.drew vr c1 from ⟨H4.out.1.drew, H4.out.2.1, H4.out.2.2.1.later (Below.refl _ w4).drew, H4.out.2.2.2.later (Below.refl _ w4).drew⟩)
        go_wp2_with fail
        refine AnyP.begin (J := fun j => Nat.ble j 2) (S := fun W => Blk W P0 23 [.string N1, .string X1, .bool u]) (by kernel_rfl) rfl rfl ?_
        refine AnyP.takeT [1, 2] (by rfl) (i := 0) (v := .agg #[.string N1, .string X1, .bool u]) rfl rfl (by kernel_rfl) (by kernel_rfl) (by kernel_rfl) (by kernel_rfl) (fun _ _ _ h => h) (by rfl) ?_ H5.out.2.1 ?_
        · intro W hW
          have n0 := hW.cell 0
          have n1 := hW.cell 1
          have n2 := hW.cell 2
          go_simp
          try (with_reducible rfl)
        simp only [Act.put, List.setIfInBounds_toArray, List.set_cons_zero, List.set_cons_succ]
        refine AnyP.takeP (i := 1) (v := sv) rfl rfl (by kernel_rfl) (by kernel_rfl) (by kernel_rfl) (fun _ _ _ h => h) (by rfl) ?_ ?_
        · intro W
          go_simp
          try (with_reducible rfl)
        simp only [Act.put, List.setIfInBounds_toArray, List.set_cons_zero, List.set_cons_succ]
        refine AnyP.oneL (i := 2) (by kernel_rfl) rfl (fun K hK => ?_)
        go_simp
        go_at_call 14
        refine (show Calls _ _ _ _ _ from H0.out.2.2.2.2.2.2.2.2.2.2.2.2.2.2.1 _ H5.out.1).mono ?_
        rintro e w6 ⟨cc, rfl, hd, hb6⟩
        obtain ⟨q0, q1, q2, q3, q4, q5, q6, q7, q8, rfl⟩ := H0.out.2.2.2.2.2.2.2.2.2.2.2.2.2.2.2.1 _ _ hd
        have H6 := Lib.hid (And.intro (H5.out.1.trans (hb6.mono H5.out.1.size)) (And.intro hd (And.intro (H5.out.2.2.1.later hb6) (H5.out.2.2.2.later hb6))))
        have HB := Lib.hid hb6
        clear hd hb6
        refine hK.out _ _ (fun _ h => h.below HB.out) ?_
        clear hK K
        (try simp only [Act.put, List.setIfInBounds_toArray, List.set_cons_zero, List.set_cons_succ])
        refine AnyP.oneL (i := 3) (by kernel_rfl) rfl (fun K hK => ?_)
        go_simp
        go_at_call 13
        refine (show Calls _ _ _ _ _ from H0.out.2.2.2.2.2.2.2.2.2.2.2.2.2.2.2.2.1 _ _ H6.out.1 H6.out.2.1).mono ?_
        rintro e w7 ⟨ky, has, rfl, hhas, hb7⟩
        have H7 := Lib.hid (And.intro (H6.out.1.trans (hb7.mono H6.out.1.size)) (And.intro hhas (And.intro (H6.out.2.2.1.later hb7) (H6.out.2.2.2.later hb7))))
        clear hhas hb7
        refine hK.out _ _ (fun h => by cases h) ?_
        clear hK K
        (try simp only [Act.put, List.setIfInBounds_toArray, List.set_cons_zero, List.set_cons_succ])
        refine AnyP.takeP (i := 4) (v := .tuple #[.string ky, .bool has]) rfl rfl (by kernel_rfl) (by kernel_rfl) (by kernel_rfl) (fun _ _ _ h => h) (by rfl) ?_ ?_
        · intro W
          go_simp
          try (with_reducible rfl)
        simp only [Act.put, List.setIfInBounds_toArray, List.set_cons_zero, List.set_cons_succ]
        refine AnyP.takeP (i := 5) (v := .string ky) rfl rfl (by kernel_rfl) (by kernel_rfl) (by kernel_rfl) (fun _ _ _ h => h) (by rfl) ?_ ?_
        · intro W
          go_simp
          try (with_reducible rfl)
        simp only [Act.put, List.setIfInBounds_toArray, List.set_cons_zero, List.set_cons_succ]
        refine AnyP.takeP (i := 6) (v := .bool has) rfl rfl (by kernel_rfl) (by kernel_rfl) (by kernel_rfl) (fun _ _ _ h => h) (by rfl) ?_ ?_
        · intro W
          go_simp
          try (with_reducible rfl)
        simp only [Act.put, List.setIfInBounds_toArray, List.set_cons_zero, List.set_cons_succ]
        refine AnyP.takeP (i := 7) (v := .string ky) rfl rfl (by kernel_rfl) (by kernel_rfl) (by kernel_rfl) (fun _ _ _ h => h) (by rfl) ?_ ?_
        · intro W
          go_simp
          try (with_reducible rfl)
        simp only [Act.put, List.setIfInBounds_toArray, List.set_cons_zero, List.set_cons_succ]
        refine AnyP.takeP (i := 8) (v := .bool has) rfl rfl (by kernel_rfl) (by kernel_rfl) (by kernel_rfl) (fun _ _ _ h => h) (by rfl) ?_ ?_
        · intro W
          go_simp
          try (with_reducible rfl)
        simp only [Act.put, List.setIfInBounds_toArray, List.set_cons_zero, List.set_cons_succ]
        refine AnyP.done (by kernel_rfl) ?_
        go_wp2_with fail
        refine (show Calls _ _ _ _ _ from H7.out.2.2.2.code (H0.out.2.2.2.2.2.2.2.2.2.2.2.1.errt.below H7.out.1)).mono ?_
        rintro e w8 ⟨rfl, hb8⟩
        have H8 := Lib.hid (And.intro (H7.out.1.trans (hb8.mono H7.out.1.size)) (H7.out.2.2.1.later hb8))
        clear hb8
        go_wp2_with fail
        refine (show Calls _ _ _ _ _ from H8.out.2.code (H0.out.2.2.2.2.2.2.2.2.2.2.2.1.errt.below H8.out.1)).mono ?_
        rintro e w9 ⟨rfl, hb9⟩
        have H9 := Lib.hid (H8.out.1.trans (hb9.mono H8.out.1.size))
        clear hb9
        rcases H8.out.2.nil with ⟨rfl, h0⟩ | ⟨⟨tt, uu, rfl⟩, h0⟩
        · have hcc : c1 = c2 := HCC.out
          clear h0
          go_wp2
          go_ret
          exact ⟨by simp, H9.out⟩
        · have hhs := H7.out.2.1 h0
          subst hhs
          have hcc : c1 = c2 := HCC.out
          clear h0
          go_wp2
          go_ret
          exact ⟨by simp, H9.out⟩
end Go.Proofs.YtecnjifincahaaaGreatDoor
