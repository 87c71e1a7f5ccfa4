/- Records found by their numbers. -/
import Derived.Test.YtecnjifincahaaaGreatDoorIzB
namespace Go.Proofs.YtecnjifincahaaaGreatDoor
open Go.Shelf Go.RowKit Go.Lib

theorem docsC_len : ∀ (l : List DocT), (∀ t ∈ l, t.c.length = 5) → (docsC l).length = l.length * 6
  | [], _ => rfl
  | t :: l, h => by
    rw [docsC, List.length_append, docsC_len l (fun x hx => h x (List.mem_cons_of_mem _ hx)), List.length_cons, List.length_cons, h t (List.mem_cons_self ..)]
    omega
theorem docsC_at : ∀ (l : List DocT), (∀ t ∈ l, t.c.length = 5) → ∀ (i : Nat) (h : i < l.length), (docsC l)[i * 6]? = some (.int .i64 l[i].id) ∧ ∀ j, j < 5 → (docsC l)[i * 6 + 1 + j]? = l[i].c[j]?
  | [], _, _, h => absurd h (by simp)
  | t :: l, hc, 0, _ => by
    refine ⟨by simp [docsC], fun j hj => ?_⟩
    have h5 := hc t (List.mem_cons_self ..)
    rw [docsC, List.getElem?_append_left (by rw [List.length_cons, h5]; omega)]
    rw [show 0 * 6 + 1 + j = j + 1 by omega, List.getElem?_cons_succ]
    rfl
  | t :: l, hc, i + 1, h => by
    have h2 := docsC_at l (fun x hx => hc x (List.mem_cons_of_mem _ hx)) i (by simpa using h)
    have h5 := hc t (List.mem_cons_self ..)
    have hl : (Value.int .i64 t.id :: t.c).length = 6 := by rw [List.length_cons, h5]
    refine ⟨?_, fun j hj => ?_⟩
    · rw [docsC, List.getElem?_append_right (by rw [hl]; omega), hl, show (i + 1) * 6 - 6 = i * 6 by omega]
      exact h2.1
    · rw [docsC, List.getElem?_append_right (by rw [hl]; omega), hl, show (i + 1) * 6 + 1 + j - 6 = i * 6 + 1 + j by omega]
      exact h2.2 j hj
theorem vat_five {S : Nat → Prop} {w : World} {v : V} {c : List Value} (h : VAt S w v c) : c.length = 5 := by
  obtain ⟨_, _, _, _, _, _, _, _, _, rfl⟩ := h.shape
  rfl
/-- the heap's row, cell by cell. -/
structure DCells (w : World) (sv : Value) (T : List DocT) : Prop where
  shape : ∃ a cap, sv = .slice a T.length cap ∧ T.length ≤ cap ∧ (0 < T.length → ∃ g, a = some ⟨g, 0, none⟩ ∧ g < w.heap.size ∧ ∀ i (h : i < T.length), w.cell? ⟨g, i * 6, none⟩ = some (.int .i64 T[i].id) ∧ ∀ j, j < 5 → w.cell? ⟨g, i * 6 + 1 + j, none⟩ = T[i].c[j]?)
theorem DCells.later {w w2 : World} {sv : Value} {T : List DocT} (h : DCells w sv T) (hb : Below w.heap.size w w2) : DCells w2 sv T := by
  obtain ⟨a, cap, rfl, hc, h⟩ := h
  refine ⟨a, cap, rfl, hc, fun hp => ?_⟩
  obtain ⟨g, rfl, hg, hx⟩ := h hp
  refine ⟨g, rfl, Nat.lt_of_lt_of_le hg hb.size, fun i hi => ⟨bcell hb (hx i hi).1, fun j hj => ?_⟩⟩
  rw [World.cell?_of_block (hb.block g hg)]
  exact (hx i hi).2 j hj
theorem HRep.cells {w : World} {bh : Nat} {ob : Option Nat} {S : Nat → Prop} {T : List DocT} {last : Int} (h : HRep w bh ob S T last) : ∃ sv, Blk w bh 97 [sv, .int .i64 last] ∧ DCells w sv T ∧ ∀ t ∈ T, VAt S w t.v t.c := by
  obtain ⟨ov, hk, hob, hown, hv, _, _⟩ := h
  refine ⟨ov, hk, ?_, hv⟩
  have hc5 : ∀ t ∈ T, t.c.length = 5 := fun t ht => vat_five (hv t ht)
  rcases ownsRow_cases hown with ⟨rfl, h0, _⟩ | ⟨g, cap, rfl⟩
  · have : T = [] := List.eq_nil_of_length_eq_zero h0
    subst this
    exact ⟨none, 0, rfl, by simp, fun h => absurd h (by simp)⟩
  · have hcap : T.length ≤ cap := by
      rcases hown.2 with ⟨h1, _⟩ | ⟨g2, c2, cur, h1, _, _, h2, _⟩
      · cases h1
      · injection h1 with _ _ h3; rw [h3]; exact h2
    refine ⟨some ⟨g, 0, none⟩, cap, rfl, hcap, fun hp => ⟨g, rfl, (hown.lt g rfl).2, fun i hi => ⟨?_, fun j hj => ?_⟩⟩⟩
    · exact (hown.cellAt (i * 6) (by omega)).trans (docsC_at T hc5 i hi).1
    · exact (hown.cellAt (i * 6 + 1 + j) (by omega)).trans ((docsC_at T hc5 i hi).2 j hj)
/-- k: the place of a number, or where it would be. -/
def FindK (T : List DocT) (g : Int) (k : Nat) : Prop := k ≤ T.length ∧ (∀ i (h : i < T.length), i < k → T[i].id < g) ∧ ∀ i (h : i < T.length), k ≤ i → g ≤ T[i].id
def foundB (T : List DocT) (g : Int) (k : Nat) : Bool := match T[k]? with
  | some t => t.id == g
  | none => false
def Rising (T : List DocT) : Prop := ∀ i j (hi : i < T.length) (hj : j < T.length), i < j → T[i].id < T[j].id

set_option maxRecDepth 100000 in
theorem fclos_any (id g q0 q1 : Int) (q2 : ByteArray) (q3 : Option Addr) (q4 q5 : Nat) (q6 : Option Addr) (q7 q8 : Nat) (w : World) :
    Calls Tryz.prog 76 #[.agg #[.int .i64 id, .int .i64 q0, .int .i64 q1, .string q2, .slice q3 q4 q5, .slice q6 q7 q8], .int .i64 g] w fun e w' => e = .returned (.int .i64 (icmpI id g)) ∧ Below w.heap.size w w' := by
  have hc := fun W => ccmp_i64 id g W
  obtain ⟨z, hz⟩ : ∃ z, icmpI id g = z := ⟨_, rfl⟩
  rw [hz] at hc ⊢
  have HC := Lib.hid hc
  have HB := Lib.hid ((Below.refl _ w).alloc (o := .cells #[.int .i64 id, .int .i64 q0, .int .i64 q1, .string q2, .slice q3 q4 q5, .slice q6 q7 q8] 90) (Nat.le_refl _))
  clear hc hz
  go_enter Tryz.func76, Tryz.ntmps76
  go_wp2_with fail
  refine (show Calls _ _ _ _ _ from HC.out _).mono ?_
  rintro e w2 ⟨rfl, rfl⟩
  go_wp2
  go_ret
  exact ⟨rfl, HB.out⟩
theorem icmpI_neg {a b : Int} : icmpI a b < 0 ↔ a < b := by
  unfold icmpI
  split
  · simp [*]
  · split <;> simp [*]
theorem icmpI_zero {a b : Int} : icmpI a b = 0 ↔ a = b := by
  unfold icmpI
  split
  · constructor <;> intro h <;> omega
  · split
    · constructor <;> intro h <;> omega
    · constructor <;> intro h <;> omega

set_option maxHeartbeats 8000000 in
set_option maxRecDepth 100000 in
theorem bsearch_any (w : World) (sv : Value) (T : List DocT) (g : Int) (hD : DCells w sv T) (hc5 : ∀ t ∈ T, ∃ q0 q1 q2 q3 q4 q5 q6 q7 q8, t.c = [.int .i64 q0, .int .i64 q1, .string q2, .slice q3 q4 q5, .slice q6 q7 q8]) (hR : Rising T) (hT : T.length ≤ 1000) :
    Calls Tryz.prog 75 #[sv, .int .i64 g, .func (.func 76) #[] #[]] w fun e w' => ∃ k, FindK T g k ∧ e = .returned (.tuple #[.int .i64 (k : Int), .bool (foundB T g k)]) ∧ Below w.heap.size w w' := by
  obtain ⟨n, hn⟩ : ∃ n, T.length = n := ⟨_, rfl⟩
  obtain ⟨sa, cap, rfl, hcap, hx⟩ := hD.shape
  have H0 := Lib.hid (And.intro hD (And.intro hc5 (And.intro hR (And.intro hx hn))))
  rw [hn] at hT hcap ⊢
  clear hD hc5 hR hx hn
  go_enter Tryz.func75, Tryz.ntmps75
  go_wp2_with fail
  go_loopg [9, 10] n (fun gk iv jv wr => ∃ (lo hi : Nat), gk + lo = hi ∧ hi ≤ n ∧ iv = .int .i64 (lo : Int) ∧ jv = .int .i64 (hi : Int) ∧ Below w.heap.size w wr ∧ (∀ i (h : i < T.length), i < lo → T[i].id < g) ∧ ∀ i (h : i < T.length), hi ≤ i → g ≤ T[i].id)
  case atStart => exact ⟨0, n, by omega, Nat.le_refl _, rfl, rfl, Below.refl _ _, fun i _ h => absurd h (by omega), fun i h h2 => absurd h (by have := H0.out.2.2.2.2; omega)⟩
  case round =>
    obtain ⟨lo, hi, hgk, hin, rfl, rfl, hbw, hlo, hhi⟩ := hrel
    have HS := Lib.hid (And.intro hbw (And.intro hlo hhi))
    clear hbw hlo hhi
    have hnn := H0.out.2.2.2.2
    by_cases hlh : lo < hi
    · have hlz : (lo : Int) < (hi : Int) := by omega
      obtain ⟨h, hh⟩ : ∃ h, (lo + hi) / 2 = h := ⟨_, rfl⟩
      have hhn : h < T.length := by omega
      obtain ⟨b, rfl, hbn, hcells⟩ := H0.out.2.2.2.1 (by omega)
      have hc := hcells h hhn
      have tr : ∀ p, wr.cell? ⟨b, p, none⟩ = w.cell? ⟨b, p, none⟩ := fun p => World.cell?_of_block (HS.out.1.block b hbn)
      obtain ⟨t, ht⟩ : ∃ t, T[h] = t := ⟨_, rfl⟩
      rw [ht] at hc
      obtain ⟨q0, q1, q2, q3, q4, q5, q6, q7, q8, hq⟩ := H0.out.2.1 t (by rw [← ht]; exact List.getElem_mem hhn)
      have f0 : wr.cell? ⟨b, h * 6, none⟩ = some (.int .i64 t.id) := (tr _).trans hc.1
      have f1 : wr.cell? ⟨b, h * 6 + 1, none⟩ = some (.int .i64 q0) := (tr _).trans ((hc.2 0 (by omega)).trans (by rw [hq]; rfl))
      have f2 : wr.cell? ⟨b, h * 6 + 2, none⟩ = some (.int .i64 q1) := (tr _).trans ((hc.2 1 (by omega)).trans (by rw [hq]; rfl))
      have f3 : wr.cell? ⟨b, h * 6 + 3, none⟩ = some (.string q2) := (tr _).trans ((hc.2 2 (by omega)).trans (by rw [hq]; rfl))
      have f4 : wr.cell? ⟨b, h * 6 + 4, none⟩ = some (.slice q3 q4 q5) := (tr _).trans ((hc.2 3 (by omega)).trans (by rw [hq]; rfl))
      have f5 : wr.cell? ⟨b, h * 6 + 5, none⟩ = some (.slice q6 q7 q8) := (tr _).trans ((hc.2 4 (by omega)).trans (by rw [hq]; rfl))
      have hw1 : IntKind.i64.wrap ((lo : Int) + (hi : Int)) = ((lo + hi : Nat) : Int) := by rw [IntWalk.i64_in _ (by omega)]; omega
      have hcl := fun W => fclos_any t.id g q0 q1 q2 q3 q4 q5 q6 q7 q8 W
      have hhz : (h : Int) < (n : Int) := by omega
      have hh0 : (0 : Int) ≤ (h : Int) := by omega
      by_cases hlt : t.id < g
      · have hz : icmpI t.id g = -1 := by unfold icmpI; rw [if_pos hlt]
        rw [hz] at hcl
        have HX := Lib.hid (And.intro ht (And.intro hcl hlt))
        clear hc tr hcells hq hcl ht hlt hz
        go_wp2_with fail
        refine (show Calls _ _ _ _ _ from HX.out.2.1 _).mono ?_
        rintro e w2 ⟨rfl, hb2⟩
        have HB := Lib.hid (HS.out.1.trans (hb2.mono HS.out.1.size))
        clear hb2 f0 f1 f2 f3 f4 f5
        go_wp2
        go_roundg (hi - (h + 1))
        case rel =>
          refine ⟨h + 1, hi, by omega, hin, ?_, rfl, HB.out, fun i hi2 hil => ?_, HS.out.2.2⟩
          · exact congrArg (Value.int .i64) (by omega)
          · by_cases hih : i = h
            · subst hih; rw [HX.out.1]; exact HX.out.2.2
            · have h1 := H0.out.2.2.1 i h hi2 hhn (by omega)
              rw [HX.out.1] at h1
              have := HX.out.2.2
              omega
        case measure => omega
      · have hz : ¬ icmpI t.id g < 0 := fun h => hlt (icmpI_neg.1 h)
        obtain ⟨z, hzz⟩ : ∃ z, icmpI t.id g = z := ⟨_, rfl⟩
        rw [hzz] at hcl hz
        have HX := Lib.hid (And.intro ht (And.intro hcl hlt))
        clear hc tr hcells hq hcl ht hlt hzz
        go_wp2_with fail
        refine (show Calls _ _ _ _ _ from HX.out.2.1 _).mono ?_
        rintro e w2 ⟨rfl, hb2⟩
        have HB := Lib.hid (HS.out.1.trans (hb2.mono HS.out.1.size))
        clear hb2 f0 f1 f2 f3 f4 f5
        go_wp2
        go_roundg (h - lo)
        case rel =>
          refine ⟨lo, h, by omega, by omega, rfl, ?_, HB.out, HS.out.2.1, fun i hi2 hil => ?_⟩
          · exact congrArg (Value.int .i64) (by omega)
          · by_cases hih : i = h
            · subst hih; rw [HX.out.1]; have := HX.out.2.2; omega
            · have h1 := H0.out.2.2.1 h i hhn hi2 (by omega)
              rw [HX.out.1] at h1
              have := HX.out.2.2
              omega
        case measure => omega
    · have hlz : ¬ (lo : Int) < (hi : Int) := by omega
      obtain rfl : lo = hi := by omega
      have hfk : FindK T g lo := ⟨by omega, HS.out.2.1, HS.out.2.2⟩
      by_cases hln : lo < n
      · have hlnz : (lo : Int) < (n : Int) := by omega
        have hl0 : (0 : Int) ≤ (lo : Int) := by omega
        have hhn : lo < T.length := by omega
        obtain ⟨b, rfl, hbn, hcells⟩ := H0.out.2.2.2.1 (by omega)
        have hc := hcells lo hhn
        have tr : ∀ p, wr.cell? ⟨b, p, none⟩ = w.cell? ⟨b, p, none⟩ := fun p => World.cell?_of_block (HS.out.1.block b hbn)
        obtain ⟨t, ht⟩ : ∃ t, T[lo] = t := ⟨_, rfl⟩
        rw [ht] at hc
        obtain ⟨q0, q1, q2, q3, q4, q5, q6, q7, q8, hq⟩ := H0.out.2.1 t (by rw [← ht]; exact List.getElem_mem hhn)
        have f0 : wr.cell? ⟨b, lo * 6, none⟩ = some (.int .i64 t.id) := (tr _).trans hc.1
        have f1 : wr.cell? ⟨b, lo * 6 + 1, none⟩ = some (.int .i64 q0) := (tr _).trans ((hc.2 0 (by omega)).trans (by rw [hq]; rfl))
        have f2 : wr.cell? ⟨b, lo * 6 + 2, none⟩ = some (.int .i64 q1) := (tr _).trans ((hc.2 1 (by omega)).trans (by rw [hq]; rfl))
        have f3 : wr.cell? ⟨b, lo * 6 + 3, none⟩ = some (.string q2) := (tr _).trans ((hc.2 2 (by omega)).trans (by rw [hq]; rfl))
        have f4 : wr.cell? ⟨b, lo * 6 + 4, none⟩ = some (.slice q3 q4 q5) := (tr _).trans ((hc.2 3 (by omega)).trans (by rw [hq]; rfl))
        have f5 : wr.cell? ⟨b, lo * 6 + 5, none⟩ = some (.slice q6 q7 q8) := (tr _).trans ((hc.2 4 (by omega)).trans (by rw [hq]; rfl))
        have hcl := fun W => fclos_any t.id g q0 q1 q2 q3 q4 q5 q6 q7 q8 W
        have hfb : foundB T g lo = (t.id == g) := by unfold foundB; rw [List.getElem?_eq_getElem hhn, ht]
        obtain ⟨z, hzz⟩ : ∃ z, icmpI t.id g = z := ⟨_, rfl⟩
        have hzb : (t.id == g) = (z == 0) := by
          rw [Bool.eq_iff_iff, beq_iff_eq, beq_iff_eq, ← hzz]
          exact icmpI_zero.symm
        rw [hzz] at hcl
        have HX := Lib.hid (And.intro hcl (And.intro hfk (hfb.trans hzb)))
        clear hc tr hcells hq hcl ht hzz hfk hfb hzb
        go_wp2_with fail
        refine (show Calls _ _ _ _ _ from HX.out.1 _).mono ?_
        rintro e w2 ⟨rfl, hb2⟩
        have HB := Lib.hid (HS.out.1.trans (hb2.mono HS.out.1.size))
        clear hb2 f0 f1 f2 f3 f4 f5
        go_wp2
        go_ret2
        exact ⟨lo, HX.out.2.1, by rw [HX.out.2.2]; rfl, HB.out⟩
      · have hlnz : ¬ (lo : Int) < (n : Int) := by omega
        have hfb : foundB T g lo = false := by unfold foundB; rw [List.getElem?_eq_none (by omega)]
        have HX := Lib.hid (And.intro hfk hfb)
        clear hfk hfb
        go_wp2
        go_ret2
        exact ⟨lo, HX.out.1, by rw [HX.out.2]; rfl, HS.out.1⟩
end Go.Proofs.YtecnjifincahaaaGreatDoor
