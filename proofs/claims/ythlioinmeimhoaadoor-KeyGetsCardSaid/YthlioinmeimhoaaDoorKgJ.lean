/- value.Valid tells whether a value may be. -/
import Derived.Test.YthlioinmeimhoaaDoorKpB
namespace Go.Proofs.YthlioinmeimhoaaDoor
open Go.Shelf Go.RowKit Go.Lib

mutual
def validV : V → Bool
  | .null => true
  | .bool n => n == 0 || n == 1
  | .int _ => true
  | .text s => Lib.validD s
  | .list l => validVs l
  | .obj l => risesL none l
def validVs : List V → Bool
  | [] => true
  | v :: l => validV v && validVs l
def validF : BL × V → Bool
  | (n, v) => Lib.validD n && validV v
def risesL : Option BL → List (BL × V) → Bool
  | _, [] => true
  | p, f :: l => (validF f && (match p with | none => true | some q => lcmp q f.1 == .lt)) && risesL (some f.1) l
end
def ValidC (w : World) (v : V) (c : List Value) : Prop := Calls Tryd.prog 23 #[.agg c.toArray] w fun e w' => e = .returned (.bool (validV v)) ∧ Below w.heap.size w w'
def ValidH (v : V) : Prop := ∀ (S : Nat → Prop) (w : World) (c : List Value), VAt S w v c → Tabs w → (keyL v).length ≤ 1000000 → ValidC w v c

set_option maxHeartbeats 4000000 in
set_option maxRecDepth 100000 in
theorem bare_v {S : Nat → Prop} {w0 : World} {v : V} {c : List Value} (h : VAt S w0 v c) (w : World) : Calls Tryd.prog 46 #[.agg c.toArray] w fun e w' => e = .returned (.bool true) ∧ Below w.heap.size w w' := by
  cases h with
  | list l cs sl h hr =>
    obtain ⟨p, k, rfl⟩ : ∃ p k, sl = .slice p l.length k := by
      rcases hr.2 with ⟨h0, rfl⟩ | ⟨b, cap, rfl, _⟩
      · exact ⟨none, 0, by rw [h0]⟩
      · exact ⟨_, _, rfl⟩
    go_enter Tryd.func46, Tryd.ntmps46
    go_wp2
    go_ret
    exact ⟨rfl, (Below.refl _ w).alloc (Nat.le_refl _) _⟩
  | obj l cs sl h hr =>
    obtain ⟨p, k, rfl⟩ : ∃ p k, sl = .slice p l.length k := by
      rcases hr.2 with ⟨h0, rfl⟩ | ⟨b, cap, rfl, _⟩
      · exact ⟨none, 0, by rw [h0]⟩
      · exact ⟨_, _, rfl⟩
    go_enter Tryd.func46, Tryd.ntmps46
    go_wp2
    go_ret
    exact ⟨rfl, (Below.refl _ w).alloc (Nat.le_refl _) _⟩
  | _ =>
    go_enter Tryd.func46, Tryd.ntmps46
    go_wp2
    go_ret
    exact ⟨rfl, (Below.refl _ w).alloc (Nat.le_refl _) _⟩

theorem vs_drop (l : List V) (i : Nat) (h : i < l.length) : validVs (l.drop i) = (validV l[i] && validVs (l.drop (i + 1))) := by
  rw [List.drop_eq_getElem_cons h, validVs]
theorem key_mem {l : List V} {x : V} (h : x ∈ l) : (keyL x).length ≤ (keysL l).length := by
  induction l with
  | nil => cases h
  | cons y l ih =>
    rw [keysL, List.length_append]
    rcases List.mem_cons.mp h with rfl | h
    · omega
    · have := ih h; omega
theorem keyf_mem {l : List (BL × V)} {x : BL × V} (h : x ∈ l) : (keyL x.2).length + x.1.length ≤ (fieldsL l).length := by
  induction l with
  | nil => cases h
  | cons y l ih =>
    rw [fieldsL, List.length_append]
    rcases List.mem_cons.mp h with rfl | h
    · rw [fieldL_eq]
      have := (escK_le x.1).1
      simp [writtenK]
      omega
    · have := ih h; omega

set_option maxHeartbeats 4000000 in
set_option maxRecDepth 100000 in
theorem vvalid_null (w : World) (hT : Tabs w) : ValidC w .null [.int .i64 0, .int .i64 0, .string ⟨#[]⟩, .slice none 0 0, .slice none 0 0] := by
  have HT := Lib.hid hT
  clear hT
  unfold ValidC
  have hbr := Lib.hid (fun (W : World) => bare_v (S := fun _ => True) (w0 := w) (v := .null) .null W)
  obtain ⟨W, hW⟩ : ∃ W, w.alloc (.cells #[.int .i64 0, .int .i64 0, .string ⟨#[]⟩, .slice none 0 0, .slice none 0 0] 28) = W := ⟨_, rfl⟩
  have hblk : Blk W w.heap.size 28 [.int .i64 0, .int .i64 0, .string ⟨#[]⟩, .slice none 0 0, .slice none 0 0] := by rw [← hW]; exact heap_alloc_new w _
  have hbW : Below w.heap.size w W := by rw [← hW]; exact (Below.refl _ w).alloc (Nat.le_refl _) _
  have H0 := Lib.hid (And.intro hW (And.intro hblk hbW))
  clear hblk hbW hW
  go_enter Tryd.func23, Tryd.ntmps23
  go_wp2_with fail
  refine (hbr.out _).mono ?_
  rintro e w2 ⟨rfl, hb2⟩
  rw [H0.out.1] at hb2
  have hk2 := H0.out.2.1.below hb2
  have H2 := Lib.hid (And.intro hk2 (H0.out.2.2.trans (hb2.mono H0.out.2.2.size)))
  have c0 := hk2.cell 0
  have c1 := hk2.cell 1
  have c2 := hk2.cell 2
  have c3 := hk2.cell 3
  have c4 := hk2.cell 4
  clear hk2 hb2
  go_wp2
  refine wp_loop_rounds 1 ?_
  rw [rounds_succ]
  go_wp2_with fail
  refine (valid_any ⟨#[]⟩ _ (by decide) (HT.out.below H2.out.2)).mono ?_
  rintro e w3 ⟨rfl, hb3⟩
  rw [show (⟨#[]⟩ : ByteArray).data.toList = [] from rfl, valid_nil]
  have hk3 := H2.out.1.below hb3
  have H3 := Lib.hid (And.intro hk3 (H2.out.2.trans (hb3.mono H2.out.2.size)))
  clear c0 c1 c2 c3 c4
  have c0 := hk3.cell 0
  have c1 := hk3.cell 1
  have c4 := hk3.cell 4
  clear hk3 hb3
  go_wp2_with fail
  refine (rises_none _).mono ?_
  rintro e w4 ⟨rfl, hb4⟩
  have hk4 := H3.out.1.below hb4
  have H4 := Lib.hid (H3.out.2.trans (hb4.mono H3.out.2.size))
  clear c0 c1 c4
  have c0 := hk4.cell 0
  have c1 := hk4.cell 1
  clear hk4 hb4
  go_wp2
  go_ret
  exact ⟨by rw [validV]; try rfl, H4.out⟩

set_option maxHeartbeats 4000000 in
set_option maxRecDepth 100000 in
theorem vvalid_int (n : Int) (hn : -9223372036854775808 ≤ n ∧ n ≤ 9223372036854775807) (w : World) (hT : Tabs w) : ValidC w (.int n) [.int .i64 2, .int .i64 n, .string ⟨#[]⟩, .slice none 0 0, .slice none 0 0] := by
  have HT := Lib.hid hT
  clear hT
  unfold ValidC
  have hbr := Lib.hid (fun (W : World) => bare_v (S := fun _ => True) (w0 := w) (v := (.int n)) (.int n hn) W)
  clear hn
  obtain ⟨W, hW⟩ : ∃ W, w.alloc (.cells #[.int .i64 2, .int .i64 n, .string ⟨#[]⟩, .slice none 0 0, .slice none 0 0] 28) = W := ⟨_, rfl⟩
  have hblk : Blk W w.heap.size 28 [.int .i64 2, .int .i64 n, .string ⟨#[]⟩, .slice none 0 0, .slice none 0 0] := by rw [← hW]; exact heap_alloc_new w _
  have hbW : Below w.heap.size w W := by rw [← hW]; exact (Below.refl _ w).alloc (Nat.le_refl _) _
  have H0 := Lib.hid (And.intro hW (And.intro hblk hbW))
  clear hblk hbW hW
  go_enter Tryd.func23, Tryd.ntmps23
  go_wp2_with fail
  refine (hbr.out _).mono ?_
  rintro e w2 ⟨rfl, hb2⟩
  rw [H0.out.1] at hb2
  have hk2 := H0.out.2.1.below hb2
  have H2 := Lib.hid (And.intro hk2 (H0.out.2.2.trans (hb2.mono H0.out.2.2.size)))
  have c0 := hk2.cell 0
  have c1 := hk2.cell 1
  have c2 := hk2.cell 2
  have c3 := hk2.cell 3
  have c4 := hk2.cell 4
  clear hk2 hb2
  go_wp2
  refine wp_loop_rounds 1 ?_
  rw [rounds_succ]
  go_wp2_with fail
  refine (valid_any ⟨#[]⟩ _ (by decide) (HT.out.below H2.out.2)).mono ?_
  rintro e w3 ⟨rfl, hb3⟩
  rw [show (⟨#[]⟩ : ByteArray).data.toList = [] from rfl, valid_nil]
  have hk3 := H2.out.1.below hb3
  have H3 := Lib.hid (And.intro hk3 (H2.out.2.trans (hb3.mono H2.out.2.size)))
  clear c0 c1 c2 c3 c4
  have c0 := hk3.cell 0
  have c1 := hk3.cell 1
  have c4 := hk3.cell 4
  clear hk3 hb3
  go_wp2_with fail
  refine (rises_none _).mono ?_
  rintro e w4 ⟨rfl, hb4⟩
  have hk4 := H3.out.1.below hb4
  have H4 := Lib.hid (H3.out.2.trans (hb4.mono H3.out.2.size))
  clear c0 c1 c4
  have c0 := hk4.cell 0
  have c1 := hk4.cell 1
  clear hk4 hb4
  go_wp2
  go_ret
  exact ⟨by rw [validV]; try rfl, H4.out⟩

set_option maxHeartbeats 4000000 in
set_option maxRecDepth 100000 in
theorem vvalid_bool (n : Int) (hn : 0 ≤ n ∧ n < 256) (w : World) (hT : Tabs w) : ValidC w (.bool n) [.int .i64 1, .int .i64 n, .string ⟨#[]⟩, .slice none 0 0, .slice none 0 0] := by
  have HT := Lib.hid hT
  clear hT
  unfold ValidC
  have hbr := Lib.hid (fun (W : World) => bare_v (S := fun _ => True) (w0 := w) (v := (.bool n)) (.bool n hn) W)
  obtain ⟨W, hW⟩ : ∃ W, w.alloc (.cells #[.int .i64 1, .int .i64 n, .string ⟨#[]⟩, .slice none 0 0, .slice none 0 0] 28) = W := ⟨_, rfl⟩
  have hblk : Blk W w.heap.size 28 [.int .i64 1, .int .i64 n, .string ⟨#[]⟩, .slice none 0 0, .slice none 0 0] := by rw [← hW]; exact heap_alloc_new w _
  have hbW : Below w.heap.size w W := by rw [← hW]; exact (Below.refl _ w).alloc (Nat.le_refl _) _
  have H0 := Lib.hid (And.intro hW (And.intro hblk hbW))
  clear hblk hbW hW
  go_enter Tryd.func23, Tryd.ntmps23
  go_wp2_with fail
  refine (hbr.out _).mono ?_
  rintro e w2 ⟨rfl, hb2⟩
  rw [H0.out.1] at hb2
  have hk2 := H0.out.2.1.below hb2
  have H2 := Lib.hid (And.intro hk2 (H0.out.2.2.trans (hb2.mono H0.out.2.2.size)))
  have c0 := hk2.cell 0
  have c1 := hk2.cell 1
  have c2 := hk2.cell 2
  have c3 := hk2.cell 3
  have c4 := hk2.cell 4
  clear hk2 hb2
  go_wp2
  refine wp_loop_rounds 1 ?_
  rw [rounds_succ]
  go_wp2_with fail
  refine (valid_any ⟨#[]⟩ _ (by decide) (HT.out.below H2.out.2)).mono ?_
  rintro e w3 ⟨rfl, hb3⟩
  rw [show (⟨#[]⟩ : ByteArray).data.toList = [] from rfl, valid_nil]
  have hk3 := H2.out.1.below hb3
  have H3 := Lib.hid (And.intro hk3 (H2.out.2.trans (hb3.mono H2.out.2.size)))
  clear c0 c1 c2 c3 c4
  have c0 := hk3.cell 0
  have c1 := hk3.cell 1
  have c4 := hk3.cell 4
  clear hk3 hb3
  go_wp2_with fail
  refine (rises_none _).mono ?_
  rintro e w4 ⟨rfl, hb4⟩
  have hk4 := H3.out.1.below hb4
  have H4 := Lib.hid (H3.out.2.trans (hb4.mono H3.out.2.size))
  clear c0 c1 c4
  have c0 := hk4.cell 0
  have c1 := hk4.cell 1
  clear hk4 hb4
  by_cases h0 : n = 0
  · subst h0
    go_wp2
    go_ret
    exact ⟨rfl, H4.out⟩
  · have h0b : (n == 0) = false := by simpa using h0
    by_cases h1 : n = 1
    · subst h1
      go_wp2
      go_ret
      exact ⟨rfl, H4.out⟩
    · have h1b : (n == 1) = false := by simpa using h1
      have hv : validV (.bool n) = false := by rw [validV, h0b, h1b]; rfl
      have HVv := Lib.hid hv
      clear hv hn
      go_wp2
      go_ret
      exact ⟨by rw [HVv.out]; try rfl, H4.out⟩

set_option maxHeartbeats 4000000 in
set_option maxRecDepth 100000 in
theorem vvalid_text (s : BL) (hs : s.length ≤ 1000000) (w : World) (hT : Tabs w) : ValidC w (.text s) [.int .i64 3, .int .i64 0, .string (BA s), .slice none 0 0, .slice none 0 0] := by
  have HT := Lib.hid hT
  clear hT
  unfold ValidC
  obtain ⟨X, hX⟩ : ∃ X, BA s = X := ⟨_, rfl⟩
  have hXs : X.size ≤ 1099511627776 := by rw [← hX, ba_size]; omega
  have hvv : validV (.text s) = Lib.validD X.data.toList := by rw [← hX, validV]
  have hbr := Lib.hid (fun (W : World) => bare_v (S := fun _ => True) (w0 := w) (v := .text s) (.text s) W)
  rw [hX] at hbr ⊢
  have HX := Lib.hid (And.intro hXs hvv)
  clear hXs hvv hX hs
  obtain ⟨W, hW⟩ : ∃ W, w.alloc (.cells #[.int .i64 3, .int .i64 0, .string X, .slice none 0 0, .slice none 0 0] 28) = W := ⟨_, rfl⟩
  have hblk : Blk W w.heap.size 28 [.int .i64 3, .int .i64 0, .string X, .slice none 0 0, .slice none 0 0] := by rw [← hW]; exact heap_alloc_new w _
  have hbW : Below w.heap.size w W := by rw [← hW]; exact (Below.refl _ w).alloc (Nat.le_refl _) _
  have H0 := Lib.hid (And.intro hW (And.intro hblk hbW))
  clear hblk hbW hW
  go_enter Tryd.func23, Tryd.ntmps23
  go_wp2_with fail
  refine (hbr.out _).mono ?_
  rintro e w2 ⟨rfl, hb2⟩
  rw [H0.out.1] at hb2
  have hk2 := H0.out.2.1.below hb2
  have H2 := Lib.hid (And.intro hk2 (H0.out.2.2.trans (hb2.mono H0.out.2.2.size)))
  have c0 := hk2.cell 0
  have c1 := hk2.cell 1
  have c2 := hk2.cell 2
  have c3 := hk2.cell 3
  have c4 := hk2.cell 4
  clear hk2 hb2
  go_wp2
  refine wp_loop_rounds 1 ?_
  rw [rounds_succ]
  go_wp2_with fail
  refine (valid_any X _ HX.out.1 (HT.out.below H2.out.2)).mono ?_
  rintro e w3 ⟨rfl, hb3⟩
  have hk3 := H2.out.1.below hb3
  have H3 := Lib.hid (And.intro hk3 (H2.out.2.trans (hb3.mono H2.out.2.size)))
  clear c0 c1 c2 c3 c4
  have c0 := hk3.cell 0
  have c1 := hk3.cell 1
  have c4 := hk3.cell 4
  clear hk3 hb3
  cases htv : Lib.validD X.data.toList with
  | false =>
    go_wp2
    go_ret
    exact ⟨by rw [HX.out.2, htv]; try rfl, H3.out.2⟩
  | true =>
    go_wp2_with fail
    refine (rises_none _).mono ?_
    rintro e w4 ⟨rfl, hb4⟩
    have hk4 := H3.out.1.below hb4
    have H4 := Lib.hid (H3.out.2.trans (hb4.mono H3.out.2.size))
    clear c0 c1 c4
    have c0 := hk4.cell 0
    have c1 := hk4.cell 1
    clear hk4 hb4
    go_wp2
    go_ret
    exact ⟨by rw [HX.out.2, htv]; try rfl, H4.out⟩
end Go.Proofs.YthlioinmeimhoaaDoor
