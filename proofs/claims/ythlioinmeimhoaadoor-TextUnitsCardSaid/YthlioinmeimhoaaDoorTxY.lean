/- TextUnits: the law's walk. -/
import Derived.Test.YthlioinmeimhoaaDoorTxX
namespace Go.Proofs.YthlioinmeimhoaaDoor
open Go.Shelf Go.RowKit Go.Lib

/-- string of one character. -/
theorem one_rune (r : Int) (W : World) (b : Nat) (hc : W.cell? ⟨b, 0, none⟩ = some (.int .i32 r)) : (convert 58 9 (.slice (some ⟨b, 0, none⟩) 1 1)).run Tryd.prog W = .ok (.string (BA (encodeRune r))) W := by
  have := run_convert_runes W 58 9 21 ⟨b, 0, none⟩ 1 1 [r] (by simp) Tryd.underlying58 Tryd.underlying21 Tryd.underlying9 (fun j hj => by
    simp at hj
    subst hj
    simpa [Addr.add] using hc)
  rw [this, List.take_of_length_le (by simp), runes_one]
theorem in_quotes (u : ByteArray) (l : BL) (h : u.data.toList = l) : ((⟨#[34]⟩ : ByteArray) ++ u ++ ⟨#[34]⟩).data.toList = 34 :: (l ++ [34]) := by
  rw [app_list, app_list, h]; rfl
theorem in_quotes2 (u v : ByteArray) (l m : BL) (h : u.data.toList = l) (k : v.data.toList = m) : ((⟨#[34]⟩ : ByteArray) ++ u ++ v ++ ⟨#[34]⟩).data.toList = 34 :: (l ++ (m ++ [34])) := by
  rw [app_list, app_list, app_list, h, k]; simp
theorem bcell0 (W : World) (D : ByteArray) : (W.alloc (.cells #[.string D] 9)).cell? ⟨W.heap.size, 0, none⟩ = some (.string D) := by
  rw [Lib.cell_of_heap (heap_alloc_new W _)]
  rfl

set_option maxHeartbeats 4000000 in
set_option maxRecDepth 100000 in
theorem units_up (a b : Nat) (w : World) (ha : a < 65536) (_hb : b < 65536) (hT : Tabs w) (hg : ErrT w) :
    Calls Tryd.prog 13 #[.int .u16 a, .int .u16 b, .bool true] w fun e w' => e = .returned (.bool true) ∧ Below w.heap.size w w' := by
  have HT := Lib.hid (And.intro hT hg)
  clear hT hg
  have hdg : Dig hexU := dig_up
  have cU : ∀ (n B : Nat) (W : World), n < 65536 → W.cell? ⟨B, 0, none⟩ = some (.string ⟨#[48, 49, 50, 51, 52, 53, 54, 55, 56, 57, 65, 66, 67, 68, 69, 70]⟩) → Calls Tryd.prog 34 #[.int .u16 n, .pointer (some ⟨B, 0, none⟩)] W fun e w' => e = .returned (.string (BA (unit4 hexU n))) ∧ Below W.heap.size W w' := fun n B W hn hc =>
    four_cl n B ⟨#[48, 49, 50, 51, 52, 53, 54, 55, 56, 57, 65, 66, 67, 68, 69, 70]⟩ hexU W hn rfl (fun k h => up_at k h h) hc
  have hus : ∀ n, (BA (unit4 hexU n)).size = 6 := fun n => rfl
  obtain ⟨U, hU⟩ : ∃ U : Nat → ByteArray, U = fun n => BA (unit4 hexU n) := ⟨_, rfl⟩
  have hUn : ∀ n, BA (unit4 hexU n) = U n := fun n => by rw [hU]
  have hUs : ∀ n, (U n).size = 6 := fun n => by rw [← hUn]; rfl
  have hUl : ∀ n, (U n).data.toList = unit4 hexU n := fun n => by rw [← hUn]
  simp only [hUn] at cU
  have HU := Lib.hid (And.intro cU (And.intro hUl hdg))
  obtain ⟨UA, hUA⟩ : ∃ u, U a = u := ⟨_, rfl⟩
  have qA := hUs a
  rw [hUA] at qA
  have hAl := HU.out.2.1 a
  rw [hUA] at hAl
  have HQ := Lib.hid (And.intro hUs qA)
  have hcat1 : ¬ 9223372036854775807 < 1 + UA.size := by omega
  have hcat2 : ¬ 9223372036854775807 < 1 + UA.size + 1 := by omega
  clear hU hUn hus cU hUl hdg hUs qA
  have q34 : (⟨#[34]⟩ : ByteArray).size = 1 := rfl
  go_enter Tryd.func13, Tryd.ntmps13
  go_wp2_with fail
  refine (tawake_any _ HT.out.1 HT.out.2).mono ?_
  rintro e w1 ⟨rfl, hb1⟩
  have H1 := Lib.hid hb1
  clear hb1
  go_wp2_with fail
  obtain ⟨B, hB⟩ : ∃ B, w1.heap.size = B := ⟨_, rfl⟩
  have hcl := bcell0 w1 ⟨#[48, 49, 50, 51, 52, 53, 54, 55, 56, 57, 65, 66, 67, 68, 69, 70]⟩
  rw [hB] at hcl
  rw [hB]
  have HC0 := Lib.hid (And.intro hcl (H1.out.alloc (by have := H1.out.size; omega) (.cells #[.string ⟨#[48, 49, 50, 51, 52, 53, 54, 55, 56, 57, 65, 66, 67, 68, 69, 70]⟩] 9)))
  clear hcl hB
  generalize w1.alloc (.cells #[.string ⟨#[48, 49, 50, 51, 52, 53, 54, 55, 56, 57, 65, 66, 67, 68, 69, 70]⟩] 9) = w2 at HC0 ⊢
  refine (HU.out.1 a B w2 ha HC0.out.1).mono ?_
  rintro e w3 ⟨rfl, hb3⟩
  rw [hUA]
  have H3 := Lib.hid (And.intro (bcell hb3 HC0.out.1) (HC0.out.2.trans (hb3.mono HC0.out.2.size)))
  clear hb3
  go_wp2_with fail
  refine (unquote_any ((⟨#[34]⟩ : ByteArray) ++ UA ++ (⟨#[34]⟩ : ByteArray)) _ (by rw [app_size, app_size, HQ.out.2, q34]; omega) (HT.out.1.below H3.out.2)).mono ?_
  rintro e w4 ⟨hU4, hb4⟩
  unfold Unq at hU4
  rw [in_quotes UA _ hAl] at hU4
  have H4 := Lib.hid (And.intro (bcell hb4 H3.out.1) (H3.out.2.trans (hb4.mono H3.out.2.size)))
  clear hAl
  by_cases hn : a < 55296 ∨ 57343 < a
  · rw [units_one HU.out.2.2 a ha hn] at hU4
    dsimp only at hU4
    obtain ⟨E, hE⟩ : ∃ E, BA (encodeRune (a : Int)) = E := ⟨_, rfl⟩
    have hcv := fun W b hc => one_rune (a : Int) W b hc
    simp only [hE] at hcv
    rw [hE] at hU4
    subst hU4
    have hwr : IntKind.i32.wrap (a : Int) = (a : Int) := IntWalk.i32_in _ (by omega)
    clear hb4 hE
    rcases hn with hn | hn
    · have d1 : decide ((a : Int) < 55296) = true := decide_eq_true (by omega)
      have d1' : (a : Int) < 55296 := by omega
      clear hn
      go_wp2
      go_ret
      exact ⟨rfl, H4.out.2.alloc H4.out.2.size _⟩
    · have d1 : decide ((a : Int) < 55296) = false := decide_eq_false (by omega)
      have d2 : decide ((57343 : Int) < (a : Int)) = true := decide_eq_true (by omega)
      have d2' : (57343 : Int) < (a : Int) := by omega
      clear hn
      go_wp2
      go_ret
      exact ⟨rfl, H4.out.2.alloc H4.out.2.size _⟩
  · have hna : 55296 ≤ a ∧ a ≤ 57343 := by omega
    rw [units_half HU.out.2.2 a hna] at hU4
    obtain ⟨v, rfl, hc4⟩ := hU4
    have HE1 := Lib.hid hc4
    obtain ⟨h, hh⟩ : ∃ h, a % 1024 = h := ⟨_, rfl⟩
    obtain ⟨l, hl⟩ : ∃ l, b % 1024 = l := ⟨_, rfl⟩
    have d1 : decide ((a : Int) < 55296) = false := decide_eq_false (by omega)
    have d2 : decide ((57343 : Int) < (a : Int)) = false := decide_eq_false (by omega)
    have m1 : (a : Int) % 1024 = (h : Int) := by omega
    have m2 : (b : Int) % 1024 = (l : Int) := by omega
    obtain ⟨H, hH⟩ : ∃ H, 55296 + h = H := ⟨_, rfl⟩
    obtain ⟨M, hM⟩ : ∃ M, 56320 + l = M := ⟨_, rfl⟩
    obtain ⟨C, hC⟩ : ∃ C, 65536 + (H - 55296) * 1024 + (M - 56320) = C := ⟨_, rfl⟩
    have t1 : (55296 : Int) + (h : Int) = (H : Int) := by omega
    have t2 : (56320 : Int) + (l : Int) = (M : Int) := by omega
    have t3 : (H : Int) - 55296 = (h : Int) := by omega
    have t4 : (M : Int) - 56320 = (l : Int) := by omega
    have t5 : (65536 : Int) + (h : Int) * 1024 + (l : Int) = (C : Int) := by omega
    have z1 : (h : Int) < 1024 := by omega
    have z2 : (l : Int) < 1024 := by omega
    have y1 : (H : Int) < 65536 := by omega
    have y2 : (M : Int) < 65536 := by omega
    have x1 : (55296 : Int) ≤ (H : Int) := by omega
    have x2 : (56320 : Int) ≤ (M : Int) := by omega
    obtain ⟨UH, hUH⟩ : ∃ u, U H = u := ⟨_, rfl⟩
    obtain ⟨UM, hUM⟩ : ∃ u, U M = u := ⟨_, rfl⟩
    have hHl := HU.out.2.1 H
    have hMl := HU.out.2.1 M
    rw [hUH] at hHl
    rw [hUM] at hMl
    have qH := HQ.out.1 H
    have qM := HQ.out.1 M
    rw [hUH] at qH
    rw [hUM] at qM
    have hcat3 : ¬ 9223372036854775807 < 1 + UH.size := by omega
    have hcat4 : ¬ 9223372036854775807 < 1 + UH.size + UM.size := by omega
    have hcat5 : ¬ 9223372036854775807 < 1 + UH.size + UM.size + 1 := by omega
    have hcat6 : ¬ 9223372036854775807 < 1 + UM.size := by omega
    have hcat7 : ¬ 9223372036854775807 < 1 + UM.size + UH.size := by omega
    have hcat8 : ¬ 9223372036854775807 < 1 + UM.size + UH.size + 1 := by omega
    have r2 : readL ((⟨#[34]⟩ : ByteArray) ++ UH ++ UM ++ (⟨#[34]⟩ : ByteArray)).data.toList = some (encodeRune (C : Int), 14) := by
      rw [in_quotes2 UH UM _ _ hHl hMl, units_two HU.out.2.2 H M (by omega) (by omega), hC]
    have r3 : readL ((⟨#[34]⟩ : ByteArray) ++ UM ++ UH ++ (⟨#[34]⟩ : ByteArray)).data.toList = none := by
      rw [in_quotes2 UM UH _ _ hMl hHl, units_wrong HU.out.2.2 H M (by omega)]
    obtain ⟨E, hE⟩ : ∃ E, BA (encodeRune (C : Int)) = E := ⟨_, rfl⟩
    have hcv := fun W b hc => one_rune (C : Int) W b hc
    simp only [hE] at hcv
    have hH6 : H < 65536 := by omega
    have hM6 : M < 65536 := by omega
    have HR := Lib.hid (And.intro r2 (And.intro r3 (And.intro hE (And.intro hH6 (And.intro hM6 (And.intro qH qM))))))
    clear hb4 hc4 hn hna hHl hMl r2 r3 hE qH qM hH6 hM6 hH hM hC hh hl ha
    go_wp2_with fail
    refine (HU.out.1 H B _ HR.out.2.2.2.1 H4.out.1).mono ?_
    rintro e w5 ⟨rfl, hb5⟩
    rw [hUH]
    have H5 := Lib.hid (And.intro (bcell hb5 H4.out.1) (And.intro (H4.out.2.trans (hb5.mono H4.out.2.size)) (HE1.out.below hb5)))
    clear hb5
    go_wp2_with fail
    refine (HU.out.1 M B _ HR.out.2.2.2.2.1 H5.out.1).mono ?_
    rintro e w6 ⟨rfl, hb6⟩
    rw [hUM]
    have H6 := Lib.hid (And.intro (bcell hb6 H5.out.1) (And.intro (H5.out.2.1.trans (hb6.mono H5.out.2.1.size)) (H5.out.2.2.below hb6)))
    clear hb6
    go_wp2_with fail
    refine (unquote_any ((⟨#[34]⟩ : ByteArray) ++ UH ++ UM ++ (⟨#[34]⟩ : ByteArray)) _ (by rw [app_size, app_size, app_size, HR.out.2.2.2.2.2.1, HR.out.2.2.2.2.2.2, q34]; omega) (HT.out.1.below H6.out.2.1)).mono ?_
    rintro e w7 ⟨hU7, hb7⟩
    unfold Unq at hU7
    rw [HR.out.1] at hU7
    dsimp only at hU7
    rw [HR.out.2.2.1] at hU7
    subst hU7
    have H7 := Lib.hid (And.intro (bcell hb7 H6.out.1) (And.intro (H6.out.2.1.trans (hb7.mono H6.out.2.1.size)) (H6.out.2.2.below hb7)))
    clear hb7
    go_wp2_with fail
    refine (HU.out.1 M B _ HR.out.2.2.2.2.1 H7.out.1).mono ?_
    rintro e w8 ⟨rfl, hb8⟩
    rw [hUM]
    have H8 := Lib.hid (And.intro (bcell hb8 H7.out.1) (And.intro (H7.out.2.1.trans (hb8.mono H7.out.2.1.size)) (H7.out.2.2.below hb8)))
    clear hb8
    go_wp2_with fail
    refine (HU.out.1 H B _ HR.out.2.2.2.1 H8.out.1).mono ?_
    rintro e w9 ⟨rfl, hb9⟩
    rw [hUH]
    have H9 := Lib.hid (And.intro (bcell hb9 H8.out.1) (And.intro (H8.out.2.1.trans (hb9.mono H8.out.2.1.size)) (H8.out.2.2.below hb9)))
    clear hb9
    go_wp2_with fail
    refine (unquote_any ((⟨#[34]⟩ : ByteArray) ++ UM ++ UH ++ (⟨#[34]⟩ : ByteArray)) _ (by rw [app_size, app_size, app_size, HR.out.2.2.2.2.2.1, HR.out.2.2.2.2.2.2, q34]; omega) (HT.out.1.below H9.out.2.1)).mono ?_
    rintro e w10 ⟨hU10, hb10⟩
    unfold Unq at hU10
    rw [HR.out.2.1] at hU10
    obtain ⟨v2, rfl, hc10⟩ := hU10
    have H10 := Lib.hid (And.intro hc10 (And.intro (H9.out.2.1.trans (hb10.mono H9.out.2.1.size)) (H9.out.2.2.below hb10)))
    clear hb10 hc10
    go_wp2_with fail
    refine (code_chain 1 v 1 _ H10.out.2.2 (HT.out.2.below H10.out.2.1)).mono ?_
    rintro e w11 ⟨rfl, hb11⟩
    have H11 := Lib.hid (And.intro (H10.out.1.below hb11) (H10.out.2.1.trans (hb11.mono H10.out.2.1.size)))
    clear hb11
    go_wp2_with fail
    refine (code_chain 1 v2 1 _ (H11.out.1.below ((Below.refl _ _).alloc (Nat.le_refl _) _)) (HT.out.2.below (H11.out.2.alloc H11.out.2.size _))).mono ?_
    rintro e w12 ⟨rfl, hb12⟩
    have H12 := Lib.hid ((H11.out.2.alloc H11.out.2.size _).trans (hb12.mono (H11.out.2.alloc H11.out.2.size _).size))
    clear hb12
    go_wp2
    go_ret
    exact ⟨rfl, H12.out⟩

set_option maxHeartbeats 4000000 in
set_option maxRecDepth 100000 in
theorem units_low (a b : Nat) (w : World) (ha : a < 65536) (_hb : b < 65536) (hT : Tabs w) (hg : ErrT w) :
    Calls Tryd.prog 13 #[.int .u16 a, .int .u16 b, .bool false] w fun e w' => e = .returned (.bool true) ∧ Below w.heap.size w w' := by
  have HT := Lib.hid (And.intro hT hg)
  clear hT hg
  have hdg : Dig hexD := dig_low
  have cU : ∀ (n B : Nat) (W : World), n < 65536 → W.cell? ⟨B, 0, none⟩ = some (.string ⟨#[48, 49, 50, 51, 52, 53, 54, 55, 56, 57, 97, 98, 99, 100, 101, 102]⟩) → Calls Tryd.prog 34 #[.int .u16 n, .pointer (some ⟨B, 0, none⟩)] W fun e w' => e = .returned (.string (BA (unit4 hexD n))) ∧ Below W.heap.size W w' := fun n B W hn hc =>
    four_cl n B ⟨#[48, 49, 50, 51, 52, 53, 54, 55, 56, 57, 97, 98, 99, 100, 101, 102]⟩ hexD W hn rfl (fun k h => digit_at k h h) hc
  have hus : ∀ n, (BA (unit4 hexD n)).size = 6 := fun n => rfl
  obtain ⟨U, hU⟩ : ∃ U : Nat → ByteArray, U = fun n => BA (unit4 hexD n) := ⟨_, rfl⟩
  have hUn : ∀ n, BA (unit4 hexD n) = U n := fun n => by rw [hU]
  have hUs : ∀ n, (U n).size = 6 := fun n => by rw [← hUn]; rfl
  have hUl : ∀ n, (U n).data.toList = unit4 hexD n := fun n => by rw [← hUn]
  simp only [hUn] at cU
  have HU := Lib.hid (And.intro cU (And.intro hUl hdg))
  obtain ⟨UA, hUA⟩ : ∃ u, U a = u := ⟨_, rfl⟩
  have qA := hUs a
  rw [hUA] at qA
  have hAl := HU.out.2.1 a
  rw [hUA] at hAl
  have HQ := Lib.hid (And.intro hUs qA)
  have hcat1 : ¬ 9223372036854775807 < 1 + UA.size := by omega
  have hcat2 : ¬ 9223372036854775807 < 1 + UA.size + 1 := by omega
  clear hU hUn hus cU hUl hdg hUs qA
  have q34 : (⟨#[34]⟩ : ByteArray).size = 1 := rfl
  go_enter Tryd.func13, Tryd.ntmps13
  go_wp2_with fail
  refine (tawake_any _ HT.out.1 HT.out.2).mono ?_
  rintro e w1 ⟨rfl, hb1⟩
  have H1 := Lib.hid hb1
  clear hb1
  go_wp2_with fail
  obtain ⟨B, hB⟩ : ∃ B, w1.heap.size = B := ⟨_, rfl⟩
  have hcl := bcell0 w1 ⟨#[48, 49, 50, 51, 52, 53, 54, 55, 56, 57, 97, 98, 99, 100, 101, 102]⟩
  rw [hB] at hcl
  rw [hB]
  have HC0 := Lib.hid (And.intro hcl (H1.out.alloc (by have := H1.out.size; omega) (.cells #[.string ⟨#[48, 49, 50, 51, 52, 53, 54, 55, 56, 57, 97, 98, 99, 100, 101, 102]⟩] 9)))
  clear hcl hB
  generalize w1.alloc (.cells #[.string ⟨#[48, 49, 50, 51, 52, 53, 54, 55, 56, 57, 97, 98, 99, 100, 101, 102]⟩] 9) = w2 at HC0 ⊢
  refine (HU.out.1 a B w2 ha HC0.out.1).mono ?_
  rintro e w3 ⟨rfl, hb3⟩
  rw [hUA]
  have H3 := Lib.hid (And.intro (bcell hb3 HC0.out.1) (HC0.out.2.trans (hb3.mono HC0.out.2.size)))
  clear hb3
  go_wp2_with fail
  refine (unquote_any ((⟨#[34]⟩ : ByteArray) ++ UA ++ (⟨#[34]⟩ : ByteArray)) _ (by rw [app_size, app_size, HQ.out.2, q34]; omega) (HT.out.1.below H3.out.2)).mono ?_
  rintro e w4 ⟨hU4, hb4⟩
  unfold Unq at hU4
  rw [in_quotes UA _ hAl] at hU4
  have H4 := Lib.hid (And.intro (bcell hb4 H3.out.1) (H3.out.2.trans (hb4.mono H3.out.2.size)))
  clear hAl
  by_cases hn : a < 55296 ∨ 57343 < a
  · rw [units_one HU.out.2.2 a ha hn] at hU4
    dsimp only at hU4
    obtain ⟨E, hE⟩ : ∃ E, BA (encodeRune (a : Int)) = E := ⟨_, rfl⟩
    have hcv := fun W b hc => one_rune (a : Int) W b hc
    simp only [hE] at hcv
    rw [hE] at hU4
    subst hU4
    have hwr : IntKind.i32.wrap (a : Int) = (a : Int) := IntWalk.i32_in _ (by omega)
    clear hb4 hE
    rcases hn with hn | hn
    · have d1 : decide ((a : Int) < 55296) = true := decide_eq_true (by omega)
      have d1' : (a : Int) < 55296 := by omega
      clear hn
      go_wp2
      go_ret
      exact ⟨rfl, H4.out.2.alloc H4.out.2.size _⟩
    · have d1 : decide ((a : Int) < 55296) = false := decide_eq_false (by omega)
      have d2 : decide ((57343 : Int) < (a : Int)) = true := decide_eq_true (by omega)
      have d2' : (57343 : Int) < (a : Int) := by omega
      clear hn
      go_wp2
      go_ret
      exact ⟨rfl, H4.out.2.alloc H4.out.2.size _⟩
  · have hna : 55296 ≤ a ∧ a ≤ 57343 := by omega
    rw [units_half HU.out.2.2 a hna] at hU4
    obtain ⟨v, rfl, hc4⟩ := hU4
    have HE1 := Lib.hid hc4
    obtain ⟨h, hh⟩ : ∃ h, a % 1024 = h := ⟨_, rfl⟩
    obtain ⟨l, hl⟩ : ∃ l, b % 1024 = l := ⟨_, rfl⟩
    have d1 : decide ((a : Int) < 55296) = false := decide_eq_false (by omega)
    have d2 : decide ((57343 : Int) < (a : Int)) = false := decide_eq_false (by omega)
    have m1 : (a : Int) % 1024 = (h : Int) := by omega
    have m2 : (b : Int) % 1024 = (l : Int) := by omega
    obtain ⟨H, hH⟩ : ∃ H, 55296 + h = H := ⟨_, rfl⟩
    obtain ⟨M, hM⟩ : ∃ M, 56320 + l = M := ⟨_, rfl⟩
    obtain ⟨C, hC⟩ : ∃ C, 65536 + (H - 55296) * 1024 + (M - 56320) = C := ⟨_, rfl⟩
    have t1 : (55296 : Int) + (h : Int) = (H : Int) := by omega
    have t2 : (56320 : Int) + (l : Int) = (M : Int) := by omega
    have t3 : (H : Int) - 55296 = (h : Int) := by omega
    have t4 : (M : Int) - 56320 = (l : Int) := by omega
    have t5 : (65536 : Int) + (h : Int) * 1024 + (l : Int) = (C : Int) := by omega
    have z1 : (h : Int) < 1024 := by omega
    have z2 : (l : Int) < 1024 := by omega
    have y1 : (H : Int) < 65536 := by omega
    have y2 : (M : Int) < 65536 := by omega
    have x1 : (55296 : Int) ≤ (H : Int) := by omega
    have x2 : (56320 : Int) ≤ (M : Int) := by omega
    obtain ⟨UH, hUH⟩ : ∃ u, U H = u := ⟨_, rfl⟩
    obtain ⟨UM, hUM⟩ : ∃ u, U M = u := ⟨_, rfl⟩
    have hHl := HU.out.2.1 H
    have hMl := HU.out.2.1 M
    rw [hUH] at hHl
    rw [hUM] at hMl
    have qH := HQ.out.1 H
    have qM := HQ.out.1 M
    rw [hUH] at qH
    rw [hUM] at qM
    have hcat3 : ¬ 9223372036854775807 < 1 + UH.size := by omega
    have hcat4 : ¬ 9223372036854775807 < 1 + UH.size + UM.size := by omega
    have hcat5 : ¬ 9223372036854775807 < 1 + UH.size + UM.size + 1 := by omega
    have hcat6 : ¬ 9223372036854775807 < 1 + UM.size := by omega
    have hcat7 : ¬ 9223372036854775807 < 1 + UM.size + UH.size := by omega
    have hcat8 : ¬ 9223372036854775807 < 1 + UM.size + UH.size + 1 := by omega
    have r2 : readL ((⟨#[34]⟩ : ByteArray) ++ UH ++ UM ++ (⟨#[34]⟩ : ByteArray)).data.toList = some (encodeRune (C : Int), 14) := by
      rw [in_quotes2 UH UM _ _ hHl hMl, units_two HU.out.2.2 H M (by omega) (by omega), hC]
    have r3 : readL ((⟨#[34]⟩ : ByteArray) ++ UM ++ UH ++ (⟨#[34]⟩ : ByteArray)).data.toList = none := by
      rw [in_quotes2 UM UH _ _ hMl hHl, units_wrong HU.out.2.2 H M (by omega)]
    obtain ⟨E, hE⟩ : ∃ E, BA (encodeRune (C : Int)) = E := ⟨_, rfl⟩
    have hcv := fun W b hc => one_rune (C : Int) W b hc
    simp only [hE] at hcv
    have hH6 : H < 65536 := by omega
    have hM6 : M < 65536 := by omega
    have HR := Lib.hid (And.intro r2 (And.intro r3 (And.intro hE (And.intro hH6 (And.intro hM6 (And.intro qH qM))))))
    clear hb4 hc4 hn hna hHl hMl r2 r3 hE qH qM hH6 hM6 hH hM hC hh hl ha
    go_wp2_with fail
    refine (HU.out.1 H B _ HR.out.2.2.2.1 H4.out.1).mono ?_
    rintro e w5 ⟨rfl, hb5⟩
    rw [hUH]
    have H5 := Lib.hid (And.intro (bcell hb5 H4.out.1) (And.intro (H4.out.2.trans (hb5.mono H4.out.2.size)) (HE1.out.below hb5)))
    clear hb5
    go_wp2_with fail
    refine (HU.out.1 M B _ HR.out.2.2.2.2.1 H5.out.1).mono ?_
    rintro e w6 ⟨rfl, hb6⟩
    rw [hUM]
    have H6 := Lib.hid (And.intro (bcell hb6 H5.out.1) (And.intro (H5.out.2.1.trans (hb6.mono H5.out.2.1.size)) (H5.out.2.2.below hb6)))
    clear hb6
    go_wp2_with fail
    refine (unquote_any ((⟨#[34]⟩ : ByteArray) ++ UH ++ UM ++ (⟨#[34]⟩ : ByteArray)) _ (by rw [app_size, app_size, app_size, HR.out.2.2.2.2.2.1, HR.out.2.2.2.2.2.2, q34]; omega) (HT.out.1.below H6.out.2.1)).mono ?_
    rintro e w7 ⟨hU7, hb7⟩
    unfold Unq at hU7
    rw [HR.out.1] at hU7
    dsimp only at hU7
    rw [HR.out.2.2.1] at hU7
    subst hU7
    have H7 := Lib.hid (And.intro (bcell hb7 H6.out.1) (And.intro (H6.out.2.1.trans (hb7.mono H6.out.2.1.size)) (H6.out.2.2.below hb7)))
    clear hb7
    go_wp2_with fail
    refine (HU.out.1 M B _ HR.out.2.2.2.2.1 H7.out.1).mono ?_
    rintro e w8 ⟨rfl, hb8⟩
    rw [hUM]
    have H8 := Lib.hid (And.intro (bcell hb8 H7.out.1) (And.intro (H7.out.2.1.trans (hb8.mono H7.out.2.1.size)) (H7.out.2.2.below hb8)))
    clear hb8
    go_wp2_with fail
    refine (HU.out.1 H B _ HR.out.2.2.2.1 H8.out.1).mono ?_
    rintro e w9 ⟨rfl, hb9⟩
    rw [hUH]
    have H9 := Lib.hid (And.intro (bcell hb9 H8.out.1) (And.intro (H8.out.2.1.trans (hb9.mono H8.out.2.1.size)) (H8.out.2.2.below hb9)))
    clear hb9
    go_wp2_with fail
    refine (unquote_any ((⟨#[34]⟩ : ByteArray) ++ UM ++ UH ++ (⟨#[34]⟩ : ByteArray)) _ (by rw [app_size, app_size, app_size, HR.out.2.2.2.2.2.1, HR.out.2.2.2.2.2.2, q34]; omega) (HT.out.1.below H9.out.2.1)).mono ?_
    rintro e w10 ⟨hU10, hb10⟩
    unfold Unq at hU10
    rw [HR.out.2.1] at hU10
    obtain ⟨v2, rfl, hc10⟩ := hU10
    have H10 := Lib.hid (And.intro hc10 (And.intro (H9.out.2.1.trans (hb10.mono H9.out.2.1.size)) (H9.out.2.2.below hb10)))
    clear hb10 hc10
    go_wp2_with fail
    refine (code_chain 1 v 1 _ H10.out.2.2 (HT.out.2.below H10.out.2.1)).mono ?_
    rintro e w11 ⟨rfl, hb11⟩
    have H11 := Lib.hid (And.intro (H10.out.1.below hb11) (H10.out.2.1.trans (hb11.mono H10.out.2.1.size)))
    clear hb11
    go_wp2_with fail
    refine (code_chain 1 v2 1 _ (H11.out.1.below ((Below.refl _ _).alloc (Nat.le_refl _) _)) (HT.out.2.below (H11.out.2.alloc H11.out.2.size _))).mono ?_
    rintro e w12 ⟨rfl, hb12⟩
    have H12 := Lib.hid ((H11.out.2.alloc H11.out.2.size _).trans (hb12.mono (H11.out.2.alloc H11.out.2.size _).size))
    clear hb12
    go_wp2
    go_ret
    exact ⟨rfl, H12.out⟩

theorem tunits_law (a b : Int) (great : Bool) (w : World) (ha : 0 ≤ a ∧ a ≤ 65535) (hb : 0 ≤ b ∧ b ≤ 65535) (hT : Tabs w) (hg : ErrT w) :
    Calls Tryd.prog 13 #[.int .u16 a, .int .u16 b, .bool great] w fun e w' => e = .returned (.bool true) ∧ Below w.heap.size w w' := by
  obtain ⟨A, rfl⟩ : ∃ A : Nat, a = A := ⟨a.toNat, by omega⟩
  obtain ⟨B, rfl⟩ : ∃ B : Nat, b = B := ⟨b.toNat, by omega⟩
  cases great
  · exact units_low A B w (by omega) (by omega) hT hg
  · exact units_up A B w (by omega) (by omega) hT hg
end Go.Proofs.YthlioinmeimhoaaDoor
