/- The JSON reader's parts: what must be laid, quoted texts, digits. -/
import Derived.Test.YtccnfnoonpfdfaaGreatDoorJnF
namespace Go.Proofs.YtccnfnoonpfdfaaGreatDoor
open Go.Shelf Go.RowKit Go.Lib

/-! ### what the program's variables hold -/
structure Env (w : World) : Prop where
  tabs : Tabs w
  errt : ErrT w
  pow : Lib.TabIs Tryz.prog w "internal/strconv.uint64pow10" .u64 Lib.pow10Tab
  bad : ∃ tp p, w.var? Tryz.prog "strconv.ErrSyntax" = some #[.iface tp p]
  far : ∃ tp p, w.var? Tryz.prog "strconv.ErrRange" = some #[.iface tp p]
theorem env_same {w w2 : World} (h : Env w) (hb : ∀ g, g < 11 → w2.heap[g]? = w.heap[g]?) : Env w2 := by
  have hc : ∀ (g k : Nat), g < 11 → w2.cell? ⟨g, k, none⟩ = w.cell? ⟨g, k, none⟩ := fun g k hg => by unfold World.cell?; simp only [hb g hg]
  have hv : ∀ (n : String) (g : Nat), Tryz.prog.globalNamed n = some g → g < 11 → w2.var? Tryz.prog n = w.var? Tryz.prog n := fun n g hn hg => by unfold World.var?; rw [hn]; simp only [Option.bind_some, hb g hg]
  refine ⟨⟨fun c hcc => ?_, fun i hi => ⟨?_, ?_⟩⟩, ?_, ?_, ?_, ?_⟩
  · rw [hc _ _ (by decide)]; exact h.tabs.1 c hcc
  · rw [hc _ _ (by decide)]; exact (h.tabs.2 i hi).1
  · rw [hc _ _ (by decide)]; exact (h.tabs.2 i hi).2
  · unfold ErrT; rw [hc _ _ (by decide)]; exact h.errt
  · unfold Lib.TabIs; rw [hv _ 5 (by kernel_rfl) (by decide)]; exact h.pow
  · rw [hv _ 9 (by kernel_rfl) (by decide)]; exact h.bad
  · rw [hv _ 10 (by kernel_rfl) (by decide)]; exact h.far
theorem Env.only {S : Nat → Prop} {w w2 : World} (h : Env w) (hw : 11 ≤ w.heap.size) (ho : Only S w w2) (hS : ∀ g, g < 11 → ¬ S g) : Env w2 := env_same h (fun g hg => ho.block g (by omega) (hS g hg))
theorem Env.below {w w2 : World} (h : Env w) (hw : 11 ≤ w.heap.size) (hb : Below w.heap.size w w2) : Env w2 := env_same h (fun g hg => hb.block g (by omega))

/-! ### quoted -/
def txtS (st : Except Nat BL) : Res BL := match st with
  | .ok r => textP r
  | .error e => .error e
def TextPost (w : World) (rb : Nat) (s : BL) (res : Res BL) (e : Ending) (w' : World) : Prop := ∃ t, e = .returned (.string t) ∧ (match res with
  | .ok p => t = BA p.1 ∧ RS w' rb s (.ok p.2)
  | .error c => RS w' rb s (.error c)) ∧ Only (· = rb) w w'
theorem chain_iface {w : World} {n : Nat} {v : Value} {c : Int} (h : Chain w n v c) : ∃ t u, v = .iface t u := h.ne_nil
set_option maxHeartbeats 4000000 in
set_option maxRecDepth 100000 in
theorem quoted_any (rb : Nat) (s : BL) (st : Except Nat BL) (w : World) (hs : s.length ≤ 1000000) (hR : RS w rb s st) (hE : Env w) (hrb : 11 ≤ rb) :
    Calls Tryz.prog 61 #[.pointer (some ⟨rb, 0, none⟩)] w (TextPost w rb s (txtS st)) := by
  have hlt := hR.lt
  obtain ⟨k, c, hk, hB, h⟩ := hR.any
  clear hR
  obtain ⟨S, hS⟩ : ∃ S, BA s = S := ⟨_, rfl⟩
  have hSs : S.size = s.length := by rw [← hS, ba_size]
  obtain ⟨X, hX⟩ : ∃ X, S.extract k S.size = X := ⟨_, rfl⟩
  have hXL : X = BA (s.drop k) := by rw [← hX, ← hS, ba_ext]
  have cU := unquote_any X w.drew (by rw [hXL, ba_size, List.length_drop]; omega) hE.tabs
  rw [show X.data.toList = s.drop k by rw [hXL]] at cU
  have hB' : Blk w rb 64 [.string S, .int .i64 k, .int .i64 c] := by rw [← hS]; exact hB
  have hkz : (k : Int) ≤ (S.size : Int) := by omega
  have hk0 : (0 : Int) ≤ (k : Int) := by omega
  have H := Lib.hid (And.intro hB (And.intro hs (And.intro hk (And.intro h (And.intro hE (And.intro cU (And.intro hB' (And.intro hrb hlt))))))))
  clear hB hs hk h hE cU hXL hS hB' hSs hrb hlt
  cases hr : readL (s.drop k) with
  | none =>
    have hcall : Calls Tryz.prog 96 #[.string X] w.drew fun e w' => ∃ v, e = .returned (.tuple #[.string ⟨#[]⟩, .int .i64 0, v]) ∧ Chain w' 1 v 1 ∧ Below w.heap.size w w' := H.out.2.2.2.2.2.1.mono (fun e w' ⟨hu, hb⟩ => by
      unfold Unq at hu
      rw [hr] at hu
      obtain ⟨v, he, hc⟩ := hu
      exact ⟨v, he, hc, ((Below.refl _ w).drew).trans hb⟩)
    have HC := Lib.hid (And.intro hcall hr)
    clear hcall hr
    go_enter Tryz.func61, Tryz.ntmps61
    go_wp2
    refine AnyP.begin (J := fun j => Nat.ble j 8) (S := fun W => Blk W rb 64 [.string S, .int .i64 k, .int .i64 c]) (by kernel_rfl) rfl rfl ?_
    refine AnyP.takeP (i := 0) (v := .pointer (some ⟨rb, 0, none⟩)) rfl rfl (by kernel_rfl) (by kernel_rfl) (by kernel_rfl) (fun _ _ _ h => h) (by rfl) ?_ ?_
    · intro W
      go_simp
      try (with_reducible rfl)
    simp only [Act.put, List.setIfInBounds_toArray, List.set_cons_zero, List.set_cons_succ]
    refine AnyP.takeP (i := 1) (v := .pointer (some ⟨rb, 0, none⟩)) rfl rfl (by kernel_rfl) (by kernel_rfl) (by kernel_rfl) (fun _ _ _ h => h) (by rfl) ?_ ?_
    · intro W
      go_simp
      try (with_reducible rfl)
    simp only [Act.put, List.setIfInBounds_toArray, List.set_cons_zero, List.set_cons_succ]
    refine AnyP.takeP (i := 2) (v := .pointer (some ⟨rb, 0, none⟩)) rfl rfl (by kernel_rfl) (by kernel_rfl) (by kernel_rfl) (fun _ _ _ h => h) (by rfl) ?_ ?_
    · intro W
      go_simp
      try (with_reducible rfl)
    simp only [Act.put, List.setIfInBounds_toArray, List.set_cons_zero, List.set_cons_succ]
    refine AnyP.takeT [4, 5, 6, 7] (by rfl) (i := 3) (v := .string S) rfl rfl (by kernel_rfl) (by kernel_rfl) (by kernel_rfl) (by kernel_rfl) (fun _ _ _ h => h) (by rfl) ?_ H.out.2.2.2.2.2.2.1.drew ?_
    · intro W hW
      have n0 := hW.cell 0
      have n1 := hW.cell 1
      go_simp
      try (with_reducible rfl)
    simp only [Act.put, List.setIfInBounds_toArray, List.set_cons_zero, List.set_cons_succ]
    refine AnyP.takeP (i := 4) (v := .pointer (some ⟨rb, 0, none⟩)) rfl rfl (by kernel_rfl) (by kernel_rfl) (by kernel_rfl) (fun _ _ _ h => h) (by rfl) ?_ ?_
    · intro W
      go_simp
      try (with_reducible rfl)
    simp only [Act.put, List.setIfInBounds_toArray, List.set_cons_zero, List.set_cons_succ]
    refine AnyP.takeP (i := 5) (v := .pointer (some ⟨rb, 0, none⟩)) rfl rfl (by kernel_rfl) (by kernel_rfl) (by kernel_rfl) (fun _ _ _ h => h) (by rfl) ?_ ?_
    · intro W
      go_simp
      try (with_reducible rfl)
    simp only [Act.put, List.setIfInBounds_toArray, List.set_cons_zero, List.set_cons_succ]
    refine AnyP.takeP (i := 6) (v := .pointer (some ⟨rb, 1, none⟩)) rfl rfl (by kernel_rfl) (by kernel_rfl) (by kernel_rfl) (fun _ _ _ h => h) (by rfl) ?_ ?_
    · intro W
      go_simp
      try (with_reducible rfl)
    simp only [Act.put, List.setIfInBounds_toArray, List.set_cons_zero, List.set_cons_succ]
    refine AnyP.takeT [] (by rfl) (i := 7) (v := .int .i64 k) rfl rfl (by kernel_rfl) (by kernel_rfl) (by kernel_rfl) (by kernel_rfl) (fun _ _ _ h => h) (by rfl) ?_ H.out.2.2.2.2.2.2.1.drew ?_
    · intro W hW
      have n0 := hW.cell 0
      have n1 := hW.cell 1
      go_simp
      try (with_reducible rfl)
    simp only [Act.put, List.setIfInBounds_toArray, List.set_cons_zero, List.set_cons_succ]
    refine AnyP.takeP (i := 8) (v := .string X) rfl rfl (by kernel_rfl) (by kernel_rfl) (by kernel_rfl) (fun _ _ _ h => h) (by rfl) ?_ ?_
    · intro W
      go_simp
      try (with_reducible rfl)
    simp only [Act.put, List.setIfInBounds_toArray, List.set_cons_zero, List.set_cons_succ]
    refine AnyP.oneL (i := 9) (by kernel_rfl) rfl (fun K hK => ?_)
    go_simp
    go_at_call 96
    refine (show Calls _ _ _ _ _ from HC.out.1).mono ?_
    rintro e w2 ⟨v, rfl, hc, hb⟩
    obtain ⟨ty, uu, rfl⟩ := chain_iface hc
    refine hK.out _ _ (fun h => by cases h) ?_
    clear hK K
    (try simp only [Act.put, List.setIfInBounds_toArray, List.set_cons_zero, List.set_cons_succ])
    refine AnyP.takeP (i := 10) (v := .tuple #[.string ⟨#[]⟩, .int .i64 0, .iface ty uu]) rfl rfl (by kernel_rfl) (by kernel_rfl) (by kernel_rfl) (fun _ _ _ h => h) (by rfl) ?_ ?_
    · intro W
      go_simp
      try (with_reducible rfl)
    simp only [Act.put, List.setIfInBounds_toArray, List.set_cons_zero, List.set_cons_succ]
    refine AnyP.takeP (i := 11) (v := .string ⟨#[]⟩) rfl rfl (by kernel_rfl) (by kernel_rfl) (by kernel_rfl) (fun _ _ _ h => h) (by rfl) ?_ ?_
    · intro W
      go_simp
      try (with_reducible rfl)
    simp only [Act.put, List.setIfInBounds_toArray, List.set_cons_zero, List.set_cons_succ]
    refine AnyP.takeP (i := 12) (v := .int .i64 0) rfl rfl (by kernel_rfl) (by kernel_rfl) (by kernel_rfl) (fun _ _ _ h => h) (by rfl) ?_ ?_
    · intro W
      go_simp
      try (with_reducible rfl)
    simp only [Act.put, List.setIfInBounds_toArray, List.set_cons_zero, List.set_cons_succ]
    refine AnyP.takeP (i := 13) (v := .iface ty uu) rfl rfl (by kernel_rfl) (by kernel_rfl) (by kernel_rfl) (fun _ _ _ h => h) (by rfl) ?_ ?_
    · intro W
      go_simp
      try (with_reducible rfl)
    simp only [Act.put, List.setIfInBounds_toArray, List.set_cons_zero, List.set_cons_succ]
    refine AnyP.takeP (i := 14) (v := .string ⟨#[]⟩) rfl rfl (by kernel_rfl) (by kernel_rfl) (by kernel_rfl) (fun _ _ _ h => h) (by rfl) ?_ ?_
    · intro W
      go_simp
      try (with_reducible rfl)
    simp only [Act.put, List.setIfInBounds_toArray, List.set_cons_zero, List.set_cons_succ]
    refine AnyP.takeP (i := 15) (v := .int .i64 0) rfl rfl (by kernel_rfl) (by kernel_rfl) (by kernel_rfl) (fun _ _ _ h => h) (by rfl) ?_ ?_
    · intro W
      go_simp
      try (with_reducible rfl)
    simp only [Act.put, List.setIfInBounds_toArray, List.set_cons_zero, List.set_cons_succ]
    refine AnyP.takeP (i := 16) (v := .iface ty uu) rfl rfl (by kernel_rfl) (by kernel_rfl) (by kernel_rfl) (fun _ _ _ h => h) (by rfl) ?_ ?_
    · intro W
      go_simp
      try (with_reducible rfl)
    simp only [Act.put, List.setIfInBounds_toArray, List.set_cons_zero, List.set_cons_succ]
    refine AnyP.done (by kernel_rfl) ?_
    have hB2 : RB w2 rb s k c := Blk.below H.out.1 hb
    have hE2 := H.out.2.2.2.2.1.below (by have := H.out.2.2.2.2.2.2.2.1; have := H.out.2.2.2.2.2.2.2.2; omega) hb
    have cC := code_chain 1 _ 1 w2 hc hE2.errt
    have H2 := Lib.hid (And.intro hB2 (And.intro hb cC))
    clear hB2 hE2 hb cC hc
    go_wp2_with fail
    refine H2.out.2.2.mono ?_
    rintro e w3 ⟨rfl, hb3⟩
    have hB3 : RB w3 rb s k c := Blk.below H2.out.1 hb3
    have H3 := Lib.hid (And.intro hB3 hb3)
    clear hB3 hb3
    go_wp2_with fail
    refine (wrong_rb rb s k c 1 w3 H3.out.1).mono ?_
    rintro e w4 ⟨rfl, hB4, ho4⟩
    have d1 := Blk.cell hB4 1
    have g1 := Blk.frozen hB4 1
    have hw1 : IntKind.i64.wrap ((k : Int) + 0) = (k : Int) := by rw [IntWalk.i64_in _ (by have := H.out.2.1; have := H.out.2.2.1; omega)]; omega
    have hw2 : IntKind.i64.wrap (k : Int) = (k : Int) := by rw [IntWalk.i64_in _ (by have := H.out.2.1; have := H.out.2.2.1; omega)]
    have H4 := Lib.hid (And.intro hB4 ho4)
    clear hB4 ho4
    go_wp2
    go_ret
    refine ⟨_, rfl, ?_, ?_⟩
    · have hR : ∀ d, d ≠ 0 → RB (w4.setCell ⟨rb, 1, none⟩ (.int .i64 (k : Int))) rb s k d → RS (w4.setCell ⟨rb, 1, none⟩ (.int .i64 (k : Int))) rb s (.error d) := fun d hd h => RS.of H.out.2.2.1 h hd
      have hB5 := Blk.set H4.out.1 1 (.int .i64 (k : Int))
      rcases H.out.2.2.2.1 with ⟨rfl, rfl⟩ | ⟨hc0, rfl⟩
      · have e : txtS (.ok (s.drop k)) = .error 1 := by show textP _ = _; unfold textP; rw [HC.out.2]
        rw [e]
        exact hR 1 (by decide) hB5
      · rw [if_neg hc0] at hB5
        exact hR c hc0 hB5
    · exact ((Only.ofBelow (H2.out.2.1.trans (H3.out.2.mono H2.out.2.1.size)) (· = rb)).trans H4.out.2).trans (Only.set1 _ _ _ _)
  | some p =>
    obtain ⟨t, m⟩ := p
    have hm := readL_le hr
    rw [List.length_drop] at hm
    obtain ⟨T, hT⟩ : ∃ T, BA t = T := ⟨_, rfl⟩
    have hcall : Calls Tryz.prog 96 #[.string X] w.drew fun e w' => e = .returned (.tuple #[.string T, .int .i64 m, .nilIface]) ∧ Below w.heap.size w w' := H.out.2.2.2.2.2.1.mono (fun e w' ⟨hu, hb⟩ => by
      unfold Unq at hu
      rw [hr] at hu
      exact ⟨by rw [← hT]; exact hu, ((Below.refl _ w).drew).trans hb⟩)
    have hw1 : IntKind.i64.wrap ((k : Int) + (m : Int)) = ((k + m : Nat) : Int) := by rw [IntWalk.i64_in _ (by have := H.out.2.1; omega)]; omega
    have HC := Lib.hid (And.intro hcall (And.intro hr (And.intro hm hT)))
    clear hcall hr hm hT
    go_enter Tryz.func61, Tryz.ntmps61
    go_wp2
    refine AnyP.begin (J := fun j => Nat.ble j 8) (S := fun W => Blk W rb 64 [.string S, .int .i64 k, .int .i64 c]) (by kernel_rfl) rfl rfl ?_
    refine AnyP.takeP (i := 0) (v := .pointer (some ⟨rb, 0, none⟩)) rfl rfl (by kernel_rfl) (by kernel_rfl) (by kernel_rfl) (fun _ _ _ h => h) (by rfl) ?_ ?_
    · intro W
      go_simp
      try (with_reducible rfl)
    simp only [Act.put, List.setIfInBounds_toArray, List.set_cons_zero, List.set_cons_succ]
    refine AnyP.takeP (i := 1) (v := .pointer (some ⟨rb, 0, none⟩)) rfl rfl (by kernel_rfl) (by kernel_rfl) (by kernel_rfl) (fun _ _ _ h => h) (by rfl) ?_ ?_
    · intro W
      go_simp
      try (with_reducible rfl)
    simp only [Act.put, List.setIfInBounds_toArray, List.set_cons_zero, List.set_cons_succ]
    refine AnyP.takeP (i := 2) (v := .pointer (some ⟨rb, 0, none⟩)) rfl rfl (by kernel_rfl) (by kernel_rfl) (by kernel_rfl) (fun _ _ _ h => h) (by rfl) ?_ ?_
    · intro W
      go_simp
      try (with_reducible rfl)
    simp only [Act.put, List.setIfInBounds_toArray, List.set_cons_zero, List.set_cons_succ]
    refine AnyP.takeT [4, 5, 6, 7] (by rfl) (i := 3) (v := .string S) rfl rfl (by kernel_rfl) (by kernel_rfl) (by kernel_rfl) (by kernel_rfl) (fun _ _ _ h => h) (by rfl) ?_ H.out.2.2.2.2.2.2.1.drew ?_
    · intro W hW
      have n0 := hW.cell 0
      have n1 := hW.cell 1
      go_simp
      try (with_reducible rfl)
    simp only [Act.put, List.setIfInBounds_toArray, List.set_cons_zero, List.set_cons_succ]
    refine AnyP.takeP (i := 4) (v := .pointer (some ⟨rb, 0, none⟩)) rfl rfl (by kernel_rfl) (by kernel_rfl) (by kernel_rfl) (fun _ _ _ h => h) (by rfl) ?_ ?_
    · intro W
      go_simp
      try (with_reducible rfl)
    simp only [Act.put, List.setIfInBounds_toArray, List.set_cons_zero, List.set_cons_succ]
    refine AnyP.takeP (i := 5) (v := .pointer (some ⟨rb, 0, none⟩)) rfl rfl (by kernel_rfl) (by kernel_rfl) (by kernel_rfl) (fun _ _ _ h => h) (by rfl) ?_ ?_
    · intro W
      go_simp
      try (with_reducible rfl)
    simp only [Act.put, List.setIfInBounds_toArray, List.set_cons_zero, List.set_cons_succ]
    refine AnyP.takeP (i := 6) (v := .pointer (some ⟨rb, 1, none⟩)) rfl rfl (by kernel_rfl) (by kernel_rfl) (by kernel_rfl) (fun _ _ _ h => h) (by rfl) ?_ ?_
    · intro W
      go_simp
      try (with_reducible rfl)
    simp only [Act.put, List.setIfInBounds_toArray, List.set_cons_zero, List.set_cons_succ]
    refine AnyP.takeT [] (by rfl) (i := 7) (v := .int .i64 k) rfl rfl (by kernel_rfl) (by kernel_rfl) (by kernel_rfl) (by kernel_rfl) (fun _ _ _ h => h) (by rfl) ?_ H.out.2.2.2.2.2.2.1.drew ?_
    · intro W hW
      have n0 := hW.cell 0
      have n1 := hW.cell 1
      go_simp
      try (with_reducible rfl)
    simp only [Act.put, List.setIfInBounds_toArray, List.set_cons_zero, List.set_cons_succ]
    refine AnyP.takeP (i := 8) (v := .string X) rfl rfl (by kernel_rfl) (by kernel_rfl) (by kernel_rfl) (fun _ _ _ h => h) (by rfl) ?_ ?_
    · intro W
      go_simp
      try (with_reducible rfl)
    simp only [Act.put, List.setIfInBounds_toArray, List.set_cons_zero, List.set_cons_succ]
    refine AnyP.oneL (i := 9) (by kernel_rfl) rfl (fun K hK => ?_)
    go_simp
    go_at_call 96
    refine (show Calls _ _ _ _ _ from HC.out.1).mono ?_
    rintro e w2 ⟨rfl, hb⟩
    refine hK.out _ _ (fun h => by cases h) ?_
    clear hK K
    (try simp only [Act.put, List.setIfInBounds_toArray, List.set_cons_zero, List.set_cons_succ])
    refine AnyP.takeP (i := 10) (v := .tuple #[.string T, .int .i64 m, .nilIface]) rfl rfl (by kernel_rfl) (by kernel_rfl) (by kernel_rfl) (fun _ _ _ h => h) (by rfl) ?_ ?_
    · intro W
      go_simp
      try (with_reducible rfl)
    simp only [Act.put, List.setIfInBounds_toArray, List.set_cons_zero, List.set_cons_succ]
    refine AnyP.takeP (i := 11) (v := .string T) rfl rfl (by kernel_rfl) (by kernel_rfl) (by kernel_rfl) (fun _ _ _ h => h) (by rfl) ?_ ?_
    · intro W
      go_simp
      try (with_reducible rfl)
    simp only [Act.put, List.setIfInBounds_toArray, List.set_cons_zero, List.set_cons_succ]
    refine AnyP.takeP (i := 12) (v := .int .i64 m) rfl rfl (by kernel_rfl) (by kernel_rfl) (by kernel_rfl) (fun _ _ _ h => h) (by rfl) ?_ ?_
    · intro W
      go_simp
      try (with_reducible rfl)
    simp only [Act.put, List.setIfInBounds_toArray, List.set_cons_zero, List.set_cons_succ]
    refine AnyP.takeP (i := 13) (v := .nilIface) rfl rfl (by kernel_rfl) (by kernel_rfl) (by kernel_rfl) (fun _ _ _ h => h) (by rfl) ?_ ?_
    · intro W
      go_simp
      try (with_reducible rfl)
    simp only [Act.put, List.setIfInBounds_toArray, List.set_cons_zero, List.set_cons_succ]
    refine AnyP.takeP (i := 14) (v := .string T) rfl rfl (by kernel_rfl) (by kernel_rfl) (by kernel_rfl) (fun _ _ _ h => h) (by rfl) ?_ ?_
    · intro W
      go_simp
      try (with_reducible rfl)
    simp only [Act.put, List.setIfInBounds_toArray, List.set_cons_zero, List.set_cons_succ]
    refine AnyP.takeP (i := 15) (v := .int .i64 m) rfl rfl (by kernel_rfl) (by kernel_rfl) (by kernel_rfl) (fun _ _ _ h => h) (by rfl) ?_ ?_
    · intro W
      go_simp
      try (with_reducible rfl)
    simp only [Act.put, List.setIfInBounds_toArray, List.set_cons_zero, List.set_cons_succ]
    refine AnyP.takeP (i := 16) (v := .nilIface) rfl rfl (by kernel_rfl) (by kernel_rfl) (by kernel_rfl) (fun _ _ _ h => h) (by rfl) ?_ ?_
    · intro W
      go_simp
      try (with_reducible rfl)
    simp only [Act.put, List.setIfInBounds_toArray, List.set_cons_zero, List.set_cons_succ]
    refine AnyP.done (by kernel_rfl) ?_
    have hB2 : RB w2 rb s k c := Blk.below H.out.1 hb
    have d1 := Blk.cell hB2 1
    have g1 := Blk.frozen hB2 1
    have H2 := Lib.hid (And.intro hB2 hb)
    clear hB2 hb
    go_wp2
    go_ret
    refine ⟨_, rfl, ?_, ?_⟩
    · have hB5 : RB (w2.setCell ⟨rb, 1, none⟩ (.int .i64 ((k + m : Nat) : Int))) rb s (k + m) c := Blk.set H2.out.1 1 (.int .i64 ((k + m : Nat) : Int))
      have hkm : k + m ≤ s.length := by have := HC.out.2.2.1; have := H.out.2.2.1; omega
      rcases H.out.2.2.2.1 with ⟨rfl, rfl⟩ | ⟨hc0, rfl⟩
      · have e : txtS (.ok (s.drop k)) = .ok (t, s.drop (k + m)) := by
          show textP _ = _
          unfold textP
          rw [HC.out.2.1]
          simp only []
          rw [List.drop_drop]
        rw [e]
        exact ⟨HC.out.2.2.2.symm, k + m, hkm, rfl, hB5⟩
      · exact RS.of hkm hB5 hc0
    · exact (Only.ofBelow H2.out.2 (· = rb)).trans (Only.set1 _ _ _ _)

/-! ### digits -/
theorem ba_mid (s p r : BL) (k : Nat) (h : s.drop k = p ++ r) : (BA s).extract k (k + p.length) = BA p := by
  apply ByteArray.ext
  have h2 : (s.take (k + p.length)).drop k = p := by rw [List.drop_take, h, Nat.add_sub_cancel_left, List.take_left]
  have h3 : ((BA s).extract k (k + p.length)).data = (List.toArray ((s.take (k + p.length)).drop k)) := by simp; rw [List.drop_take, Nat.add_sub_cancel_left]
  rw [h3, h2]
theorem digs_cons_no {c : UInt8} {t : BL} (h : isDig c = false) : digsL (c :: t) = [] := by rw [digsL, h]; rfl
set_option maxHeartbeats 4000000 in
set_option maxRecDepth 100000 in
theorem digits_rb (rb : Nat) (s : BL) (k c : Nat) (w : World) (hs : s.length ≤ 1000000) (hk : k ≤ s.length) (hB : RB w rb s k c) :
    Calls Tryz.prog 97 #[.pointer (some ⟨rb, 0, none⟩)] w fun e w' => e = .returned (.string (BA (digsL (s.drop k)))) ∧ RB w' rb s (k + (digsL (s.drop k)).length) c ∧ Only (· = rb) w w' := by
  obtain ⟨S, hS⟩ : ∃ S, BA s = S := ⟨_, rfl⟩
  have hSs : S.size = s.length := by rw [← hS, ba_size]
  have c1 := Blk.cell hB 1
  have H := Lib.hid (And.intro hB (And.intro hs (And.intro hS hSs)))
  clear hB hs hS hSs
  go_enter Tryz.func97, Tryz.ntmps97
  go_wp2_with fail
  clear c1
  go_loopg [] (s.length - k) (fun gk wr => ∃ p : BL, gk + (k + p.length) = s.length ∧ Hid (RB wr rb s (k + p.length) c ∧ s.drop k = p ++ s.drop (k + p.length) ∧ (∀ c ∈ p, isDig c = true) ∧ Only (· = rb) w wr))
  case atStart => exact ⟨[], by simp; omega, Lib.hid ⟨H.out.1, rfl, (fun _ h => by simp at h), Only.refl _ _⟩⟩
  case round =>
    obtain ⟨p, hg, HI⟩ := hrel
    obtain ⟨k', hk'⟩ : ∃ k', k + p.length = k' := ⟨_, rfl⟩
    rw [hk'] at hg HI
    have hB : Blk wr rb 64 [.string S, .int .i64 k', .int .i64 c] := by rw [← H.out.2.2.1]; exact HI.out.1
    have c0 := hB.cell 0
    have c1 := hB.cell 1
    have f1 := hB.frozen 1
    have HB := Lib.hid hB
    clear hB
    have fin : digsL (s.drop k') = [] → S.extract k k' = BA (digsL (s.drop k)) ∧ k + (digsL (s.drop k)).length = k' := fun hd => by
      have e1 : digsL (s.drop k) = p := by rw [HI.out.2.1]; exact digs_app' p _ HI.out.2.2.1 hd
      rw [e1, ← hk', ← H.out.2.2.1]
      exact ⟨ba_mid s p _ k HI.out.2.1, rfl⟩
    have hSs := H.out.2.2.2
    by_cases hp : k' < S.size
    · have hpz : (k' : Int) < (S.size : Int) := by omega
      have hple : (k' : Int) ≤ (S.size : Int) := by omega
      have hp0 : (0 : Int) ≤ (k' : Int) := by omega
      have hkz : (k : Int) ≤ (k' : Int) := by omega
      have hk0 : (0 : Int) ≤ (k : Int) := by omega
      obtain ⟨b, hb⟩ : ∃ b, S[k']'hp = b := ⟨_, rfl⟩
      have hsb : s[k']'(by omega) = b := by
        have := H.out.2.2.1
        subst this
        rw [← hb]; rfl
      have hst : s.drop k' = b :: s.drop (k' + 1) := by rw [List.drop_eq_getElem_cons (by omega), hsb]
      have hw1 : IntKind.i64.wrap ((k' : Int) + 1) = ((k' + 1 : Nat) : Int) := by rw [IntWalk.i64_in _ (by have := H.out.2.1; omega)]; omega
      clear hsb
      cases hbl : isDig b with
      | true =>
        have hbd : 48 ≤ b.toNat ∧ b.toNat ≤ 57 := by unfold isDig at hbl; simpa using hbl
        have h48 : (48 : Int) ≤ (b.toNat : Int) := by omega
        have h57 : (b.toNat : Int) ≤ 57 := by omega
        have HF := Lib.hid (show ∀ n, Hid (RB ((wr.drewN n).setCell ⟨rb, 1, none⟩ (.int .i64 ((k' + 1 : Nat) : Int))) rb s (k + (p ++ [b]).length) c ∧ s.drop k = (p ++ [b]) ++ s.drop (k + (p ++ [b]).length) ∧ (∀ c ∈ p ++ [b], isDig c = true) ∧ Only (· = rb) w ((wr.drewN n).setCell ⟨rb, 1, none⟩ (.int .i64 ((k' + 1 : Nat) : Int)))) from fun n => by
          refine Lib.hid ?_
          have e : k + (p ++ [b]).length = k' + 1 := by rw [List.length_append]; simp; omega
          rw [e]
          refine ⟨Blk.set (w := wr.drewN n) HI.out.1 1 _, by rw [HI.out.2.1, hst, List.append_assoc]; rfl, fun x hx => ?_, (HI.out.2.2.2.trans (Only.drewN _ _ n)).trans (Only.set1 _ _ _ _)⟩
          rcases List.mem_append.1 hx with hx | hx
          · exact HI.out.2.2.1 x hx
          · rw [List.mem_singleton] at hx; rw [hx]; exact hbl)
        obtain ⟨gn, rfl⟩ : ∃ n, gk = n + 1 := ⟨gk - 1, by omega⟩
        have HG := Lib.hid (show gn + (k + (p ++ [b]).length) = s.length by rw [List.length_append]; simp; omega)
        clear hst hbl hbd fin hSs hg hk hk'
        go_wp2
        go_quiet (fail)
        go_wp2
        go_roundg gn
        case rel => exact ⟨p ++ [b], HG.out, HF.out _⟩
        case measure => omega
      | false =>
        have hfin := fin (by rw [hst]; exact digs_cons_no hbl)
        obtain ⟨Y, hY⟩ : ∃ Y, S.extract k k' = Y := ⟨_, rfl⟩
        have HF := Lib.hid (show ∀ n m, Ending.returned (.string Y) = .returned (.string (BA (digsL (s.drop k)))) ∧ RB ((wr.drewN n).drewN m) rb s (k + (digsL (s.drop k)).length) c ∧ Only (· = rb) w ((wr.drewN n).drewN m) from fun n m => ⟨by rw [← hY, hfin.1], by rw [hfin.2]; exact HI.out.1, (HI.out.2.2.2.trans (Only.drewN _ _ n)).trans (Only.drewN _ _ m)⟩)
        have hor : ¬ 48 ≤ b.toNat ∨ ¬ b.toNat ≤ 57 := by
          by_cases h1 : 48 ≤ b.toNat
          · right; intro h2
            unfold isDig at hbl
            simp [h1, h2] at hbl
          · exact .inl h1
        clear hst hbl fin hfin hSs hg hk hk'
        by_cases h1 : 48 ≤ b.toNat
        · have h48 : (48 : Int) ≤ (b.toNat : Int) := by omega
          have h57 : ¬ (b.toNat : Int) ≤ 57 := by omega
          clear hor h1
          go_wp2
          go_quiet (fail)
          go_wp2
          go_quiet (fail)
          go_wp2
          go_ret
          exact HF.out _ _
        · have h48 : ¬ (48 : Int) ≤ (b.toNat : Int) := by omega
          have h48d : decide ((48 : Int) ≤ (b.toNat : Int)) = false := decide_eq_false h48
          have h48e : decide (48 ≤ b.toNat) = false := decide_eq_false h1
          clear hor h1
          go_wp2
          go_quiet (fail)
          go_wp2
          go_quiet (fail)
          go_wp2
          go_ret
          exact HF.out _ _
    · have hpz : ¬ (k' : Int) < (S.size : Int) := by omega
      have hple : (k' : Int) ≤ (S.size : Int) := by omega
      have hkz : (k : Int) ≤ (k' : Int) := by omega
      have hk0 : (0 : Int) ≤ (k : Int) := by omega
      have hfin := fin (by rw [List.drop_eq_nil_of_le (by omega)]; rfl)
      obtain ⟨Y, hY⟩ : ∃ Y, S.extract k k' = Y := ⟨_, rfl⟩
      have HF := Lib.hid (show ∀ n m, Ending.returned (.string Y) = .returned (.string (BA (digsL (s.drop k)))) ∧ RB ((wr.drewN n).drewN m) rb s (k + (digsL (s.drop k)).length) c ∧ Only (· = rb) w ((wr.drewN n).drewN m) from fun n m => ⟨by rw [← hY, hfin.1], by rw [hfin.2]; exact HI.out.1, (HI.out.2.2.2.trans (Only.drewN _ _ n)).trans (Only.drewN _ _ m)⟩)
      clear fin hfin hSs hg hk hk'
      go_wp2
      go_quiet (fail)
      go_wp2
      go_quiet (fail)
      go_wp2
      go_ret
      exact HF.out _ _
end Go.Proofs.YtccnfnoonpfdfaaGreatDoor
