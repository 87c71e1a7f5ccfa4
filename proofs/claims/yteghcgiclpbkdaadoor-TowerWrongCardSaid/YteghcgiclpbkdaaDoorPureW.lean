/- Whoever asks a tower for a thing that may be: what holds of it then. -/
import Derived.Test.YteghcgiclpbkdaaDoorPureM
namespace Go.Proofs.YteghcgiclpbkdaaDoor

theorem askQ_old {h l : List (Int × Int)} {id m : Int} {g : Int × Int} (hg : g ∈ h ++ l) : g ∈ (askQ h l id m).2.1 ++ (askQ h l id m).2.2 := by
  unfold askQ
  split
  · exact hg
  · split
    · rcases List.mem_append.1 hg with h1 | h1
      · exact List.mem_append_left _ (List.mem_append_left _ h1)
      · exact List.mem_append_right _ h1
    · rcases List.mem_append.1 hg with h1 | h1
      · exact List.mem_append_left _ h1
      · exact List.mem_append_right _ (List.mem_append_left _ h1)
theorem askQ_new {h l : List (Int × Int)} {id m : Int} {g : Int × Int} (hg : g ∈ (askQ h l id m).2.1 ++ (askQ h l id m).2.2) : g ∈ h ++ l ∨ g = (id, m) := by
  unfold askQ at hg
  split at hg
  · exact .inl hg
  · split at hg
    · simp only [List.mem_append, List.mem_singleton] at hg ⊢
      rcases hg with (h1 | h1) | h1
      · exact .inl (.inl h1)
      · exact .inr h1
      · exact .inl (.inr h1)
    · simp only [List.mem_append, List.mem_singleton] at hg ⊢
      rcases hg with h1 | h1 | h1
      · exact .inl (.inl h1)
      · exact .inl (.inr h1)
      · exact .inr h1
theorem askQ_has {h l : List (Int × Int)} {id m : Int} (hm : intentI m ≠ 0) : ∃ g ∈ (askQ h l id m).2.1 ++ (askQ h l id m).2.2, g.1 = id := by
  by_cases ht : thereB h l id = true
  · obtain ⟨g, hg, e⟩ := List.mem_map.1 ((thereB_iff h l id).1 ht)
    exact ⟨g, askQ_old hg, e⟩
  · refine ⟨(id, m), ?_, rfl⟩
    unfold askQ
    rw [if_neg (by simp [hm, ht])]
    split <;> simp

def rootL (σ : TS) : List (Int × Int) := σ.heldL (thingOf []) ++ σ.waitL (thingOf [])
theorem askT_root {σ : TS} {id : Int} {c : Climb} : rootL (askT σ id c).1 = if thingOf [] = c.way.getD c.asked nothing then (askQ (σ.getQ (thingOf [])).1 (σ.getQ (thingOf [])).2 id (modeAt c)).2.1 ++ (askQ (σ.getQ (thingOf [])).1 (σ.getQ (thingOf [])).2 id (modeAt c)).2.2 else rootL σ := by
  have : ((askT σ id c).1.getQ (thingOf [])) = if thingOf [] = c.way.getD c.asked nothing then (askQ (σ.getQ (c.way.getD c.asked nothing)).1 (σ.getQ (c.way.getD c.asked nothing)).2 id (modeAt c)).2 else σ.getQ (thingOf []) := getQ_setQ' σ _ _ _
  unfold rootL TS.heldL TS.waitL
  rw [this]
  split
  · rename_i e; rw [← e]
  · rfl
theorem modeAt_ok {c : Climb} (h : 1 ≤ c.mode ∧ c.mode ≤ 4) : 1 ≤ modeAt c ∧ modeAt c ≤ 4 := by
  unfold modeAt
  split
  · exact h
  · unfold intentI
    split
    · omega
    · split
      · omega
      · omega
structure RootOK (σ : TS) : Prop where
  mode : ∀ g ∈ rootL σ, 1 ≤ g.2
theorem askT_rootOK {σ : TS} (h : RootOK σ) {id : Int} {c : Climb} (hc : 1 ≤ c.mode ∧ c.mode ≤ 4) : RootOK (askT σ id c).1 := by
  refine ⟨fun g hg => ?_⟩
  rw [askT_root] at hg
  split at hg
  · rcases askQ_new hg with h1 | h1
    · exact h.mode g h1
    · rw [h1]; exact (modeAt_ok hc).1
  · exact h.mode g hg
theorem askT_rootIn {σ : TS} {id : Int} {c : Climb} {g : Int × Int} (hg : g ∈ rootL σ) : g ∈ rootL (askT σ id c).1 := by
  rw [askT_root]
  split
  · exact askQ_old hg
  · exact hg
theorem onN_root : ∀ (n : Nat) {σ : TS} {id : Int} {c : Climb}, σ.who id = some c → c.whole = false → (1 ≤ c.mode ∧ c.mode ≤ 4) → RootOK σ →
    RootOK (onN n σ id).1 ∧ (∀ g ∈ rootL σ, g ∈ rootL (onN n σ id).1) ∧ (onN n σ id).1.wholeB id = (onN n σ id).2 ∧ (onN n σ id).1.there id = true
  | 0, σ, id, c, hc, hw, hm, hr => by
    unfold onN; rw [hc]
    exact ⟨⟨hr.mode⟩, fun g hg => hg, by simp [TS.wholeB, TS.setC], by simp [TS.there, TS.setC]⟩
  | n + 1, σ, id, c, hc, hw, hm, hr => by
    unfold onN; rw [hc]
    simp only
    have hwho : (askT σ id c).1.who id = some { c with asked := c.asked + 1 } := by rw [askT_who]; simp
    split
    · obtain ⟨a, b, d, e⟩ := onN_root n hwho hw hm (askT_rootOK hr hm)
      exact ⟨a, fun g hg => b g (askT_rootIn hg), d, e⟩
    · exact ⟨askT_rootOK hr hm, fun g hg => askT_rootIn hg, by simp [TS.wholeB, hwho, hw], by simp [TS.there, hwho]⟩
theorem start_root {σ : TS} (h : InvS σ) {id : Int} {ss : List ByteArray} {m : Int} (hm : 1 ≤ m ∧ m ≤ 4) :
    RootOK (startT σ id ss m).1 ∧ inB (rootL (startT σ id ss m).1) id = true ∧ (startT σ id ss m).1.wholeB id = (startT σ id ss m).2 ∧ (startT σ id ss m).1.there id = true := by
  have hr0 : RootOK (σ.setC id (some ⟨wayOf ss, m, 0, false⟩)) := ⟨fun g hg => (h.mode hg).1⟩
  have hwho : (σ.setC id (some ⟨wayOf ss, m, 0, false⟩)).who id = some ⟨wayOf ss, m, 0, false⟩ := by simp [TS.setC]
  have hlen : (wayOf ss).length = ss.length + 1 := by simp [wayOf]
  have h0 : (wayOf ss).getD 0 nothing = thingOf [] := by
    have := (way_get ss 0 (thingOf [])).2 ⟨Nat.zero_le _, by simp⟩
    rw [List.getD_eq_getElem?_getD, this]; rfl
  unfold startT onT
  rw [hwho]
  simp only [hlen, Nat.sub_zero]
  have key := onN_root (ss.length + 1) hwho rfl hm hr0
  refine ⟨key.1, ?_, key.2.2⟩
  rw [inB_iff]
  have hwho2 : (askT (σ.setC id (some ⟨wayOf ss, m, 0, false⟩)) id ⟨wayOf ss, m, 0, false⟩).1.who id = some ⟨wayOf ss, m, 1, false⟩ := by rw [askT_who]; simp
  have hin : ∃ g ∈ rootL (askT (σ.setC id (some ⟨wayOf ss, m, 0, false⟩)) id ⟨wayOf ss, m, 0, false⟩).1, g.1 = id := by
    rw [askT_root, if_pos h0.symm]
    refine askQ_has (intentI_ok (modeAt_ok (c := ⟨wayOf ss, m, 0, false⟩) hm))
  obtain ⟨g, hg, e⟩ := hin
  unfold onN
  rw [hwho]
  simp only
  split
  · exact ⟨g, (onN_root ss.length hwho2 rfl hm (askT_rootOK hr0 hm)).2.1 g hg, e⟩
  · exact ⟨g, hg, e⟩
theorem WF.more {I J : List Int} {σ : TS} (h : WF I σ) (hs : ∀ i ∈ I, i ∈ J) : WF J σ :=
  ⟨fun x => ⟨(h.q x).1, fun g hg => hs _ ((h.q x).2 g hg)⟩, fun i c hc => ⟨hs _ (h.c i c hc).1, (h.c i c hc).2⟩⟩
theorem start_wf {I : List Int} {σ : TS} (h : WF I σ) (hw : WaitIn σ none) {id : Int} (hid : id ∈ I) {ss : List ByteArray} (hl : ss.length ≤ 2) {m : Int} : WF I (startT σ id ss m).1 :=
  (onT_ok (o := none) id (h.setC hid (Nat.zero_le _) (by simp [wayOf]; omega)) (fun x g hg hne => by
    show ((σ.setC id (some ⟨wayOf ss, m, 0, false⟩)).who g.1).isSome = true
    by_cases e : g.1 = id
    · simp [TS.setC, e]
    · simp only [TS.setC, e, if_false]; exact hw x g hg hne)).1
end Go.Proofs.YteghcgiclpbkdaaDoor
