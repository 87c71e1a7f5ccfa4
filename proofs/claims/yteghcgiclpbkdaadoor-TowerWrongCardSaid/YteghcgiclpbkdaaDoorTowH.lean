/- tower.Ask. -/
import Derived.Test.YteghcgiclpbkdaaDoorTowG
namespace Go.Proofs.YteghcgiclpbkdaaDoor
open Go.RowKit

theorem named_agg (v : Value) (ss : List ByteArray) (w : World) (hv : SRead w v ss) :
    Calls Tryd.prog 63 #[v] w fun e w' => e = .returned (.agg #[.int .i64 (thingOf ss).n, .string (thingOf ss).a, .string (thingOf ss).b]) ∧ Below w.heap.size w w' := named_any v ss w hv
theorem SRead.take {w : World} {a : Option Addr} {n cap : Nat} {ss : List ByteArray} (h : SRead w (.slice a n cap) ss) (k : Nat) (hk : k ≤ n) : SRead w (.slice a k cap) (ss.take k) := by
  obtain ⟨h1, a2, c2, e, h3, h4, h5, h6⟩ := h
  injection e with e1 e2 e3
  subst e1 e2 e3
  have hl : (ss.take k).length = k := by simp; omega
  refine ⟨by omega, a, cap, by rw [hl], by omega, h4, fun s hs => h5 s (List.mem_of_mem_take hs), fun hp => ?_⟩
  obtain ⟨b, off, e, hc⟩ := h6 (by omega)
  exact ⟨b, off, e, fun i hi => by rw [List.getElem_take]; exact hc i (by omega)⟩
theorem infoThing : (Tryd.prog.info? 110).map (fun i => (i.zero, i.size, i.bytes)) = some (some (.agg #[.int .i64 0, .string ⟨#[]⟩, .string ⟨#[]⟩]), 3, 40) := by kernel_rfl
theorem tcells_one {l : List Thing} : ∀ u ∈ tcells l, u.oneCell' = true := by
  intro u hu
  simp only [tcells, List.mem_flatMap] at hu
  obtain ⟨g, _, hg⟩ := hu
  rcases (by simpa using hg : u = _ ∨ u = _ ∨ u = _) with rfl | rfl | rfl <;> rfl
theorem wayOf_length (ss : List ByteArray) : (wayOf ss).length = ss.length + 1 := by simp [wayOf]

section
variable {F : Nat → Prop} {w : World} {t : Nat} {σ : TS} {mq mw : Nat} {tag : Nat → Tag} {qb : Thing → Option Nat} {cb : Int → Option Nat}

set_option maxHeartbeats 400000 in
theorem task_mode (id m : Int) (v : Value) (hm : intentI m = 0) :
    Calls Tryd.prog 37 #[ptrV t, .int .i64 id, v, .int .i64 m] w fun e w' => ∃ err, e = .returned (.tuple #[.bool false, err]) ∧ IsFault w' err 13 ∧ Below w.heap.size w w' := by
  have HM := Lib.hid hm
  clear hm
  unfold ptrV
  go_enter Tryd.func37, Tryd.ntmps37
  go_wp2_with fail
  refine (intent_any m _).mono ?_
  rintro e w2 ⟨rfl, rfl⟩
  rw [HM.out]
  go_wp2_with fail
  refine (faultNew_some 13 _ _ rfl).mono ?_
  rintro e w2 ⟨rfl, rfl⟩
  go_wp2
  go_ret2
  exact ⟨_, rfl, ⟨_, _, rfl, heap_alloc_new w _⟩, (Below.refl _ _).alloc (Nat.le_refl _) _⟩

set_option maxHeartbeats 1000000 in
theorem task_name (id m : Int) (v : Value) (ss : List ByteArray) (hm : intentI m ≠ 0) (hv : SRead w v ss) (hn : 2 < ss.length ∨ ss.any oddB = true) :
    Calls Tryd.prog 37 #[ptrV t, .int .i64 id, v, .int .i64 m] w fun e w' => ∃ err, e = .returned (.tuple #[.bool false, err]) ∧ IsFault w' err 5 ∧ Below w.heap.size w w' := by
  have hm' : (intentI m == 0) = false := by simpa using hm
  have HV := Lib.hid hv
  obtain ⟨h1, a, cap, rfl, _⟩ := hv
  clear hm
  unfold ptrV
  by_cases hlong : (2 : Int) < (ss.length : Int)
  · clear hn
    go_enter Tryd.func37, Tryd.ntmps37
    go_wp2_with fail
    refine (intent_any m _).mono ?_
    rintro e w2 ⟨rfl, rfl⟩
    go_wp2_with fail
    refine (faultNew_some 5 _ _ rfl).mono ?_
    rintro e w2 ⟨rfl, rfl⟩
    go_wp2
    go_ret2
    exact ⟨_, rfl, ⟨_, _, rfl, heap_alloc_new w _⟩, (Below.refl _ _).alloc (Nat.le_refl _) _⟩
  · have hodd : ss.any oddB = true := by rcases hn with h | h; omega; exact h
    have HO := Lib.hid hodd
    clear hn hodd
    go_enter Tryd.func37, Tryd.ntmps37
    go_wp2_with fail
    refine (intent_any m _).mono ?_
    rintro e w2 ⟨rfl, rfl⟩
    go_wp2_with fail
    refine (containsFunc_anyS _ _ ss _ _ HV.out _ (asks_odd (fun _ => False) _)).mono ?_
    rintro e w2 ⟨rfl, hb⟩
    rw [HO.out]
    go_wp2_with fail
    refine (faultNew_some 5 _ _ rfl).mono ?_
    rintro e w3 ⟨rfl, rfl⟩
    go_wp2
    go_ret2
    exact ⟨_, rfl, ⟨_, _, rfl, heap_alloc_new w2 _⟩, hb.alloc hb.size _⟩

set_option maxHeartbeats 1000000 in
theorem task_twice (id m : Int) (v : Value) (ss : List ByteArray) (hm : intentI m ≠ 0) (hv : SRead w v ss) (hlong : ss.length ≤ 2) (hodd : ss.any oddB = false) (h : TAt F w t σ mq mw tag qb cb) (ht : σ.there id = true) :
    Calls Tryd.prog 37 #[ptrV t, .int .i64 id, v, .int .i64 m] w fun e w' => ∃ err, e = .returned (.tuple #[.bool false, err]) ∧ IsFault w' err 11 ∧ Below w.heap.size w w' := by
  have hm' : (intentI m == 0) = false := by simpa using hm
  have HV := Lib.hid hv
  obtain ⟨h1, a, cap, rfl, _⟩ := hv
  have hl2 : ¬ (2 : Int) < (ss.length : Int) := by omega
  have HO := Lib.hid hodd
  have HT := Lib.hid ht
  have HH := Lib.hid h
  clear hm hodd ht h
  unfold ptrV
  go_enter Tryd.func37, Tryd.ntmps37
  go_wp2_with fail
  refine (intent_any m _).mono ?_
  rintro e w2 ⟨rfl, rfl⟩
  go_wp2_with fail
  refine (containsFunc_anyS _ _ ss _ _ HV.out _ (asks_odd (fun _ => False) _)).mono ?_
  rintro e w2 ⟨rfl, hb⟩
  rw [HO.out]
  have HB := Lib.hid hb
  clear hb
  go_wp2_with fail
  refine (there_tower id (HH.out.below HB.out)).mono ?_
  rintro e w3 ⟨rfl, rfl⟩
  rw [HT.out]
  go_wp2_with fail
  refine (faultNew_some 11 _ _ rfl).mono ?_
  rintro e w3 ⟨rfl, rfl⟩
  go_wp2
  go_ret2
  exact ⟨_, rfl, ⟨_, _, rfl, heap_alloc_new w2 _⟩, HB.out.alloc HB.out.size _⟩
end
end Go.Proofs.YteghcgiclpbkdaaDoor
