/- Queue.Ask, all ways in one. -/
import Derived.Test.YteghcgiclpbkdaaDoorQueC
namespace Go.Proofs.YteghcgiclpbkdaaDoor
open Go.RowKit

/-- What is told of an ask: nothing is wrong, or an error of a code. -/
def AskTold (w : World) (h l : List (Int × Int)) (id m : Int) (err : Value) : Prop :=
  if intentI m = 0 then IsFault w err 13 else if thereB h l id = true then IsFault w err 11 else err = .nilIface

theorem ask_any {S : Nat → Prop} {w : World} {q : Nat} {h l : List (Int × Int)} (id m : Int) (hq : QRep S w q h l) (hlen : h.length + l.length ≤ 1048576) :
    Calls Tryd.prog 24 #[.pointer (some ⟨q, 0, none⟩), .int .i64 id, .int .i64 m] w fun e w' => ∃ err, e = .returned (.tuple #[.bool (askQ h l id m).1, err]) ∧
      QRep (fun b => S b ∨ w.heap.size ≤ b) w' q (askQ h l id m).2.1 (askQ h l id m).2.2 ∧ Only S w w' ∧ AskTold w' h l id m err := by
  by_cases hm : intentI m = 0
  · have ha : askQ h l id m = (false, h, l) := by simp [askQ, hm]
    rw [ha]
    refine (ask_mode id m hm).mono ?_
    rintro e w2 ⟨err, rfl, hf, hb⟩
    exact ⟨err, rfl, (hq.below hb).mono (fun b _ hb => .inl hb), Only.ofBelow hb S, by simpa [AskTold, hm] using hf⟩
  · by_cases ht : thereB h l id = true
    · have ha : askQ h l id m = (false, h, l) := by simp [askQ, ht]
      rw [ha]
      refine (ask_twice id m hm hq ht).mono ?_
      rintro e w2 ⟨err, rfl, hf, hb⟩
      exact ⟨err, rfl, (hq.below hb).mono (fun b _ hb => .inl hb), Only.ofBelow hb S, by simpa [AskTold, hm, ht] using hf⟩
    · have ht' : thereB h l id = false := by simpa using ht
      by_cases hl : l = []
      · by_cases hy : mayB h m = true
        · have ha : askQ h l id m = (true, h ++ [(id, m)], l) := by subst hl; simp [askQ, hm, ht', hy]
          rw [ha]
          refine (ask_yes id m hm hq ht' hl hy (by omega)).mono ?_
          rintro e w2 ⟨rfl, hr, ho⟩
          exact ⟨_, rfl, hr, ho, by simp [AskTold, hm, ht']⟩
        · have hy' : mayB h m = false := by simpa using hy
          have ha : askQ h l id m = (false, h, l ++ [(id, m)]) := by subst hl; simp [askQ, hm, ht', hy']
          rw [ha]
          refine (ask_wait_may id m hm hq ht' hl hy' (by omega)).mono ?_
          rintro e w2 ⟨rfl, hr, ho⟩
          exact ⟨_, rfl, hr, ho, by simp [AskTold, hm, ht']⟩
      · have ha : askQ h l id m = (false, h, l ++ [(id, m)]) := by simp [askQ, hm, ht', hl]
        rw [ha]
        have hl0 : 0 < l.length := by cases l <;> simp_all
        refine (ask_wait_busy id m hm hq ht' hl0 (by omega)).mono ?_
        rintro e w2 ⟨rfl, hr, ho⟩
        exact ⟨_, rfl, hr, ho, by simp [AskTold, hm, ht']⟩
end Go.Proofs.YteghcgiclpbkdaaDoor
