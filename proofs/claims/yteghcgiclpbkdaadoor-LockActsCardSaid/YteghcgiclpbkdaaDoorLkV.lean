/- Locks' laws: what the document says: without, Queue.May. -/
import Derived.Test.YteghcgiclpbkdaaDoorLkT
import Derived.Test.YteghcgiclpbkdaaDoorLkF
namespace Go.Proofs.YteghcgiclpbkdaaDoor
open Go.RowKit

theorem b_alloc {w W : World} (h : Below w.heap.size w W) (o : Obj) : Below w.heap.size w (W.alloc o) := h.alloc h.size o
theorem b_drew {w W : World} (h : Below w.heap.size w W) : Below w.heap.size w W.drew := pwDrewN h 1
theorem own_oneg (w : World) (x : Int × Int) : (w.alloc (.cells #[.int .i64 x.1, .int .i64 x.2] 34)).ownsRow w.heap.size 34 2 (.slice (some ⟨w.heap.size, 0, none⟩) 1 1) [x].length (gcells [x]) :=
  ⟨by simp [gcells], .inr ⟨w.heap.size, 1, #[.int .i64 x.1, .int .i64 x.2], rfl, Nat.le_refl _, heap_alloc_new w _, Nat.le_refl _, by decide, by simp, by simp [gcells]⟩⟩
theorem stay_step {l : List (Int × Int)} {k : Nat} (h : k < l.length) (id : Int) : stay id (l.take (k + 1)) = stay id (l.take k) ++ (if (l[k].1 != id) = true then [l[k]] else []) := by
  rw [List.take_succ_eq_append_getElem h]
  unfold stay
  rw [List.filter_append]
  congr 1
  by_cases e : l[k].1 = id <;> simp [e]

set_option maxHeartbeats 1000000 in
theorem lwithout_any (v : Value) (l : List (Int × Int)) (id : Int) (w : World) (h : GRead w v l) (hl : l.length ≤ 1000000) :
    Calls Tryd.prog 50 #[v, .int .i64 id] w fun e w' => ∃ v', e = .returned v' ∧ w'.ownsRow w.heap.size 34 2 v' (stay id l).length (gcells (stay id l)) ∧ Below w.heap.size w w' := by
  obtain ⟨_, a, c, rfl, hc0⟩ := h
  go_enter Tryd.func50, Tryd.ntmps50
  go_wp2
  go_loopg [10, 5] l.length (fun m kv uv wr => ∃ k : Nat, kv = .int .i64 (k : Int) ∧ k + m = l.length ∧ wr.ownsRow w.heap.size 34 2 uv (stay id (l.take k)).length (gcells (stay id (l.take k))) ∧ Below w.heap.size w wr)
  case atStart => exact ⟨0, rfl, by omega, World.ownsRow_nil _ _ _ _, Below.refl _ _⟩
  case round =>
    obtain ⟨k, rfl, hkm, hu, hbr⟩ := hrel
    have hsl : (stay id (l.take k)).length ≤ 1000000 := Nat.le_trans (List.length_filter_le _ _) (by rw [List.length_take]; omega)
    have HU := Lib.hid (And.intro hu (And.intro hbr hsl))
    clear hu hbr hsl
    cases gk with
    | zero =>
      have hkn : ¬ ((k : Int) < (l.length : Int)) := by omega
      have hst : stay id (l.take k) = stay id l := by rw [List.take_of_length_le (by omega)]
      have HST := Lib.hid hst
      clear hst
      go_wp2
      go_ret
      exact ⟨_, rfl, by rw [← HST.out]; exact HU.out.1, HU.out.2.1⟩
    | succ m =>
      have hkn : (k : Int) < (l.length : Int) := by omega
      have hk0 : (0 : Int) ≤ (k : Int) := by omega
      have hkl : k < l.length := by omega
      obtain ⟨b, o, rfl, hc⟩ := hc0 (by omega)
      have y0 : wr.cell? ⟨b, o + k * 2, none⟩ = some (.int .i64 l[k].1) := bcell HU.out.2.1 (hc k hkl).1
      have y1 : wr.cell? ⟨b, o + k * 2 + 1, none⟩ = some (.int .i64 l[k].2) := bcell HU.out.2.1 (hc k hkl).2
      have hss := stay_step hkl id
      obtain ⟨g, hg⟩ : ∃ g, g = l[k] := ⟨_, rfl⟩
      rw [← hg] at y0 y1 hss
      obtain ⟨ik, mk⟩ := g
      simp only at y0 y1 hss
      have HSS := Lib.hid hss
      clear hg hc hss
      cases he : (ik != id) with
      | false =>
        have HE := Lib.hid he
        go_wp2
        go_roundg m
        case measure => omega
        case rel => exact ⟨k + 1, by go_num, by omega, by rw [HSS.out, HE.out]; simpa using HU.out.1.alloc _, b_alloc HU.out.2.1 _⟩
      | true =>
        have hsz := HU.out.2.1.size
        have hlk := HU.out.2.2
        have hown := own_oneg (wr.alloc (.cells #[.int .i64 ik, .int .i64 mk] 34)) (ik, mk)
        obtain ⟨v5, w5, hrun, hv5, hg5, _⟩ := run_append_grants ((HU.out.1.alloc _).alloc _) (gread_of_ownsRow hown) (by simp; omega) (by simp; omega)
        have hb5 : Below w.heap.size w w5 := (b_alloc (b_alloc HU.out.2.1 _) _).trans ((Only.ofGrown (S := fun b => w.heap.size ≤ b) hg5 (fun k e => own_blk_ge HU.out.1 e)).below (by simp; omega) (fun k hk e => by omega))
        have H5 := Lib.hid (And.intro hv5 hb5)
        have HE := Lib.hid he
        clear hown hv5 hg5 hb5
        rw [show (wr.alloc (.cells #[.int .i64 ik, .int .i64 mk] 34)).heap.size = wr.heap.size + 1 by simp] at hrun
        go_wp2_with (at_builtin; refine wpList_append_run rfl (.tmp 18) (.tmp 20) 31 rfl _ _ rfl rfl v5 w5 hrun ?_)
        go_wp2
        go_roundg m
        case measure => omega
        case rel => exact ⟨k + 1, by go_num, by omega, by rw [HSS.out, HE.out]; exact H5.out.1, H5.out.2⟩

set_option maxHeartbeats 1000000 in
theorem lmay_any (v1 v2 : Value) (l : List (Int × Int)) (mm : Int) (w : World) (h : GRead w v1 l) :
    Calls Tryd.prog 51 #[.agg #[v1, v2], .int .i64 mm] w fun e w' => e = .returned (.bool (mayB l mm)) ∧ Below w.heap.size w w' := by
  obtain ⟨_, a, c, rfl, hc0⟩ := h
  go_enter Tryd.func51, Tryd.ntmps51
  go_wp2
  go_loopg [10] l.length (fun m kv wr => ∃ k : Nat, kv = .int .i64 (k : Int) ∧ k + m = l.length ∧ (∀ j (h : j < l.length), j < k → fitsB l[j].2 mm = true) ∧ Below w.heap.size w wr)
  case atStart => exact ⟨0, rfl, by omega, fun j _ h => by omega, (Below.refl _ _).alloc (Nat.le_refl _) _⟩
  case round =>
    obtain ⟨k, rfl, hkm, hno, hbr⟩ := hrel
    have HN := Lib.hid (And.intro hno hbr)
    clear hno hbr
    cases gk with
    | zero =>
      have hkn : ¬ ((k : Int) < (l.length : Int)) := by omega
      have hany : mayB l mm = true := by
        unfold mayB
        rw [List.all_eq_true]
        intro g hg
        obtain ⟨j, hj, rfl⟩ := List.getElem_of_mem hg
        exact HN.out.1 j hj (by omega)
      have HA := Lib.hid hany
      clear hany
      go_wp2
      go_ret
      exact ⟨ret_bool HA.out.symm, HN.out.2⟩
    | succ m =>
      have hkn : (k : Int) < (l.length : Int) := by omega
      have hk0 : (0 : Int) ≤ (k : Int) := by omega
      have hkl : k < l.length := by omega
      obtain ⟨b, o, rfl, hc⟩ := hc0 (by omega)
      have y0 : wr.cell? ⟨b, o + k * 2, none⟩ = some (.int .i64 l[k].1) := bcell HN.out.2 (hc k hkl).1
      have y1 : wr.cell? ⟨b, o + k * 2 + 1, none⟩ = some (.int .i64 l[k].2) := bcell HN.out.2 (hc k hkl).2
      clear hc
      go_wp2_with fail
      refine (goes_any _ _ _).mono ?_
      rintro e w5 ⟨rfl, hb5⟩
      have H5 := Lib.hid (HN.out.2.trans ((b_alloc (Below.refl _ wr) _).trans (hb5.mono (by simp)) |>.mono HN.out.2.size))
      clear hb5
      cases hf : fitsB l[k].2 mm with
      | true =>
        have HF := Lib.hid hf
        clear hf
        go_wp2
        go_roundg m
        case measure => omega
        case rel => exact ⟨k + 1, by go_num, by omega, fun j h hj => by
          rcases Nat.lt_or_ge j k with h2 | h2
          · exact HN.out.1 j h h2
          · obtain rfl : j = k := by omega
            exact HF.out, H5.out⟩
      | false =>
        have hany : mayB l mm = false := by
          unfold mayB
          rw [List.all_eq_false]
          exact ⟨l[k], List.getElem_mem hkl, by rw [hf]; simp⟩
        have HA := Lib.hid hany
        clear hany hf
        go_wp2
        go_ret
        exact ⟨ret_bool HA.out.symm, H5.out⟩
end Go.Proofs.YteghcgiclpbkdaaDoor
