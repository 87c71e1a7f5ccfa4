/- LockSafe: what is asked behind each deed, and the law's walk. -/
import Derived.Test.YteghcgiclpbkdaaDoorLkB
import Derived.Test.YteghcgiclpbkdaaDoorLawG
namespace Go.Proofs.YteghcgiclpbkdaaDoor
open Go.RowKit

set_option maxRecDepth 100000 in
set_option maxHeartbeats 4000000 in
theorem lsafe_isC : IsCL (.func (.func 16) #[] #[]) := by
  refine ⟨_, rfl, fun args w1 => by kernel_rfl, fun s B T q w1 hr hq => ?_⟩
  have HI := Lib.hid (reachL_inv hr)
  have hl := reachL_len hr
  have HQ := Lib.hid hq
  clear hr hq
  go_enter Tryd.func16, Tryd.ntmps16
  go_wp2_with fail
  refine (held_any HQ.out.1 (by omega)).mono ?_
  rintro e w2 ⟨vh, rfl, hvh, hb2⟩
  obtain ⟨L, hL⟩ : ∃ L, L = s.1 := ⟨_, rfl⟩
  rw [← hL] at hvh hl
  have HL := Lib.hid hL
  have HB2 := Lib.hid hb2
  obtain ⟨_, a, cap, rfl, hc0⟩ := gread_of_ownsRow hvh
  have hcap : L.length ≤ cap := by
    rcases ownsRow_cases hvh with ⟨h1, h2, _⟩ | ⟨g, c2, h1⟩
    · omega
    · obtain ⟨_, _, _, _, hn, _⟩ := blk_of_ownsRow (by rw [h1] at hvh; exact hvh)
      simp only [Value.slice.injEq] at h1
      omega
  clear hL hvh hb2
  go_wp2
  go_loopg [10] L.length (fun m kv wr => ∃ k : Nat, kv = .int .i64 (k : Int) ∧ k + m = L.length ∧ Below w2.heap.size w2 wr)
  case atStart => exact ⟨0, rfl, by omega, Below.refl _ _⟩
  case round =>
    obtain ⟨k, rfl, hkm, hbr⟩ := hrel
    have HB3 := Lib.hid hbr
    clear hbr
    cases gk with
    | zero =>
      have hkn : ¬ ((k : Int) < (L.length : Int)) := by omega
      go_wp2
      go_ret
      exact ⟨rfl, HB2.out.trans (HB3.out.mono HB2.out.size)⟩
    | succ m =>
      have hkn : (k : Int) < (L.length : Int) := by omega
      have hk0 : (0 : Int) ≤ (k : Int) := by omega
      have hkc : (k : Int) ≤ (cap : Int) := by omega
      obtain ⟨b5, o5, rfl, hc⟩ := hc0 (by omega)
      go_wp2
      go_loopg [17] k (fun m2 jv wr2 => ∃ j : Nat, jv = .int .i64 (j : Int) ∧ j + m2 = k ∧ Below w2.heap.size w2 wr2)
      case atStart => exact ⟨0, rfl, by omega, HB3.out⟩
      case round =>
        obtain ⟨j, rfl, hjm, hbr2⟩ := hrel
        have HB5 := Lib.hid hbr2
        clear hbr2
        cases gk with
        | zero =>
          have hjn : ¬ ((j : Int) < (k : Int)) := by omega
          go_wp2
          go_roundg m
          case measure => omega
          case rel => exact ⟨k + 1, by go_num, by omega, HB5.out⟩
        | succ m3 =>
          have hjn : (j : Int) < (k : Int) := by omega
          have hj0 : (0 : Int) ≤ (j : Int) := by omega
          have hjl : (j : Int) < (L.length : Int) := by omega
          have z1 : wr.cell? ⟨b5, o5 + k * 2, none⟩ = some (.int .i64 L[k].1) := bcell HB5.out (hc k (by omega)).1
          have z2 : wr.cell? ⟨b5, o5 + j * 2, none⟩ = some (.int .i64 L[j].1) := bcell HB5.out (hc j (by omega)).1
          have y1 : wr.cell? ⟨b5, o5 + k * 2 + 1, none⟩ = some (.int .i64 L[k].2) := bcell HB5.out (hc k (by omega)).2
          have y2 : wr.cell? ⟨b5, o5 + j * 2 + 1, none⟩ = some (.int .i64 L[j].2) := bcell HB5.out (hc j (by omega)).2
          have hs : fitsB L[k].2 L[j].2 = true ∧ (L[k].1 == L[j].1) = false := by have := HL.out; subst this; exact safeL HI.out (by omega) (by omega)
          obtain ⟨mk, hmk⟩ : ∃ mk, mk = L[k].2 := ⟨_, rfl⟩
          obtain ⟨mj, hmj⟩ : ∃ mj, mj = L[j].2 := ⟨_, rfl⟩
          obtain ⟨ik, hik⟩ : ∃ ik, ik = L[k].1 := ⟨_, rfl⟩
          obtain ⟨ij, hij⟩ : ∃ ij, ij = L[j].1 := ⟨_, rfl⟩
          rw [← hmk] at y1 hs
          rw [← hmj] at y2 hs
          rw [← hik] at z1 hs
          rw [← hij] at z2 hs
          obtain ⟨hfits, hne⟩ := hs
          clear hmk hmj hik hij
          go_wp2
          have d1 : wr.drew.cell? ⟨b5, o5 + k * 2 + 1, none⟩ = some (.int .i64 mk) := y1
          have d2 : wr.drew.cell? ⟨b5, o5 + j * 2 + 1, none⟩ = some (.int .i64 mj) := y2
          have d3 : wr.drew.cell? ⟨b5, o5 + k * 2, none⟩ = some (.int .i64 ik) := z1
          have d4 : wr.drew.cell? ⟨b5, o5 + j * 2, none⟩ = some (.int .i64 ij) := z2
          go_region_held3 (fun w' => w'.cell? ⟨b5, o5 + k * 2 + 1, none⟩ = some (.int .i64 mk) ∧ w'.cell? ⟨b5, o5 + j * 2 + 1, none⟩ = some (.int .i64 mj) ∧ w'.cell? ⟨b5, o5 + k * 2, none⟩ = some (.int .i64 ik) ∧ w'.cell? ⟨b5, o5 + j * 2, none⟩ = some (.int .i64 ij))
            (first | go_keep | exact ⟨d1, d2, d3, d4⟩ | exact ⟨g1, g2, g3, g4⟩)
            ((go_at_call 14; refine (goes_any _ _ _).mono ?_; rintro e w6 ⟨rfl, hb6⟩; have g1 := bcell hb6 d1; have g2 := bcell hb6 d2; have g3 := bcell hb6 d3; have g4 := bcell hb6 d4; rw [hfits]))
          all_goals
            have HB6 := Lib.hid (HB5.out.trans ((undrew hb6).mono HB5.out.size))
            clear hb6 g1 g2 g3 g4 d1 d2 d3 d4 y1 y2 z1 z2
            go_wp2
            go_roundg m3
            case measure => omega
            case rel => exact ⟨j + 1, by go_num, by omega, HB6.out⟩

set_option maxHeartbeats 1000000 in
theorem lsafe_law (v : Value) (l : List LDeed) (w : World) (hv : LRead w v l) (hg : ErrT w) :
    Calls Tryd.prog 4 #[v] w fun e w' => e = .returned (.bool true) ∧ Below w.heap.size w w' := by
  have HV := Lib.hid hv
  have HG := Lib.hid hg
  clear hv hg
  go_enter Tryd.func4, Tryd.ntmps4
  go_wp2_with fail
  refine (lawake_any _ HG.out).mono ?_
  rintro e w1 ⟨rfl, hb⟩
  have HB := Lib.hid hb
  clear hb
  go_wp2_with fail
  refine (lplay_any v _ l w1 (HV.out.below HB.out) lsafe_isC).mono ?_
  rintro e w2 ⟨q, rfl, _, _, hb2⟩
  have HB2 := Lib.hid (HB.out.trans (hb2.mono HB.out.size))
  clear hb2
  go_wp2
  go_ret
  exact ⟨rfl, HB2.out⟩
end Go.Proofs.YteghcgiclpbkdaaDoor
