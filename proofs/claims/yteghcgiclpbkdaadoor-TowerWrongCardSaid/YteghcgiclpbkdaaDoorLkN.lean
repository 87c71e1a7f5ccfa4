/- LockNeeds: what is asked behind each deed, and the law's walk. -/
import Derived.Test.YteghcgiclpbkdaaDoorLkS
namespace Go.Proofs.YteghcgiclpbkdaaDoor
open Go.RowKit

theorem own_cap_le {w : World} {b n size : Nat} {e : TypeId} {a : Option Addr} {m cap : Nat} {xs : List Value} (h : w.ownsRow b e size (.slice a m cap) n xs) : n ≤ cap := by
  rcases ownsRow_cases h with ⟨h1, h2, _⟩ | ⟨g, c2, h1⟩
  · omega
  · rw [h1] at h
    obtain ⟨_, _, _, _, hn, _⟩ := blk_of_ownsRow h
    simp only [Value.slice.injEq] at h1
    omega

set_option maxRecDepth 100000 in
set_option maxHeartbeats 4000000 in
theorem lneeds_isC : IsCL (.func (.func 29) #[] #[]) := by
  refine ⟨_, rfl, fun args w1 => by kernel_rfl, fun s B T q w1 hr hq => ?_⟩
  have HI := Lib.hid (reachL_inv hr)
  have hl := reachL_len hr
  have HQ := Lib.hid hq
  clear hr hq
  go_enter Tryd.func29, Tryd.ntmps29
  go_wp2_with fail
  refine (held_any HQ.out.1 (by omega)).mono ?_
  rintro e w2 ⟨vh, rfl, hvh, hb2⟩
  have HV := Lib.hid (And.intro hvh hb2)
  clear hvh hb2
  go_wp2_with fail
  refine (waits_any (HQ.out.below HV.out.2).1 (by omega)).mono ?_
  rintro e w3 ⟨vw, rfl, hvw, hb3⟩
  obtain ⟨L, hL⟩ : ∃ L, L = s.1 := ⟨_, rfl⟩
  obtain ⟨M, hM⟩ : ∃ M, M = s.2 := ⟨_, rfl⟩
  have hvh := own_only HV.out.1 (Only.ofBelow hb3 NoneS) (fun _ _ h => h)
  rw [← hL] at hvh
  rw [← hM] at hvw
  rw [← hL, ← hM] at hl
  have HL := Lib.hid (And.intro hL hM)
  have HB := Lib.hid (HV.out.2.trans (hb3.mono HV.out.2.size))
  obtain ⟨_, a5, c5, rfl, hc5⟩ := gread_of_ownsRow hvh
  obtain ⟨_, a6, c6, rfl, hc6⟩ := gread_of_ownsRow hvw
  have hcap5 := own_cap_le hvh
  have hcap6 := own_cap_le hvw
  clear hL hM hvh hvw hb3
  cases hM0 : M with
  | nil =>
    subst hM0
    have e1 : ((([] : List (Int × Int)).length : Int) == 0) = true := rfl
    go_wp2
    go_ret
    exact ⟨rfl, HB.out⟩
  | cons g M1 =>
    have hlm : M.length = M1.length + 1 := by rw [hM0]; rfl
    have e1 : ((M.length : Int) == 0) = false := by rw [hlm]; simp; omega
    have hMg : ∃ h : 0 < M.length, M[0] = g := ⟨by omega, by simp [hM0]⟩
    have HM := Lib.hid hM0
    obtain ⟨b6, o6, rfl, hcc6⟩ := hc6 (by omega)
    have p1 : w3.cell? ⟨b6, o6 + 1, none⟩ = some (.int .i64 g.2) := by
      obtain ⟨h0, e⟩ := hMg
      have := (hcc6 0 h0).2
      rw [e] at this
      simpa using this
    obtain ⟨gm, hgm⟩ : ∃ gm, gm = g.2 := ⟨_, rfl⟩
    rw [← hgm] at p1
    have HGM := Lib.hid hgm
    have hlm0 : (0 : Int) < (M.length : Int) := by omega
    rw [← hM0]
    clear hM0 hMg hcc6 hc6 hgm
    go_wp2
    go_loopg [16] L.length (fun m kv wr => ∃ k : Nat, kv = .int .i64 (k : Int) ∧ k + m = L.length ∧ (∀ j (h : j < L.length), j < k → fitsB L[j].2 gm = true) ∧ Below w3.heap.size w3 wr)
    case atStart => exact ⟨0, rfl, by omega, fun j _ h => by omega, Below.refl _ _⟩
    case round =>
      obtain ⟨k, rfl, hkm, hall, hbr⟩ := hrel
      have HB3 := Lib.hid (And.intro hall hbr)
      clear hall hbr
      cases gk with
      | zero =>
        exfalso
        obtain ⟨hL, hMM⟩ := HL.out
        subst hL hMM
        obtain ⟨k0, hk0, hf⟩ := needsL HI.out HM.out
        have := HB3.out.1 k0 hk0 (by omega)
        rw [HGM.out, hf] at this
        simp at this
      | succ m =>
        have hkn : (k : Int) < (L.length : Int) := by omega
        have hk0 : (0 : Int) ≤ (k : Int) := by omega
        obtain ⟨b5, o5, rfl, hc⟩ := hc5 (by omega)
        have y0 : wr.cell? ⟨b5, o5 + k * 2, none⟩ = some (.int .i64 L[k].1) := bcell HB3.out.2 (hc k (by omega)).1
        have y1 : wr.cell? ⟨b5, o5 + k * 2 + 1, none⟩ = some (.int .i64 L[k].2) := bcell HB3.out.2 (hc k (by omega)).2
        have q1 : wr.cell? ⟨b6, o6 + 1, none⟩ = some (.int .i64 gm) := bcell HB3.out.2 p1
        obtain ⟨mk, hmk⟩ : ∃ mk, mk = L[k].2 := ⟨_, rfl⟩
        obtain ⟨ik, hik⟩ : ∃ ik, ik = L[k].1 := ⟨_, rfl⟩
        rw [← hmk] at y1
        rw [← hik] at y0
        have hbA : Below wr.heap.size wr (wr.alloc (.cells #[.int .i64 ik, .int .i64 mk] 34)) := (Below.refl _ _).alloc (Nat.le_refl _) _
        have q2 := bcell hbA q1
        have HBA := Lib.hid (HB3.out.2.trans (hbA.mono HB3.out.2.size))
        have hszA : w3.heap.size ≤ (wr.alloc (.cells #[.int .i64 ik, .int .i64 mk] 34)).heap.size := HBA.out.size
        have HMK := Lib.hid hmk
        obtain ⟨ff, hff⟩ : ∃ ff, ff = fitsB mk gm := ⟨_, rfl⟩
        have HFF := Lib.hid hff
        clear hmk hik hc hbA hff
        go_wp2
        have d1 : (wr.alloc (.cells #[.int .i64 ik, .int .i64 mk] 34)).drew.cell? ⟨wr.heap.size, 1, none⟩ = some (.int .i64 mk) := by simp
        have d2 : (wr.alloc (.cells #[.int .i64 ik, .int .i64 mk] 34)).drew.cell? ⟨b6, o6 + 1, none⟩ = some (.int .i64 gm) := q2
        cases ff with
        | true =>
          go_region_held3 (fun w' => w'.cell? ⟨wr.heap.size, 1, none⟩ = some (.int .i64 mk) ∧ w'.cell? ⟨b6, o6 + 1, none⟩ = some (.int .i64 gm))
            (first | go_keep | exact ⟨d1, d2⟩ | exact ⟨g1, g2⟩)
            ((go_at_call 14; refine (goes_any _ _ _).mono ?_; rintro e w6 ⟨rfl, hb6⟩; have g1 := bcell hb6 d1; have g2 := bcell hb6 d2; rw [← HFF.out]))
          all_goals
            have HB6 := Lib.hid (HBA.out.trans ((undrew hb6).mono hszA))
            clear hb6 g1 g2 d1 d2 y0 y1 q1 q2 hszA
            go_wp2
            go_roundg m
            case measure => omega
            case rel => exact ⟨k + 1, by go_num, by omega, fun j h hj => by
              rcases Nat.lt_or_ge j k with h2 | h2
              · exact HB3.out.1 j h h2
              · obtain rfl : j = k := by omega
                rw [← HMK.out]; exact HFF.out.symm, HB6.out⟩
        | false =>
          go_region_held3 (fun w' => w'.cell? ⟨wr.heap.size, 1, none⟩ = some (.int .i64 mk) ∧ w'.cell? ⟨b6, o6 + 1, none⟩ = some (.int .i64 gm))
            (first | go_keep | exact ⟨d1, d2⟩ | exact ⟨g1, g2⟩)
            ((go_at_call 14; refine (goes_any _ _ _).mono ?_; rintro e w6 ⟨rfl, hb6⟩; have g1 := bcell hb6 d1; have g2 := bcell hb6 d2; rw [← HFF.out]))
          all_goals
            have HB6 := Lib.hid (HBA.out.trans ((undrew hb6).mono hszA))
            clear hb6 g1 g2 d1 d2 y0 y1 q1 q2 hszA
            go_wp2
            go_ret
            exact ⟨rfl, HB.out.trans (HB6.out.mono HB.out.size)⟩

set_option maxHeartbeats 1000000 in
theorem lneeds_law (v : Value) (l : List LDeed) (w : World) (hv : LRead w v l) (hg : ErrT w) :
    Calls Tryd.prog 6 #[v] w fun e w' => e = .returned (.bool true) ∧ Below w.heap.size w w' := by
  have HV := Lib.hid hv
  have HG := Lib.hid hg
  clear hv hg
  go_enter Tryd.func6, Tryd.ntmps6
  go_wp2_with fail
  refine (lawake_any _ HG.out).mono ?_
  rintro e w1 ⟨rfl, hb⟩
  have HB := Lib.hid hb
  clear hb
  go_wp2_with fail
  refine (lplay_any v _ l w1 (HV.out.below HB.out) lneeds_isC).mono ?_
  rintro e w2 ⟨q, rfl, _, _, hb2⟩
  have HB2 := Lib.hid (HB.out.trans (hb2.mono HB.out.size))
  clear hb2
  go_wp2
  go_ret
  exact ⟨rfl, HB2.out⟩
end Go.Proofs.YteghcgiclpbkdaaDoor
