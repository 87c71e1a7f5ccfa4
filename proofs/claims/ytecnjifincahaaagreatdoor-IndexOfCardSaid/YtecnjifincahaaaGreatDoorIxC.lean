/- path.place: which of a list's values a part names. -/
import Derived.Test.YtecnjifincahaaaGreatDoorIxB
namespace Go.Proofs.YtecnjifincahaaaGreatDoor
open Go.Shelf Go.RowKit Go.Lib

/-- what two of strconv's variables hold. -/
def ErrV (w : World) : Prop := ∃ a b : Value, (w.cell? ⟨6, 0, none⟩ = some a ∧ (a = .nilIface ∨ ∃ te pe, a = .iface te pe)) ∧ (w.cell? ⟨7, 0, none⟩ = some b ∧ (b = .nilIface ∨ ∃ te pe, b = .iface te pe))
theorem ErrV.later {w w2 : World} (h : ErrV w) (hb : Below w.heap.size w w2) : ErrV w2 := by
  obtain ⟨a, b, ⟨h1, h2⟩, h3, h4⟩ := h
  exact ⟨a, b, ⟨bcell hb h1, h2⟩, bcell hb h3, h4⟩
def placeK (p : BL) (n : Nat) : Option Nat := match Lib.atoiAll p with
  | .ok v => if 0 ≤ v ∧ v < (n : Int) ∧ Lib.decDigits v.toNat = p then some v.toNat else none
  | _ => none
theorem placeK_lt {p : BL} {n k : Nat} (h : placeK p n = some k) : k < n := by
  unfold placeK at h
  split at h
  · split at h
    · rename_i hv
      have := Option.some.inj h
      omega
    · cases h
  · cases h
set_option maxHeartbeats 4000000 in
set_option maxRecDepth 100000 in
theorem place_any (p : BL) (q : Option Addr) (n cap : Nat) (hn : n ≤ 99) (hp : p.length ≤ 1000000) (w : World) (hE : ErrV w) :
    Calls Tryz.prog 88 #[.slice q n cap, .string (BA p)] w fun e w' => e = .returned (.int .i64 (idxI (placeK p n))) ∧ Below w.heap.size w w' := by
  have hsz : (BA p).size = p.length := ba_size p
  have hdl : (BA p).data.toList = p := by simp
  obtain ⟨e6, e7, ⟨h6, k6⟩, h7, k7⟩ := hE
  rcases ha : Lib.atoiAll p with v | _ | _
  · have hcall0 := Tryz.strconv_Atoi_ok (BA p) (by omega) v (by rw [hdl]; exact ha) w
    have hcall : Calls Tryz.prog 108 #[.string (BA p)] w fun e w' => e = .returned (.tuple #[.int .i64 v, .nilIface]) ∧ Below w.heap.size w w' := by
      refine (show Calls _ _ _ _ _ from hcall0).mono ?_
      rintro e w' ⟨rfl, h⟩
      refine ⟨rfl, ?_⟩
      rcases h with rfl | ⟨t, rfl⟩
      · exact Below.refl _ _
      · first | exact Lib.bytesWorld_below _ _ _ | exact below_bytesWorld _ _ _ _ (Nat.le_refl _)
    clear hcall0
    by_cases h0 : v < 0
    · have hpk : placeK p n = none := by unfold placeK; rw [ha]; simp only; rw [if_neg (by omega)]
      rw [hpk, show idxI none = -1 from rfl]
      obtain ⟨s, hs⟩ : ∃ s, BA p = s := ⟨_, rfl⟩
      rw [hs] at hcall ⊢
      clear hsz hdl h6 h7 hpk ha hs
      go_enter Tryz.func88, Tryz.ntmps88
      go_wp2_with fail
      refine (show Calls _ _ _ _ _ from hcall).mono ?_
      rintro e w2 ⟨rfl, hb2⟩
      have H2 := Lib.hid hb2
      clear hb2 hcall
      go_wp2
      go_ret
      exact ⟨rfl, H2.out⟩
    · by_cases h1 : (n : Int) ≤ v
      · have hpk : placeK p n = none := by unfold placeK; rw [ha]; simp only; rw [if_neg (by omega)]
        rw [hpk, show idxI none = -1 from rfl]
        obtain ⟨s, hs⟩ : ∃ s, BA p = s := ⟨_, rfl⟩
        rw [hs] at hcall ⊢
        clear hsz hdl h6 h7 hpk ha hs
        go_enter Tryz.func88, Tryz.ntmps88
        go_wp2_with fail
        refine (show Calls _ _ _ _ _ from hcall).mono ?_
        rintro e w2 ⟨rfl, hb2⟩
        have H2 := Lib.hid hb2
        clear hb2 hcall
        go_wp2
        go_ret
        exact ⟨rfl, H2.out⟩
      · obtain ⟨k, rfl⟩ : ∃ k : Nat, v = k := ⟨v.toNat, by omega⟩
        have hitoa := fun W => Tryz.strconv_Itoa_small k (by omega) W
        have HI := Lib.hid hitoa
        by_cases hd : Lib.decDigits k = p
        · have hpk : placeK p n = some k := by
            unfold placeK; rw [ha]; simp only
            rw [if_pos ⟨by omega, by omega, by rw [Int.toNat_natCast]; exact hd⟩, Int.toNat_natCast]
          rw [hpk, show idxI (some k) = (k : Int) from rfl]
          have hst : (⟨(Lib.decDigits k).toArray⟩ : ByteArray) = BA p := by rw [hd]
          obtain ⟨s, hs⟩ : ∃ s, BA p = s := ⟨_, rfl⟩
          rw [hs] at hcall hst ⊢
          rw [hst] at HI
          clear hsz hdl h6 h7 hpk ha hs hitoa hst hd
          go_enter Tryz.func88, Tryz.ntmps88
          go_wp2_with fail
          refine (show Calls _ _ _ _ _ from hcall).mono ?_
          rintro e w2 ⟨rfl, hb2⟩
          have H2 := Lib.hid hb2
          clear hb2 hcall
          go_wp2_with fail
          refine (show Calls _ _ _ _ _ from HI.out _).mono ?_
          rintro e w3 ⟨rfl, rfl⟩
          go_wp2
          go_ret
          exact ⟨rfl, H2.out⟩
        · have hpk : placeK p n = none := by
            unfold placeK; rw [ha]; simp only
            rw [if_neg (by rintro ⟨_, _, h⟩; rw [Int.toNat_natCast] at h; exact hd h)]
          rw [hpk, show idxI none = -1 from rfl]
          obtain ⟨t, ht⟩ : ∃ t, (⟨(Lib.decDigits k).toArray⟩ : ByteArray) = t := ⟨_, rfl⟩
          have hne : (t.toList == (BA p).toList) = false := by
            rw [← ht, show (⟨(Lib.decDigits k).toArray⟩ : ByteArray) = BA (Lib.decDigits k) from rfl, bytes_eq]
            exact decide_eq_false hd
          obtain ⟨s, hs⟩ : ∃ s, BA p = s := ⟨_, rfl⟩
          rw [hs] at hcall hne ⊢
          rw [ht] at HI
          clear hsz hdl h6 h7 hpk ha hs hitoa ht hd
          go_enter Tryz.func88, Tryz.ntmps88
          go_wp2_with fail
          refine (show Calls _ _ _ _ _ from hcall).mono ?_
          rintro e w2 ⟨rfl, hb2⟩
          have H2 := Lib.hid hb2
          clear hb2 hcall
          go_wp2_with fail
          refine (show Calls _ _ _ _ _ from HI.out _).mono ?_
          rintro e w3 ⟨rfl, rfl⟩
          go_wp2
          go_ret
          exact ⟨rfl, H2.out⟩
  · have hpk : placeK p n = none := by unfold placeK; rw [ha]
    have hcall := Any.strconv_Atoi_syntax Tryz.laysC172 (BA p) (by omega) (by rw [hdl]; exact ha) e6 w h6 k6
    rw [hpk, show idxI none = -1 from rfl]
    obtain ⟨s, hs⟩ : ∃ s, BA p = s := ⟨_, rfl⟩
    rw [hs] at hcall ⊢
    clear hsz hdl h6 h7 hpk ha hs
    go_enter Tryz.func88, Tryz.ntmps88
    go_wp2_with fail
    refine (show Calls _ _ _ _ _ from hcall).mono ?_
    rintro e w2 ⟨N, rfl, _, _, hb2⟩
    have H2 := Lib.hid hb2
    clear hb2 hcall
    go_wp2
    go_ret
    exact ⟨rfl, H2.out⟩
  · have hpk : placeK p n = none := by unfold placeK; rw [ha]
    have hcall := Tryz.strconv_Atoi_range (BA p) (by omega) (by rw [hdl]; exact ha) e7 w h7 k7
    rw [hpk, show idxI none = -1 from rfl]
    obtain ⟨s, hs⟩ : ∃ s, BA p = s := ⟨_, rfl⟩
    rw [hs] at hcall ⊢
    obtain ⟨z, hz⟩ : ∃ z, Lib.atoiSat s.data.toList = z := ⟨_, rfl⟩
    rw [hz] at hcall
    clear hsz hdl h6 h7 hpk ha hs hz
    go_enter Tryz.func88, Tryz.ntmps88
    go_wp2_with fail
    refine (show Calls _ _ _ _ _ from hcall).mono ?_
    rintro e w2 ⟨N, rfl, _, _, hb2⟩
    have H2 := Lib.hid hb2
    clear hb2 hcall
    go_wp2
    go_ret
    exact ⟨rfl, H2.out⟩
end Go.Proofs.YtecnjifincahaaaGreatDoor
