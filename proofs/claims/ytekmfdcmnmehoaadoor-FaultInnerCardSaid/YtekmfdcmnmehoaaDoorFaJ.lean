/- Texts of errors of the codes 1..256, whatever strconv's table holds at place 2. -/
import Derived.Test.YtekmfdcmnmehoaaDoorFaI
import Derived.Lib.ItoaLen
namespace Go.Proofs.YtekmfdcmnmehoaaDoor
open Go.RowKit Go.Sort

theorem PZ.below {w w2 : World} {z : Int} (h : PZ w z) (hb : Below w.heap.size w w2) : PZ w2 z := bcell hb h
theorem itoaI_z (u : Nat) (z : Int) (w : World) (h1 : 100 ≤ u) (h2 : u ≤ 256) (hz : PZ w z) :
    Calls Tryd.prog 25 #[.int .i64 u] w fun e w' => e = .returned (.string ⟨(TZ z u).toArray⟩) ∧ ∃ k os, w' = grow (w.drewN k) os := by
  have HZ := Lib.hid hz
  clear hz
  go_enter Tryd.func25, Tryd.ntmps25
  go_wp2_with fail
  refine (fmt_z u z w h1 h2 HZ.out).mono ?_
  rintro e w2 ⟨rfl, k, os, hw⟩
  have HW := Lib.hid hw
  clear hw
  go_wp2
  go_ret
  exact ⟨rfl, k, os, HW.out⟩
theorem itoa_z (u : Nat) (z : Int) (w : World) (h1 : 100 ≤ u) (h2 : u ≤ 256) (hz : PZ w z) :
    Calls Tryd.prog 19 #[.int .i64 u] w fun e w' => e = .returned (.string ⟨(TZ z u).toArray⟩) ∧ ∃ k os, w' = grow (w.drewN k) os := by
  have HZ := Lib.hid hz
  clear hz
  go_enter Tryd.func19, Tryd.ntmps19
  go_wp2_with fail
  refine (itoaI_z u z w h1 h2 HZ.out).mono ?_
  rintro e w2 ⟨rfl, k, os, hw⟩
  have HW := Lib.hid hw
  clear hw
  go_wp2
  go_ret
  exact ⟨rfl, k, os, HW.out⟩
def TI (z : Int) (u : Nat) : ByteArray := if u < 100 then ⟨(Lib.decDigits u).toArray⟩ else ⟨(TZ z u).toArray⟩
theorem TI_size (z : Int) (u : Nat) (h2 : u ≤ 256) : (TI z u).size ≤ 1000 := by
  unfold TI
  split
  · show (Lib.decDigits u).toArray.size ≤ 1000
    have := Lib.nDigits_le20 u (by omega)
    simp [Lib.decDigits_length]; omega
  · show (TZ z u).toArray.size ≤ 1000
    have := TZ_len z u (by omega) h2
    have h3 : ndz z u ≤ 3 := by unfold ndz; split <;> omega
    simp; omega
theorem itoa_any (u : Nat) (z : Int) (w : World) (h2 : u ≤ 256) (hz : PZ w z) :
    Calls Tryd.prog 19 #[.int .i64 u] w fun e w' => e = .returned (.string (TI z u)) ∧ Below w.heap.size w w' := by
  by_cases h : u < 100
  · refine (Tryd.strconv_Itoa_small u h w).mono ?_
    rintro e w2 ⟨rfl, rfl⟩
    exact ⟨by unfold TI; rw [if_pos h], Below.refl _ _⟩
  · refine (itoa_z u z w (by omega) h2 hz).mono ?_
    rintro e w2 ⟨rfl, k, os, rfl⟩
    exact ⟨by unfold TI; rw [if_neg h], grow_below w k os⟩
def codeZ (z : Int) (u : Nat) : ByteArray := sErr ++ TI z u
set_option maxHeartbeats 1000000 in
theorem errno_z (u : Nat) (z : Int) (h2 : u ≤ 256) (w : World) (hz : PZ w z) :
    Calls Tryd.prog 12 #[.int .i64 u] w fun e w' => e = .returned (.string (codeZ z u)) ∧ Below w.heap.size w w' := by
  have hs : sErr.size = 6 := rfl
  have HZ := Lib.hid hz
  clear hz
  go_enter Tryd.func12, Tryd.ntmps12
  go_wp2_with fail
  refine (itoa_any u z w h2 HZ.out).mono ?_
  rintro e w2 ⟨rfl, hb⟩
  obtain ⟨nt, hnt⟩ : ∃ nt, nt = TI z u := ⟨_, rfl⟩
  have hsz : nt.size ≤ 1000 := by rw [hnt]; exact TI_size z u h2
  rw [← hnt]
  have HB := Lib.hid hb
  have HN := Lib.hid hnt
  clear hb hnt
  go_wp2
  go_ret
  exact ⟨by rw [HN.out]; rfl, HB.out⟩

set_option maxHeartbeats 2000000 in
theorem inner_text (p : ByteArray) (u b : Nat) (z : Int) (w : World) (hp1 : p.size ≤ 281474976710656) (h2 : u ≤ 256) (hB : Blk w b 36 [.string p, .iface 27 (.int .i64 u)]) (hz : PZ w z) :
    Calls Tryd.prog 15 #[.pointer (some ⟨b, 0, none⟩)] w fun e w' => e = .returned (.string ((p ++ sSep) ++ codeZ z u)) ∧ Below w.heap.size w w' := by
  have mE := methodErrC
  have c0 : w.cell? ⟨b, 0, none⟩ = some (.string p) := hB.cell 0
  have c1 : w.cell? ⟨b, 1, none⟩ = some (.iface 27 (.int .i64 u)) := hB.cell 1
  have HT := Lib.hid hz
  obtain ⟨T, hT⟩ : ∃ T, T = codeZ z u := ⟨_, rfl⟩
  have hct : T.size ≤ 1006 := by
    have h6 : sErr.size = 6 := rfl
    have := TI_size z u h2
    rw [hT]; unfold codeZ; rw [ByteArray.size_append]; omega
  have n1 : ¬ 9223372036854775807 < p.size + 2 := by omega
  have n2 : ¬ 9223372036854775807 < p.size + 2 + T.size := by omega
  have HTT := Lib.hid hT
  clear hB hz hT
  go_enter Tryd.func15, Tryd.ntmps15
  go_wp2
  have e0 : w.drew.cell? ⟨b, 0, none⟩ = some (.string p) := c0
  have e1 : w.drew.cell? ⟨b, 1, none⟩ = some (.iface 27 (.int .i64 u)) := c1
  go_region_held3 (fun w' => w'.cell? ⟨b, 0, none⟩ = some (.string p) ∧ w'.cell? ⟨b, 1, none⟩ = some (.iface 27 (.int .i64 u)))
    (first | go_keep | exact ⟨e0, e1⟩ | exact ⟨g1, g2⟩)
    ((go_at_call 12; refine (errno_z u z h2 _ (by first | exact HT.out | exact HT.out.below (pwDrewN (Below.refl _ _) 1))).mono ?_; rintro e w6 ⟨rfl, hb6⟩; have g1 := bcell hb6 e0; have g2 := bcell hb6 e1; rw [← HTT.out]))
  all_goals
    have HB6 := Lib.hid (undrew hb6)
    clear hb6 g1 g2 e0 e1
    go_wp2
    go_ret
    exact ⟨by rw [HTT.out]; rfl, HB6.out⟩
set_option maxHeartbeats 2000000 in
theorem outer_text (q p : ByteArray) (u b b2 : Nat) (z : Int) (w : World) (hq1 : q.size ≤ 281474976710656) (hp1 : p.size ≤ 281474976710656) (h2 : u ≤ 256)
    (hA : Blk w b 36 [.string q, .iface 34 (.pointer (some ⟨b2, 0, none⟩))]) (hB : Blk w b2 36 [.string p, .iface 27 (.int .i64 u)]) (hz : PZ w z) :
    Calls Tryd.prog 15 #[.pointer (some ⟨b, 0, none⟩)] w fun e w' => e = .returned (.string ((q ++ sSep) ++ ((p ++ sSep) ++ codeZ z u))) ∧ Below w.heap.size w w' := by
  have mE := methodErrF
  have c0 : w.cell? ⟨b, 0, none⟩ = some (.string q) := hA.cell 0
  have c1 : w.cell? ⟨b, 1, none⟩ = some (.iface 34 (.pointer (some ⟨b2, 0, none⟩))) := hA.cell 1
  have HI := Lib.hid (fun W (hb : Below w.heap.size w W) => inner_text p u b2 z W hp1 h2 (hB.below hb) (hz.below hb))
  obtain ⟨T, hT⟩ : ∃ T, T = (p ++ sSep) ++ codeZ z u := ⟨_, rfl⟩
  have hct : T.size ≤ 281474976710656 + 2 + 1006 := by
    have h6 : sErr.size = 6 := rfl
    have h7 : sSep.size = 2 := rfl
    have := TI_size z u h2
    rw [hT]; unfold codeZ; rw [ByteArray.size_append, ByteArray.size_append, ByteArray.size_append]; omega
  have n1 : ¬ 9223372036854775807 < q.size + 2 := by omega
  have n2 : ¬ 9223372036854775807 < q.size + 2 + T.size := by omega
  have HTT := Lib.hid hT
  clear hA hB hz hT
  go_enter Tryd.func15, Tryd.ntmps15
  go_wp2
  have e0 : w.drew.cell? ⟨b, 0, none⟩ = some (.string q) := c0
  have e1 : w.drew.cell? ⟨b, 1, none⟩ = some (.iface 34 (.pointer (some ⟨b2, 0, none⟩))) := c1
  go_region_held3 (fun w' => w'.cell? ⟨b, 0, none⟩ = some (.string q) ∧ w'.cell? ⟨b, 1, none⟩ = some (.iface 34 (.pointer (some ⟨b2, 0, none⟩))))
    (first | go_keep | exact ⟨e0, e1⟩ | exact ⟨g1, g2⟩)
    ((go_at_call 15; refine (HI.out _ (pwDrewN (Below.refl _ _) 1)).mono ?_; rintro e w6 ⟨rfl, hb6⟩; have g1 := bcell hb6 e0; have g2 := bcell hb6 e1; rw [← HTT.out]))
  all_goals
    have HB6 := Lib.hid (undrew hb6)
    clear hb6 g1 g2 e0 e1
    go_wp2
    go_ret
    exact ⟨by rw [HTT.out]; rfl, HB6.out⟩
end Go.Proofs.YtekmfdcmnmehoaaDoor
