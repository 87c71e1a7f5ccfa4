/- The text of an error in errors. -/
import Derived.Test.YtekmfdcmnmehoaaDoorFaB
namespace Go.Proofs.YtekmfdcmnmehoaaDoor
open Go.RowKit

theorem undrew {w W : World} (h : Below w.drew.heap.size w.drew W) : Below w.heap.size w W := ⟨h.os, h.tape, h.output, h.size, h.block⟩
def PT (w : World) : Prop := Lib.TabIs Tryd.prog w "internal/strconv.uint64pow10" .u64 Lib.pow10Tab
theorem pt_name : Tryd.prog.globalNamed "internal/strconv.uint64pow10" = some 1 := by kernel_rfl
theorem PT.below {w w2 : World} (h : PT w) (hb : Below w.heap.size w w2) : PT w2 := by
  unfold PT Lib.TabIs World.var? at h ⊢
  rw [pt_name] at h ⊢
  simp only [Option.bind_some] at h ⊢
  have hlt : 1 < w.heap.size := by
    rcases Nat.lt_or_ge 1 w.heap.size with h' | h'
    · exact h'
    · rw [Array.getElem?_eq_none h'] at h; cases h
  rw [hb.block 1 hlt]
  exact h
def sErr : ByteArray := ⟨#[101, 114, 114, 111, 114, 32]⟩
def sSep : ByteArray := ⟨#[58, 32]⟩
def numT (c : Int) : ByteArray := ⟨(Lib.itoa c).toArray⟩
def codeT (c : Int) : ByteArray := sErr ++ numT c
/-- The text of an error of text T at the places ps, the outermost first. -/
def placeT (T : ByteArray) : List ByteArray → ByteArray
  | [] => T
  | p :: ps => (p ++ sSep) ++ placeT T ps
theorem grow_below (w : World) (k : Nat) (os : Array Obj) : Below w.heap.size w (Go.Sort.grow (w.drewN k) os) :=
  ⟨rfl, rfl, rfl, by simp [Go.Sort.grow], fun i hi => by
    show ((w.drewN k).heap ++ os)[i]? = _
    rw [Array.getElem?_append_left (by show i < w.heap.size; omega)]
    rfl⟩
set_option maxHeartbeats 1000000 in
theorem errno_text (c : Int) (h0 : -9223372036854775808 ≤ c) (h1 : c ≤ 9223372036854775807) (hsz : (numT c).size ≤ 1000) (w : World) (ht : PT w) :
    Calls Tryd.prog 12 #[.int .i64 c] w fun e w' => e = .returned (.string (codeT c)) ∧ Below w.heap.size w w' := by
  have hc : sErr ++ numT c = codeT c := rfl
  have hs : sErr.size = 6 := rfl
  go_enter Tryd.func12, Tryd.ntmps12
  go_wp2_with fail
  refine (Tryd.strconv_Itoa c h0 h1 w ht).mono ?_
  rintro e w2 ⟨rfl, k, os, hw2⟩
  have hb : Below w.heap.size w w2 := by rw [hw2]; exact grow_below w k os
  obtain ⟨nt, hnt⟩ : ∃ nt, nt = numT c := ⟨_, rfl⟩
  rw [show (⟨(Lib.itoa c).toArray⟩ : ByteArray) = nt from hnt.symm]
  rw [← hnt] at hc hsz
  have HB := Lib.hid hb
  have HN := Lib.hid hnt
  clear hw2 hb hnt
  go_wp2
  go_ret
  exact ⟨by rw [HN.out]; rfl, HB.out⟩

theorem place_size (T : ByteArray) (M : Nat) : ∀ ps : List ByteArray, (∀ p ∈ ps, p.size ≤ M) → (placeT T ps).size ≤ T.size + ps.length * (M + 2) := by
  intro ps
  induction ps with
  | nil => intro _; simp [placeT]
  | cons p ps ih =>
    intro h
    have h1 := h p (by simp)
    have h2 := ih (fun q hq => h q (by simp [hq]))
    have h3 : sSep.size = 2 := rfl
    unfold placeT
    rw [ByteArray.size_append, ByteArray.size_append, h3, List.length_cons, Nat.succ_mul]
    omega
set_option maxHeartbeats 2000000 in
theorem fault_text (c : Int) (h0 : -9223372036854775808 ≤ c) (h1 : c ≤ 9223372036854775807) (hsz : (numT c).size ≤ 1000) : ∀ (ps : List ByteArray) (p : ByteArray) (u : Value) (b : Nat) (w : World), ps.length ≤ 1000 → (∀ q ∈ p :: ps, q.size ≤ 281474976710656) → Blk w b 36 [.string p, u] → PC w ps u c → PT w →
    Calls Tryd.prog 15 #[.pointer (some ⟨b, 0, none⟩)] w fun e w' => e = .returned (.string (placeT (codeT c) (p :: ps))) ∧ Below w.heap.size w w' := by
  intro ps
  induction ps with
  | nil =>
    intro p u b w hl hq hB hp ht
    obtain rfl := hp
    have mE := methodErrC
    have c0 : w.cell? ⟨b, 0, none⟩ = some (.string p) := hB.cell 0
    have c1 : w.cell? ⟨b, 1, none⟩ = some (.iface 27 (.int .i64 c)) := hB.cell 1
    have hp1 := hq p (by simp)
    have hct : (codeT c).size ≤ 1006 := by
      have : sErr.size = 6 := rfl
      unfold codeT; rw [ByteArray.size_append]; omega
    have HT := Lib.hid ht
    obtain ⟨T, hT⟩ : ∃ T, T = codeT c := ⟨_, rfl⟩
    rw [← hT] at hct
    have n1 : ¬ 9223372036854775807 < p.size + 2 := by omega
    have n2 : ¬ 9223372036854775807 < p.size + 2 + T.size := by omega
    have HTT := Lib.hid hT
    clear hq hB ht hT
    go_enter Tryd.func15, Tryd.ntmps15
    go_wp2
    have e0 : w.drew.cell? ⟨b, 0, none⟩ = some (.string p) := c0
    have e1 : w.drew.cell? ⟨b, 1, none⟩ = some (.iface 27 (.int .i64 c)) := c1
    go_region_held3 (fun w' => w'.cell? ⟨b, 0, none⟩ = some (.string p) ∧ w'.cell? ⟨b, 1, none⟩ = some (.iface 27 (.int .i64 c)))
      (first | go_keep | exact ⟨e0, e1⟩ | exact ⟨g1, g2⟩)
      ((go_at_call 12; refine (errno_text c h0 h1 hsz _ (by first | exact HT.out | exact HT.out.below (pwDrewN (Below.refl _ _) 1))).mono ?_; rintro e w6 ⟨rfl, hb6⟩; have g1 := bcell hb6 e0; have g2 := bcell hb6 e1; rw [← HTT.out]))
    all_goals
      have HB6 := Lib.hid (undrew hb6)
      clear hb6 g1 g2 e0 e1
      go_wp2
      go_ret
      exact ⟨by rw [HTT.out]; rfl, HB6.out⟩
  | cons q ps ih =>
    intro p u b w hl hq hB hp ht
    obtain ⟨b2, u2, rfl, hB2, hp2⟩ := hp
    have mE := methodErrF
    have c0 : w.cell? ⟨b, 0, none⟩ = some (.string p) := hB.cell 0
    have c1 : w.cell? ⟨b, 1, none⟩ = some (.iface 34 (.pointer (some ⟨b2, 0, none⟩))) := hB.cell 1
    have hp1 := hq p (by simp)
    have hct : (codeT c).size ≤ 1006 := by
      have : sErr.size = 6 := rfl
      unfold codeT; rw [ByteArray.size_append]; omega
    have hps := place_size (codeT c) 281474976710656 (q :: ps) (fun r hr => hq r (by simp only [List.mem_cons] at hr ⊢; exact .inr hr))
    have hlm : (q :: ps).length * (281474976710656 + 2) ≤ 1000 * (281474976710656 + 2) := Nat.mul_le_mul_right _ hl
    have HI := Lib.hid (fun W (hb : Below w.heap.size w W) => ih q u2 b2 W (by simp only [List.length_cons] at hl; omega) (fun r hr => hq r (by simp only [List.mem_cons] at hr ⊢; exact .inr hr)) (hB2.below hb) (hp2.below hb) (ht.below hb))
    obtain ⟨T, hT⟩ : ∃ T, T = placeT (codeT c) (q :: ps) := ⟨_, rfl⟩
    rw [← hT] at hps
    have n1 : ¬ 9223372036854775807 < p.size + 2 := by omega
    have n2 : ¬ 9223372036854775807 < p.size + 2 + T.size := by omega
    have HTT := Lib.hid hT
    clear hq hB ht hT ih hB2 hp2 hps hlm hct
    go_enter Tryd.func15, Tryd.ntmps15
    go_wp2
    have e0 : w.drew.cell? ⟨b, 0, none⟩ = some (.string p) := c0
    have e1 : w.drew.cell? ⟨b, 1, none⟩ = some (.iface 34 (.pointer (some ⟨b2, 0, none⟩))) := c1
    go_region_held3 (fun w' => w'.cell? ⟨b, 0, none⟩ = some (.string p) ∧ w'.cell? ⟨b, 1, none⟩ = some (.iface 34 (.pointer (some ⟨b2, 0, none⟩))))
      (first | go_keep | exact ⟨e0, e1⟩ | exact ⟨g1, g2⟩)
      ((go_at_call 15; refine (HI.out _ (pwDrewN (Below.refl _ _) 1)).mono ?_; rintro e w6 ⟨rfl, hb6⟩; have g1 := bcell hb6 e0; have g2 := bcell hb6 e1; rw [← HTT.out]))
    all_goals
      have HB6 := Lib.hid (undrew hb6)
      clear hb6 g1 g2 e0 e1
      go_wp2
      go_ret
      exact ⟨by rw [HTT.out]; rfl, HB6.out⟩
end Go.Proofs.YtekmfdcmnmehoaaDoor
