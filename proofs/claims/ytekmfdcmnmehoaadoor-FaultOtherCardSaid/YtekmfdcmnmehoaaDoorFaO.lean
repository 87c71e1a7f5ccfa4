/- An error of no code, in errors: errors.As, fault.Code, fault.Places. -/
import Derived.Test.YtekmfdcmnmehoaaDoorFaQ
namespace Go.Proofs.YtekmfdcmnmehoaaDoor
open Go.RowKit Go.Extern.Stop Go.Stop Go.Extern

theorem otTypeOf (v : Value) (w : World) : (ReflectliteType.typeOf #[.iface 41 v]).run Tryd.prog w = .ok (.iface 64 (.agg #[.pointer (some ⟨4, 41, none⟩)])) w := by kernel_rfl
theorem otAssignC (w : World) : (ReflectliteType.relation "AssignableTo" ReflectliteType.assignableTo #[.agg #[.pointer (some ⟨4, 41, none⟩)], .iface 64 (.agg #[.pointer (some ⟨4, 27, none⟩)])]).run Tryd.prog w = .ok (.bool false) w := by kernel_rfl
theorem otAssignE (w : World) : (ReflectliteType.relation "AssignableTo" ReflectliteType.assignableTo #[.agg #[.pointer (some ⟨4, 41, none⟩)], .iface 64 (.agg #[.pointer (some ⟨4, 34, none⟩)])]).run Tryd.prog w = .ok (.bool false) w := by kernel_rfl
theorem otNoAs (v : Value) (xT : TypeId) (w : World) : (Instr.typeAssert (.iface 41 v) xT 68 true).run Tryd.prog w = .ok (.tuple #[.nilIface, .bool false]) w := run_typeAssert_lacksB Tryd.underlying68 (by kernel_rfl) (by kernel_rfl) v xT w
theorem otNoUnwrap (v : Value) (xT : TypeId) (w : World) : (Instr.typeAssert (.iface 41 v) xT 71 true).run Tryd.prog w = .ok (.tuple #[.nilIface, .bool false]) w := run_typeAssert_lacksB Tryd.underlying71 (by kernel_rfl) (by kernel_rfl) v xT w
theorem otNoUnwraps (v : Value) (xT : TypeId) (w : World) : (Instr.typeAssert (.iface 41 v) xT 72 true).run Tryd.prog w = .ok (.tuple #[.nilIface, .bool false]) w := run_typeAssert_lacksB Tryd.underlying72 (by kernel_rfl) (by kernel_rfl) v xT w

/-- v is an error of no code, met at the places ps, the outermost first. -/
def PO (w : World) : List ByteArray → Value → Value → Prop
  | [], v, x => v = .iface 41 x
  | p :: ps, v, x => ∃ b u, v = .iface 34 (.pointer (some ⟨b, 0, none⟩)) ∧ Blk w b 36 [.string p, u] ∧ PO w ps u x
theorem PO.keep {w w2 : World} {x : Value} (hk : ∀ b xs, Blk w b 36 xs → Blk w2 b 36 xs) : ∀ {ps : List ByteArray} {v : Value}, PO w ps v x → PO w2 ps v x := by
  intro ps
  induction ps with
  | nil => intro v h; exact h
  | cons p ps ih =>
    intro v h
    obtain ⟨b, u, rfl, h1, h2⟩ := h
    exact ⟨b, u, rfl, hk _ _ h1, ih h2⟩
theorem PO.below {w w2 : World} (hb : Below w.heap.size w w2) {ps : List ByteArray} {v x : Value} (h : PO w ps v x) : PO w2 ps v x := h.keep (fun _ _ h => h.below hb)
theorem PO.ne_nil {w : World} {ps : List ByteArray} {v x : Value} (h : PO w ps v x) : ∃ t u, v = .iface t u := by
  cases ps with
  | nil => exact ⟨_, _, h⟩
  | cons p ps => obtain ⟨b, u, rfl, _⟩ := h; exact ⟨_, _, rfl⟩

set_option maxHeartbeats 1000000 in
theorem as_other (ps : List ByteArray) (v x : Value) (t a : Nat) (w : World) (hv : PO w ps v x) :
    Calls Tryd.prog 24 #[v, .iface 45 (.pointer (some ⟨t, 0, none⟩)), .agg #[.pointer (some ⟨4, 45, none⟩), .pointer (some ⟨a, 0, none⟩), .int .u64 150], .iface 64 (.agg #[.pointer (some ⟨4, 27, none⟩)])] w fun e w' =>
      e = .returned (.bool false) ∧ Below w.heap.size w w' := by
  have HC := Lib.hid hv
  clear hv
  go_enter Tryd.func24, Tryd.ntmps24
  go_wp2
  go_loopg [0] ps.length (fun m u wr => ∃ k : Nat, k + m = ps.length ∧ PO wr (ps.drop k) u x ∧ Below w.heap.size w wr)
  case atStart => exact ⟨0, by omega, HC.out.below ((Below.refl _ _).alloc (Nat.le_refl _) _), (Below.refl _ _).alloc (Nat.le_refl _) _⟩
  case round =>
    obtain ⟨k, hkm, hc, hb⟩ := hrel
    have rTO := asRunTypeOf
    have rAT := asRunAssign
    have mA := asMethodAssignableTo
    cases gk with
    | zero =>
      have hdr : ps.drop k = [] := List.drop_eq_nil_of_le (by omega)
      rw [hdr] at hc
      obtain rfl := hc
      have fT := otTypeOf
      have fA := otAssignC
      have fN := otNoAs
      have fU := otNoUnwrap
      have fV := otNoUnwraps
      have HB := Lib.hid hb
      clear hb hdr
      go_wp2
      go_ret
      exact ⟨rfl, HB.out⟩
    | succ m =>
      have hkl : k < ps.length := by omega
      obtain ⟨p, hpp⟩ : ∃ p, p = ps[k] := ⟨_, rfl⟩
      have hdr : ps.drop k = p :: ps.drop (k + 1) := by rw [hpp]; exact List.drop_eq_getElem_cons hkl
      rw [hdr] at hc
      obtain ⟨b, u, rfl, hB, hc2⟩ := hc
      have fT := asTypeOfF
      have fA := asAssignF
      have fN := asNoAsF
      have fU := asUnwrapF
      have mU := asMethodUnwrap
      obtain ⟨ty, uu, rfl⟩ := hc2.ne_nil
      have H := Lib.hid (And.intro hB (And.intro hc2 hb))
      clear hB hc2 hb hdr hpp
      go_wp2_with fail
      refine (unwrap_any b p _ wr H.out.1).mono ?_
      rintro e w2 ⟨rfl, rfl⟩
      go_wp2
      go_roundg m
      case measure => omega
      case rel => exact ⟨k + 1, by omega, H.out.2⟩

set_option maxHeartbeats 1000000 in
theorem As_other (ps : List ByteArray) (v x : Value) (t : Nat) (w : World) (hv : PO w ps v x) (hg : ErrT w) :
    Calls Tryd.prog 18 #[v, .iface 45 (.pointer (some ⟨t, 0, none⟩))] w fun e w' =>
      e = .returned (.bool false) ∧ Below w.heap.size w w' := by
  have rVO := asRunValueOf
  have rTy := asRunType
  have rIN := asRunIsNil
  have rK := asRunKind
  have rE := asRunElemT
  have rI := asRunImpl
  have fV := asValueOf
  have fT := asType
  have fKP := asKindP
  have fKE := asKindE
  have fE := asElemT
  have fI := asImplements
  have mK := asMethodKind
  have mE := asMethodElem
  have mI := asMethodImplements
  obtain ⟨ty, uu, rfl⟩ := hv.ne_nil
  have hgl := World.block_lt_of_cell? w _ hg
  obtain ⟨W, hW⟩ : ∃ W, W = ((w.alloc (.cells #[.pointer (some ⟨t, 0, none⟩)] 45)).alloc (.cells #[.pointer (some ⟨4, 45, none⟩), .pointer (some ⟨w.heap.size, 0, none⟩), .int .u64 150] 52)) := ⟨_, rfl⟩
  have hbW : Below w.heap.size w W := by rw [hW]; exact ((Below.refl _ _).alloc (Nat.le_refl _) _).alloc (by simp) _
  have hcW : W.cell? ⟨w.heap.size, 0, none⟩ = some (.pointer (some ⟨t, 0, none⟩)) := by
    rw [hW, World.cell?_alloc_lt _ _ ⟨w.heap.size, 0, none⟩ (by simp)]; simp
  have hg2 := bcell hbW hg
  have n8 := asIsNil ⟨w.heap.size, 0, none⟩ ⟨t, 0, none⟩ W hcW
  have HV := Lib.hid (And.intro hv (And.intro hbW hcW))
  rw [hW] at hg2 n8
  have HW := Lib.hid hW
  clear hv hbW hcW hW
  go_enter Tryd.func18, Tryd.ntmps18
  go_wp2_with fail
  rw [← HW.out]
  refine (as_other ps _ x t w.heap.size W (HV.out.1.below HV.out.2.1)).mono ?_
  rintro e w2 ⟨rfl, hb⟩
  have H := Lib.hid (HV.out.2.1.trans (hb.mono HV.out.2.1.size))
  clear hb
  go_wp2
  go_ret
  exact ⟨rfl, H.out⟩

set_option maxHeartbeats 1000000 in
theorem code_other (ps : List ByteArray) (v x : Value) (w : World) (hv : PO w ps v x) (hg : ErrT w) :
    Calls Tryd.prog 11 #[v] w fun e w' => e = .returned (.int .i64 99) ∧ Below w.heap.size w w' := by
  obtain ⟨ty, uu, rfl⟩ := hv.ne_nil
  obtain ⟨W, hW⟩ : ∃ W, W = w.alloc (.cells #[.int .i64 0] 27) := ⟨_, rfl⟩
  have hbW : Below w.heap.size w W := by rw [hW]; exact (Below.refl _ _).alloc (Nat.le_refl _) _
  have HV := Lib.hid (And.intro (hv.below hbW) (And.intro (hg.below hbW) hbW))
  have HW := Lib.hid hW
  clear hv hg hbW hW
  go_enter Tryd.func11, Tryd.ntmps11
  go_wp2_with fail
  rw [← HW.out]
  refine (As_other ps _ x w.heap.size W HV.out.1 HV.out.2.1).mono ?_
  rintro e w2 ⟨rfl, hb⟩
  have H := Lib.hid (HV.out.2.2.trans (hb.mono HV.out.2.2.size))
  clear hb
  go_wp2
  go_ret
  exact ⟨rfl, H.out⟩

set_option maxHeartbeats 1000000 in
theorem at_missO (t a : Nat) (x : Value) (w : World) :
    Calls Tryd.prog 24 #[.iface 41 x, .iface 48 (.pointer (some ⟨t, 0, none⟩)), .agg #[.pointer (some ⟨4, 48, none⟩), .pointer (some ⟨a, 0, none⟩), .int .u64 150], .iface 64 (.agg #[.pointer (some ⟨4, 34, none⟩)])] w fun e w' =>
      e = .returned (.bool false) ∧ Below w.heap.size w w' := by
  have rTO := asRunTypeOf
  have rAT := asRunAssign
  have mA := asMethodAssignableTo
  have fT := otTypeOf
  have fA := otAssignE
  have fN := otNoAs
  have fU := otNoUnwrap
  have fV := otNoUnwraps
  go_enter Tryd.func24, Tryd.ntmps24
  go_wp2
  refine wp_loop_rounds 1 ?_
  rw [rounds_succ]
  go_wp2
  go_ret
  exact ⟨rfl, (Below.refl _ _).alloc (Nat.le_refl _) _⟩

set_option maxHeartbeats 1000000 in
theorem At_missO (t : Nat) (x : Value) (w : World) (hg : ErrT w) :
    Calls Tryd.prog 18 #[.iface 41 x, .iface 48 (.pointer (some ⟨t, 0, none⟩))] w fun e w' => e = .returned (.bool false) ∧ Below w.heap.size w w' := by
  have rVO := asRunValueOf
  have rTy := asRunType
  have rIN := asRunIsNil
  have rK := asRunKind
  have rE := asRunElemT
  have rI := asRunImpl
  have fV := atValueOf
  have fT := atType
  have fKP := atKindP
  have fKE := atKindE
  have fE := atElemT
  have fI := atImplements
  have mK := asMethodKind
  have mE := asMethodElem
  have mI := asMethodImplements
  have hgl := World.block_lt_of_cell? w _ hg
  obtain ⟨W, hW⟩ : ∃ W, W = ((w.alloc (.cells #[.pointer (some ⟨t, 0, none⟩)] 48)).alloc (.cells #[.pointer (some ⟨4, 48, none⟩), .pointer (some ⟨w.heap.size, 0, none⟩), .int .u64 150] 52)) := ⟨_, rfl⟩
  have hbW : Below w.heap.size w W := by rw [hW]; exact ((Below.refl _ _).alloc (Nat.le_refl _) _).alloc (by simp) _
  have hcW : W.cell? ⟨w.heap.size, 0, none⟩ = some (.pointer (some ⟨t, 0, none⟩)) := by
    rw [hW, World.cell?_alloc_lt _ _ ⟨w.heap.size, 0, none⟩ (by simp)]; simp
  have hg2 := bcell hbW hg
  have n8 := atIsNil ⟨w.heap.size, 0, none⟩ ⟨t, 0, none⟩ W hcW
  have HV := Lib.hid hbW
  rw [hW] at hg2 n8
  have HW := Lib.hid hW
  clear hbW hcW hW
  go_enter Tryd.func18, Tryd.ntmps18
  go_wp2_with fail
  rw [← HW.out]
  refine (at_missO t w.heap.size x W).mono ?_
  rintro e w2 ⟨rfl, hb⟩
  have H := Lib.hid (HV.out.trans (hb.mono HV.out.size))
  clear hb
  go_wp2
  go_ret
  exact ⟨rfl, H.out⟩

set_option maxHeartbeats 2000000 in
theorem places_other (ps : List ByteArray) (v c : Value) (w : World) (hp : PO w ps v c) (hl : ps.length ≤ 1000) (hg : ErrT w) :
    Calls Tryd.prog 16 #[v] w fun e w' => ∃ u, e = .returned u ∧ w'.ownsRow w.heap.size 9 1 u ps.length (strsV ps) ∧ Below w.heap.size w w' := by
  have HP := Lib.hid hp
  have HG := Lib.hid hg
  clear hp hg
  go_enter Tryd.func16, Tryd.ntmps16
  go_wp2
  go_loopg [0, 3] ps.length (fun m ev uv wr => ∃ k : Nat, k + m = ps.length ∧ PO wr (ps.drop k) ev c ∧ wr.ownsRow w.heap.size 9 1 uv (ps.take k).length (strsV (ps.take k)) ∧ (∃ x, Blk wr w.heap.size 34 [x]) ∧ Below w.heap.size w wr)
  case atStart => exact ⟨0, by omega, HP.out.below ((Below.refl _ _).alloc (Nat.le_refl _) _), World.ownsRow_nil _ _ _ _, ⟨_, heap_alloc_new w _⟩, (Below.refl _ _).alloc (Nat.le_refl _) _⟩
  case round =>
    obtain ⟨k, hkm, hpc, hown, ⟨x, hblk⟩, hbr⟩ := hrel
    cases gk with
    | zero =>
      have hdr : ps.drop k = [] := List.drop_eq_nil_of_le (by omega)
      rw [hdr] at hpc
      obtain rfl := hpc
      have htk : ps.take k = ps := List.take_of_length_le (by omega)
      rw [htk] at hown
      have HO := Lib.hid (And.intro hown hbr)
      clear hown hbr hblk hdr htk
      go_wp2_with fail
      refine (At_missO _ c wr (HG.out.below HO.out.2)).mono ?_
      rintro e w2 ⟨rfl, hb2⟩
      have H2 := Lib.hid (And.intro (own_only HO.out.1 (Only.ofBelow hb2 NoneS) (fun _ _ h => h)) (HO.out.2.trans (hb2.mono HO.out.2.size)))
      clear hb2
      go_wp2
      go_ret
      exact ⟨_, rfl, H2.out⟩
    | succ m =>
      have hkl : k < ps.length := by omega
      obtain ⟨p, hpp⟩ : ∃ p, p = ps[k] := ⟨_, rfl⟩
      have hdr : ps.drop k = p :: ps.drop (k + 1) := by rw [hpp]; exact List.drop_eq_getElem_cons hkl
      have htk : ps.take (k + 1) = ps.take k ++ [p] := by rw [hpp]; exact List.take_succ_eq_append_getElem hkl
      rw [hdr] at hpc
      obtain ⟨b, u, rfl, hB, hpc2⟩ := hpc
      obtain ⟨tu, uu, rfl⟩ := hpc2.ne_nil
      have HO := Lib.hid (And.intro hown (And.intro hbr (And.intro hblk (And.intro hB (And.intro hpc2 htk)))))
      clear hown hbr hblk hB hpc2 htk hdr hpp
      go_wp2_with fail
      refine (At_hit b _ x wr HO.out.2.2.1 (HG.out.below HO.out.2.1)).mono ?_
      rintro e w2 ⟨rfl, hB2, hO2⟩
      have hBF := HO.out.2.2.2.1.only hO2 (fun e => by
        subst e
        have h1 : wr.heap[w.heap.size]? = _ := HO.out.2.2.1
        have h2 : wr.heap[w.heap.size]? = _ := HO.out.2.2.2.1
        rw [h1] at h2
        simp at h2)
      have c0 : w2.cell? ⟨w.heap.size, 0, none⟩ = some (.pointer (some ⟨b, 0, none⟩)) := hB2.cell 0
      have x0 : w2.cell? ⟨b, 0, none⟩ = some (.string p) := hBF.cell 0
      have x1 : w2.cell? ⟨b, 1, none⟩ = some (.iface tu uu) := hBF.cell 1
      have hown2 := own_only HO.out.1 hO2 (fun g e h => own_ne HO.out.2.2.1 HO.out.1 (by decide) g e h)
      have hsz2 := hO2.size
      have hlk : (ps.take k).length ≤ 1000000 := by rw [List.length_take]; omega
      obtain ⟨v5, w5, hrun, hv5, hg5⟩ := run_append_str p hown2 (by have := HO.out.2.1.size; omega) hlk
      have hO5 : Only (fun z => (u3).ownBlock = some z) w2 w5 := (Only.alloc _ w2 _).trans (Only.ofGrown hg5 (fun z e => e))
      have hbl5 := hB2.only hO5 (fun e => own_ne hB2 hown2 (by decide) _ e rfl)
      have hbf5 := hBF.only hO5 (fun e => own_ne hBF hown2 (by decide) _ e rfl)
      have y0 : w5.cell? ⟨w.heap.size, 0, none⟩ = some (.pointer (some ⟨b, 0, none⟩)) := hbl5.cell 0
      have y1 : w5.cell? ⟨b, 1, none⟩ = some (.iface tu uu) := hbf5.cell 1
      have hb5 : Below w.heap.size w w5 := (HO.out.2.1.trans (hO2.below HO.out.2.1.size (fun z hz e => by omega))).trans (hO5.below (by have := HO.out.2.1.size; omega) (fun z hz e => by have := own_blk_ge hown2 e; omega))
      have hpc5 : PO w5 (ps.drop (k + 1)) (.iface tu uu) c := by
        refine PO.keep ?_ HO.out.2.2.2.2.1
        intro z xs hz
        have h2 := hz.only hO2 (fun e2 => by
          subst e2
          have h1 : wr.heap[w.heap.size]? = _ := HO.out.2.2.1
          have h2 : wr.heap[w.heap.size]? = _ := hz
          rw [h1] at h2
          simp at h2)
        exact h2.only hO5 (fun e => own_ne h2 hown2 (by decide) _ e rfl)
      have H5 := Lib.hid (And.intro hv5 (And.intro hbl5 (And.intro hb5 hpc5)))
      clear hB2 hO2 hBF hown2 hsz2 hlk hv5 hg5 hO5 hbl5 hbf5 hb5 hpc5
      go_wp2_with (at_builtin; refine wpList_append_run rfl (.tmp 8) (.tmp 13) 22 rfl _ _ rfl rfl v5 w5 hrun ?_)
      go_wp2
      go_roundg m
      case measure => omega
      case rel => exact ⟨k + 1, by omega, H5.out.2.2.2, by rw [HO.out.2.2.2.2.2]; exact H5.out.1, ⟨_, H5.out.2.1⟩, H5.out.2.2.1⟩
end Go.Proofs.YtekmfdcmnmehoaaDoor
