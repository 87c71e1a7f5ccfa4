/- errors.As at **Fault, all ways; fault.Places. -/
import Derived.Test.YtekmfdcmnmehoaaDoorFaP
namespace Go.Proofs.YtekmfdcmnmehoaaDoor
open Go.RowKit Go.Extern.Stop Go.Stop Go.Extern

set_option maxHeartbeats 1000000 in
theorem at_missC (t a : Nat) (c : Int) (w : World) :
    Calls Tryd.prog 24 #[.iface 27 (.int .i64 c), .iface 48 (.pointer (some ⟨t, 0, none⟩)), .agg #[.pointer (some ⟨4, 48, none⟩), .pointer (some ⟨a, 0, none⟩), .int .u64 150], .iface 64 (.agg #[.pointer (some ⟨4, 34, none⟩)])] w fun e w' =>
      e = .returned (.bool false) ∧ Below w.heap.size w w' := by
  have rTO := asRunTypeOf
  have rAT := asRunAssign
  have mA := asMethodAssignableTo
  have fT := asTypeOfC
  have fA := atAssignC
  have fN := atNoAsC
  have fU := noUnwrapE
  have fV := noUnwrapsE
  go_enter Tryd.func24, Tryd.ntmps24
  go_wp2
  refine wp_loop_rounds 1 ?_
  rw [rounds_succ]
  go_wp2
  go_ret
  exact ⟨rfl, (Below.refl _ _).alloc (Nat.le_refl _) _⟩

set_option maxHeartbeats 1000000 in
theorem At_hit (b t : Nat) (old : Value) (w : World) (ht : Blk w t 34 [old]) (hg : ErrT w) :
    Calls Tryd.prog 18 #[.iface 34 (.pointer (some ⟨b, 0, none⟩)), .iface 48 (.pointer (some ⟨t, 0, none⟩))] w fun e w' =>
      e = .returned (.bool true) ∧ Blk w' t 34 [.pointer (some ⟨b, 0, none⟩)] ∧ Only (· = t) w w' := by
  have rVO := asRunValueOf
  have rTy := asRunType
  have rIN := asRunIsNil
  have rK := asRunKind
  have rE := asRunElemT
  have rI := asRunImpl
  have fV := atValueOf
  have fT := atType
  have fKP := atKindP
  have fKE := atKindE
  have fE := atElemT
  have fI := atImplements
  have mK := asMethodKind
  have mE := asMethodElem
  have mI := asMethodImplements
  have hgl := World.block_lt_of_cell? w _ hg
  obtain ⟨W, hW⟩ : ∃ W, W = ((w.alloc (.cells #[.pointer (some ⟨t, 0, none⟩)] 48)).alloc (.cells #[.pointer (some ⟨4, 48, none⟩), .pointer (some ⟨w.heap.size, 0, none⟩), .int .u64 150] 52)) := ⟨_, rfl⟩
  have hbW : Below w.heap.size w W := by rw [hW]; exact ((Below.refl _ _).alloc (Nat.le_refl _) _).alloc (by simp) _
  have hcW : W.cell? ⟨w.heap.size, 0, none⟩ = some (.pointer (some ⟨t, 0, none⟩)) := by
    rw [hW, World.cell?_alloc_lt _ _ ⟨w.heap.size, 0, none⟩ (by simp)]; simp
  have hg2 := bcell hbW hg
  have n8 := atIsNil ⟨w.heap.size, 0, none⟩ ⟨t, 0, none⟩ W hcW
  have HV := Lib.hid (And.intro ht (And.intro hbW hcW))
  rw [hW] at hg2 n8
  have HW := Lib.hid hW
  clear ht hbW hcW hW
  go_enter Tryd.func18, Tryd.ntmps18
  go_wp2_with fail
  rw [← HW.out]
  refine (at_hit b t w.heap.size old W (HV.out.1.below HV.out.2.1) HV.out.2.2).mono ?_
  rintro e w2 ⟨rfl, hB, hO⟩
  have H := Lib.hid (And.intro hB ((Only.ofBelow HV.out.2.1 _).trans' hO (fun _ _ h => h)))
  clear hB hO
  go_wp2
  go_ret
  exact ⟨rfl, H.out⟩
set_option maxHeartbeats 1000000 in
theorem At_missC (t : Nat) (c : Int) (w : World) (hg : ErrT w) :
    Calls Tryd.prog 18 #[.iface 27 (.int .i64 c), .iface 48 (.pointer (some ⟨t, 0, none⟩))] w fun e w' => e = .returned (.bool false) ∧ Below w.heap.size w w' := by
  have rVO := asRunValueOf
  have rTy := asRunType
  have rIN := asRunIsNil
  have rK := asRunKind
  have rE := asRunElemT
  have rI := asRunImpl
  have fV := atValueOf
  have fT := atType
  have fKP := atKindP
  have fKE := atKindE
  have fE := atElemT
  have fI := atImplements
  have mK := asMethodKind
  have mE := asMethodElem
  have mI := asMethodImplements
  have hgl := World.block_lt_of_cell? w _ hg
  obtain ⟨W, hW⟩ : ∃ W, W = ((w.alloc (.cells #[.pointer (some ⟨t, 0, none⟩)] 48)).alloc (.cells #[.pointer (some ⟨4, 48, none⟩), .pointer (some ⟨w.heap.size, 0, none⟩), .int .u64 150] 52)) := ⟨_, rfl⟩
  have hbW : Below w.heap.size w W := by rw [hW]; exact ((Below.refl _ _).alloc (Nat.le_refl _) _).alloc (by simp) _
  have hcW : W.cell? ⟨w.heap.size, 0, none⟩ = some (.pointer (some ⟨t, 0, none⟩)) := by
    rw [hW, World.cell?_alloc_lt _ _ ⟨w.heap.size, 0, none⟩ (by simp)]; simp
  have hg2 := bcell hbW hg
  have n8 := atIsNil ⟨w.heap.size, 0, none⟩ ⟨t, 0, none⟩ W hcW
  have HV := Lib.hid hbW
  rw [hW] at hg2 n8
  have HW := Lib.hid hW
  clear hbW hcW hW
  go_enter Tryd.func18, Tryd.ntmps18
  go_wp2_with fail
  rw [← HW.out]
  refine (at_missC t w.heap.size c W).mono ?_
  rintro e w2 ⟨rfl, hb⟩
  have H := Lib.hid (HV.out.trans (hb.mono HV.out.size))
  clear hb
  go_wp2
  go_ret
  exact ⟨rfl, H.out⟩

theorem PC.keep {w w2 : World} {c : Int} (hk : ∀ b xs, Blk w b 36 xs → Blk w2 b 36 xs) : ∀ {ps : List ByteArray} {v : Value}, PC w ps v c → PC w2 ps v c := by
  intro ps
  induction ps with
  | nil => intro v h; exact h
  | cons p ps ih =>
    intro v h
    obtain ⟨b, u, rfl, h1, h2⟩ := h
    exact ⟨b, u, rfl, hk _ _ h1, ih h2⟩

/-! ### rows of texts -/
def strsV (l : List ByteArray) : List Value := l.map Value.string
theorem infoStr : (Tryd.prog.info? 9).map (fun i => (i.zero, i.size, i.bytes)) = some (some (.string ⟨#[]⟩), 1, 16) := by kernel_rfl
theorem own_blk_ge {w : World} {b : Nat} {e : TypeId} {size n : Nat} {v : Value} {xs : List Value} (h : w.ownsRow b e size v n xs) {k : Nat} (hk : v.ownBlock = some k) : b ≤ k := by
  obtain ⟨_, h⟩ := h
  rcases h with ⟨h, _⟩ | ⟨g, cap2, cur, h, hb, _⟩
  · rw [h] at hk; simp [Value.ownBlock] at hk
  · rw [h] at hk
    simp only [Value.ownBlock, Option.some.injEq] at hk
    omega
theorem own_ne {w : World} {c b n size : Nat} {e e2 : TypeId} {v : Value} {xs ys : List Value} (hb : Blk w c e ys) (h : w.ownsRow b e2 size v n xs) (hne : e ≠ e2) : ∀ g, v.ownBlock = some g → g ≠ c := by
  intro g hg e3
  subst e3
  obtain ⟨_, h⟩ := h
  rcases h with ⟨h, _⟩ | ⟨g2, cap, cur, rfl, _, hc, _⟩
  · rw [h] at hg; simp [Value.ownBlock] at hg
  · simp only [Value.ownBlock, Option.some.injEq] at hg
    subst hg
    have h2 : w.heap[g2]? = _ := hb
    rw [hc] at h2
    simp only [Option.some.injEq, Obj.cells.injEq] at h2
    exact hne h2.2.1.symm
theorem own_only {S : Nat → Prop} {w w1 : World} {base : Nat} {e : TypeId} {size n : Nat} {v : Value} {xs : List Value} (h : w.ownsRow base e size v n xs) (ho : Only S w w1) (hs : ∀ g, v.ownBlock = some g → ¬ S g) : w1.ownsRow base e size v n xs := by
  rcases h with ⟨hx, h0 | ⟨g, cap, cur, rfl, hb, hg, hr⟩⟩
  · exact ⟨hx, .inl h0⟩
  · exact ⟨hx, .inr ⟨g, cap, cur, rfl, hb, (ho.block g (Array.getElem?_eq_some_iff.1 hg).1 (hs g rfl)).trans hg, hr⟩⟩
theorem wpList_append_run {P : Program} {ops : Array Oper} {rest : List Oper} {o : Oper} {a : Act} {w : World} {Q : Exit → Act → World → Prop}
    (hg : o.guard = none) (s x : Operand) (t : TypeId) (hop : o.op = Op.call { callee := Callee.builtin Builtin.append, args := #[s, x], argTypes := #[t, t] })
    (v u : Value) (hs : a.eval s = v) (hx : a.eval x = u) (v2 : Value) (w2 : World) (hrun : ∀ ty, (Builtin.append_ #[t, t] ty #[v, u]).run P w = .ok v2 w2)
    (hK : wpList P ops Q rest (a.put o.dst v2) w2) : wpList P ops Q (o :: rest) a w := by
  refine wpList_plain hg fun K hK' => ?_
  unfold Oper.wp
  simp [execOp, hop, resolve, invoke, builtin, hs, hx, hrun, Result.andThen]
  exact hK' _ _ hK
theorem run_append_str {b1 : Nat} {w : World} {v1 : Value} {l1 : List ByteArray} (s : ByteArray) (h1 : w.ownsRow b1 9 1 v1 l1.length (strsV l1)) (hb : b1 ≤ w.heap.size) (hl : l1.length ≤ 1000000) :
    ∃ v w', (∀ ty, (Builtin.append_ #[22, 22] ty #[v1, .slice (some ⟨w.heap.size, 0, none⟩) 1 1]).run Tryd.prog (w.alloc (.cells #[.string s] 9)) = .ok v w') ∧ w'.ownsRow b1 9 1 v (l1 ++ [s]).length (strsV (l1 ++ [s])) ∧ (w.alloc (.cells #[.string s] 9)).grownBy w' v1.ownBlock := by
  obtain ⟨i, hi, hii⟩ := Option.map_eq_some_iff.1 infoStr
  simp only [Prod.mk.injEq] at hii
  obtain ⟨i1, i2, i3⟩ := hii
  have key := fun ty => run_append_own_at (P := Tryd.prog) (w.alloc (.cells #[.string s] 9)) b1 22 ty 9 i (.string ⟨#[]⟩) 1 16 Tryd.underlying22 hi i1 i2 i3 rfl (by decide) v1 l1.length (strsV l1) (h1.alloc _)
    ⟨w.heap.size, 0, none⟩ 1 1 [.string s] rfl (cell_one_new _ _ _) (by simp [Value.oneCell']) (by unfold maxLen; omega) (by omega) (by simp; omega)
  obtain ⟨v, w', hr, ho, hg, _, _⟩ := key 0
  exact ⟨v, w', fun ty => hr, by rw [show strsV (l1 ++ [s]) = strsV l1 ++ [.string s] by simp [strsV], List.length_append]; exact ho, hg⟩

set_option maxHeartbeats 2000000 in
theorem places_any (ps : List ByteArray) (v : Value) (c : Int) (w : World) (hp : PC w ps v c) (hl : ps.length ≤ 1000) (hg : ErrT w) :
    Calls Tryd.prog 16 #[v] w fun e w' => ∃ u, e = .returned u ∧ w'.ownsRow w.heap.size 9 1 u ps.length (strsV ps) ∧ Below w.heap.size w w' := by
  have HP := Lib.hid hp
  have HG := Lib.hid hg
  clear hp hg
  go_enter Tryd.func16, Tryd.ntmps16
  go_wp2
  go_loopg [0, 3] ps.length (fun m ev uv wr => ∃ k : Nat, k + m = ps.length ∧ PC wr (ps.drop k) ev c ∧ wr.ownsRow w.heap.size 9 1 uv (ps.take k).length (strsV (ps.take k)) ∧ (∃ x, Blk wr w.heap.size 34 [x]) ∧ Below w.heap.size w wr)
  case atStart => exact ⟨0, by omega, PC.below ((Below.refl _ _).alloc (Nat.le_refl _) _) HP.out, World.ownsRow_nil _ _ _ _, ⟨_, heap_alloc_new w _⟩, (Below.refl _ _).alloc (Nat.le_refl _) _⟩
  case round =>
    obtain ⟨k, hkm, hpc, hown, ⟨x, hblk⟩, hbr⟩ := hrel
    cases gk with
    | zero =>
      have hdr : ps.drop k = [] := List.drop_eq_nil_of_le (by omega)
      rw [hdr] at hpc
      obtain rfl := hpc
      have htk : ps.take k = ps := List.take_of_length_le (by omega)
      rw [htk] at hown
      have HO := Lib.hid (And.intro hown hbr)
      clear hown hbr hblk hdr htk
      go_wp2_with fail
      refine (At_missC _ c wr (HG.out.below HO.out.2)).mono ?_
      rintro e w2 ⟨rfl, hb2⟩
      have H2 := Lib.hid (And.intro (own_only HO.out.1 (Only.ofBelow hb2 NoneS) (fun _ _ h => h)) (HO.out.2.trans (hb2.mono HO.out.2.size)))
      clear hb2
      go_wp2
      go_ret
      exact ⟨_, rfl, H2.out⟩
    | succ m =>
      have hkl : k < ps.length := by omega
      obtain ⟨p, hpp⟩ : ∃ p, p = ps[k] := ⟨_, rfl⟩
      have hdr : ps.drop k = p :: ps.drop (k + 1) := by rw [hpp]; exact List.drop_eq_getElem_cons hkl
      have htk : ps.take (k + 1) = ps.take k ++ [p] := by rw [hpp]; exact List.take_succ_eq_append_getElem hkl
      rw [hdr] at hpc
      obtain ⟨b, u, rfl, hB, hpc2⟩ := hpc
      obtain ⟨tu, uu, rfl⟩ := hpc2.ne_nil
      have HO := Lib.hid (And.intro hown (And.intro hbr (And.intro hblk (And.intro hB (And.intro hpc2 htk)))))
      clear hown hbr hblk hB hpc2 htk hdr hpp
      go_wp2_with fail
      refine (At_hit b _ x wr HO.out.2.2.1 (HG.out.below HO.out.2.1)).mono ?_
      rintro e w2 ⟨rfl, hB2, hO2⟩
      have hBF := HO.out.2.2.2.1.only hO2 (fun e => by
        subst e
        have h1 : wr.heap[w.heap.size]? = _ := HO.out.2.2.1
        have h2 : wr.heap[w.heap.size]? = _ := HO.out.2.2.2.1
        rw [h1] at h2
        simp at h2)
      have c0 : w2.cell? ⟨w.heap.size, 0, none⟩ = some (.pointer (some ⟨b, 0, none⟩)) := hB2.cell 0
      have x0 : w2.cell? ⟨b, 0, none⟩ = some (.string p) := hBF.cell 0
      have x1 : w2.cell? ⟨b, 1, none⟩ = some (.iface tu uu) := hBF.cell 1
      have hown2 := own_only HO.out.1 hO2 (fun g e h => own_ne HO.out.2.2.1 HO.out.1 (by decide) g e h)
      have hsz2 := hO2.size
      have hlk : (ps.take k).length ≤ 1000000 := by rw [List.length_take]; omega
      obtain ⟨v5, w5, hrun, hv5, hg5⟩ := run_append_str p hown2 (by have := HO.out.2.1.size; omega) hlk
      have hO5 : Only (fun z => (u3).ownBlock = some z) w2 w5 := (Only.alloc _ w2 _).trans (Only.ofGrown hg5 (fun z e => e))
      have hbl5 := hB2.only hO5 (fun e => own_ne hB2 hown2 (by decide) _ e rfl)
      have hbf5 := hBF.only hO5 (fun e => own_ne hBF hown2 (by decide) _ e rfl)
      have y0 : w5.cell? ⟨w.heap.size, 0, none⟩ = some (.pointer (some ⟨b, 0, none⟩)) := hbl5.cell 0
      have y1 : w5.cell? ⟨b, 1, none⟩ = some (.iface tu uu) := hbf5.cell 1
      have hb5 : Below w.heap.size w w5 := (HO.out.2.1.trans (hO2.below HO.out.2.1.size (fun z hz e => by omega))).trans (hO5.below (by have := HO.out.2.1.size; omega) (fun z hz e => by have := own_blk_ge hown2 e; omega))
      have hpc5 : PC w5 (ps.drop (k + 1)) (.iface tu uu) c := by
        refine PC.keep ?_ HO.out.2.2.2.2.1
        intro z xs hz
        have h2 := hz.only hO2 (fun e2 => by
          subst e2
          have h1 : wr.heap[w.heap.size]? = _ := HO.out.2.2.1
          have h2 : wr.heap[w.heap.size]? = _ := hz
          rw [h1] at h2
          simp at h2)
        exact h2.only hO5 (fun e => own_ne h2 hown2 (by decide) _ e rfl)
      have H5 := Lib.hid (And.intro hv5 (And.intro hbl5 (And.intro hb5 hpc5)))
      clear hB2 hO2 hBF hown2 hsz2 hlk hv5 hg5 hO5 hbl5 hbf5 hb5 hpc5
      go_wp2_with (at_builtin; refine wpList_append_run rfl (.tmp 8) (.tmp 13) 22 rfl _ _ rfl rfl v5 w5 hrun ?_)
      go_wp2
      go_roundg m
      case measure => omega
      case rel => exact ⟨k + 1, by omega, H5.out.2.2.2, by rw [HO.out.2.2.2.2.2]; exact H5.out.1, ⟨_, H5.out.2.1⟩, H5.out.2.2.1⟩
end Go.Proofs.YtekmfdcmnmehoaaDoor
