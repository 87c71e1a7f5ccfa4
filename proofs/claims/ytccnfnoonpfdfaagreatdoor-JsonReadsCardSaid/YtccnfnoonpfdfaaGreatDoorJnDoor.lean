/- What the Json laws' tied cards give a walk; worlds that meet them (printed by wip/gen_jndoor.py). -/
import Derived.Test.YtccnfnoonpfdfaaGreatDoorJnR
import Derived.Test.YtccnfnoonpfdfaaGreatDoorShelfU
import Derived.Test.YtccnfnoonpfdfaaGreatDoorTie
import Derived.Test.YtccnfnoonpfdfaaGreatDoorCards
import Derived.ChangeSame
import Derived.ChangeVars
import Derived.JoinedOf
import Derived.RowKit
import Derived.RowKitTokens
import Derived.LaidLaws
import Derived.LaidHandle
import Derived.Stop.Joined
import Derived.WalkKit
import Derived.ProofKit
import Derived.OpenShut
import Derived.Deep.Slices
import Derived.Lib.SmallJoins
import Derived.OpenVars
import Derived.LaidSub
import Derived.Lay
import Derived.Lib.LaidTab
import Derived.Lib.LaidIn
import Derived.Lib.LaidU8
import Derived.ChangeSlices
namespace Go.Proofs.YtccnfnoonpfdfaaGreatDoor
open Go.ChangeShapes Go.WideShapes Go.ChangeAt Go.RowKit Go.Deep Go.Lib

def laidL : List (String × DataW Unit) := [("errors.errorType", Rows.laid_errors_errorType)]
theorem own_knob : ownKnob Tryz.prog.godebug = none := by kernel_rfl
theorem laid_out : laidOutB Tryz.prog = true := by kernel_rfl
theorem door_et : Tryz.prog.globalNamed "errors.errorType" = some 2 := by kernel_rfl
theorem door_rt : (Tryz.prog.cutTypes.find? (·.1 == "internal/reflectlite.rtype")).map (·.2) = some 146 := by kernel_rfl
theorem door_row : ((List.range Tryz.prog.types.size).filter fun t => Tryz.prog.rowNamed t [101, 114, 114, 111, 114]) = [33] := by kernel_rfl

/-- WHAT THE CONDITION GIVES A WALK: the variable's one cell. -/
theorem errT_of_laid {W : World} (h : laidMetH Tryz.prog laidL W) : ErrT W := by
  have h' : laidMet Tryz.prog [] W ∧ handlesMet Tryz.prog laidL W := h
  obtain ⟨name, u, ty, e1, e2, e3, e4, e5⟩ := h'.2 _ (List.mem_singleton.2 rfl)
  have en : name = [101, 114, 114, 111, 114] := (Option.some.inj e1).symm
  subst en
  obtain rfl := Option.some.inj (door_rt.symm.trans e2)
  have hm : ty ∈ (List.range Tryz.prog.types.size).filter fun t => Tryz.prog.rowNamed t [101, 114, 114, 111, 114] := List.mem_filter.2 ⟨List.mem_range.2 e3, e4⟩
  rw [door_row] at hm
  obtain rfl := List.mem_singleton.1 hm
  have hh : typeHandle Tryz.prog 33 = .pointer (some ⟨11, 33, none⟩) := by kernel_rfl
  rw [hh] at e5
  unfold ErrT
  simpa using World.var?_cell door_et e5 0

/-- A world that meets the condition: the settled one, the variable's cell laid. -/
noncomputable def laidWorld (os : Os) : World :=
  let w0 := World.holding Tryz.prog os ⟨#[], #[], []⟩
  { w0 with heap := w0.heap.modify 2 fun
      | .cells _ t frozen => .cells #[.iface 146 (.agg #[.pointer (some ⟨11, 33, none⟩)])] t frozen
      | o => o }
theorem laidWorld_met (os : Os) (args : Array Value) : laidMetH Tryz.prog laidL ((laidWorld os).forCall (fun _ _ => 0) ⟨#[], args, []⟩).memory :=
  laidMetH_of_parts (laidMet_nil _ _) (by kernel_rfl)
theorem u8x : U8Extra Tryz.prog Tryz.lays260_ren := { n3 := by kernel_rfl, n4 := by kernel_rfl, y3 := by kernel_rfl, y4 := by kernel_rfl, c5 := by kernel_rfl, c119 := by kernel_rfl, c138 := by kernel_rfl }
def laidB : List (String × DataW Unit) := [("unicode/utf8.acceptRanges", Rows.laid_unicode_utf8_acceptRanges), ("unicode/utf8.first", Rows.laid_unicode_utf8_first)]
theorem keep_plainB : (laidB.filter fun x => x.2.handleName?.isNone) = [("unicode/utf8.acceptRanges", Lib.acceptData), ("unicode/utf8.first", Lib.firstData)] := by kernel_rfl
theorem tabs_of_laidB {W : World} (h : laidMetH Tryz.prog laidB W) : Tabs W := by
  have h1 := (laidMetH_iff.1 h).1
  rw [keep_plainB] at h1
  exact utf8Tabs_of_reads Tryz.lays260 u8x (Go.Lib.laidMet.reads h1 (List.mem_cons_of_mem _ (List.mem_singleton.2 rfl))) (Go.Lib.laidMet.reads h1 (List.mem_cons_self ..))

theorem spot_none {w : World} {a : Addr} {v : Value} (h : w.cell? a = some v) : a.spot = none := by
  cases hs : a.spot with
  | none => rfl
  | some s =>
    unfold World.cell? at h
    split at h
    · rw [hs] at h; simp at h
    · simp at h
theorem bytes_open {H : Type} {enc : TypeId × Value → H} {w : World} {base : Nat} {spare : Nat → Bool} {held : Bool} {v : Value} {d : DataW H} {ps : List MemPlace}
    (h : DataW.Trod enc Tryz.prog w base spare held 22 v d ps) (hv : v.cells.toList = [v]) : ∃ l, BRead w.heap.size w v l := by
  obtain ⟨fuel, h⟩ := h
  rw [hv] at h
  rcases open_ints Tryz.underlying22 Tryz.underlying5 (by kernel_rfl) h with ⟨hcs, _⟩ | ⟨a, len, cap, zs, hcs, hb, hl, hm, hlen, _, hx, hw⟩
  · simp only [List.cons.injEq, and_true] at hcs
    subst hcs
    exact ⟨[], BRead.nil _ _⟩
  · simp only [List.cons.injEq, and_true] at hcs
    subst hcs
    have hlm : len ≤ zs.length := by rw [hlen]; split <;> omega
    have hmax : cap ≤ 9223372036854775807 := by unfold maxLen at hm; omega
    refine ⟨(zs.take len).map fun z => UInt8.ofNat z.toNat, ?_, some a, cap, ?_, ?_, fun hpos => ?_⟩
    · rw [List.length_map, List.length_take]; omega
    · rw [List.length_map, List.length_take, Nat.min_eq_left hlm]
    · rw [List.length_map, List.length_take]; omega
    · rw [List.length_map, List.length_take] at hpos
      have hsp : a.spot = none := by
        have := hx 0 (by omega)
        simp only [Addr.add, if_true] at this
        exact spot_none this
      obtain ⟨b, o, sp⟩ := a
      simp only at hsp
      subst hsp
      have hcell : ∀ i, i < len → w.cell? ⟨b, o + i, none⟩ = some (.int .u8 (zs.getD i 0)) := fun i hi => by
        have h1 := hx i (by omega)
        have e : (⟨b, o, none⟩ : Addr).add i = ⟨b, o + i, none⟩ := by unfold Addr.add; split <;> simp_all
        rwa [e] at h1
      refine ⟨b, o, rfl, World.block_lt_of_cell? w _ (hcell 0 (by omega)), fun i u hu => ?_⟩
      rw [List.getElem?_map] at hu
      obtain ⟨z, hz, rfl⟩ := Option.map_eq_some_iff.1 hu
      rw [List.getElem?_take] at hz
      split at hz
      · rename_i hi
        rw [hcell i hi]
        have hzm := hw z (List.mem_of_getElem? hz)
        have hzw : 0 ≤ z ∧ z ≤ 255 := by simpa [Lit.wf, IntKind.min, IntKind.max, IntKind.signed, IntKind.bits] using hzm
        rw [List.getD_eq_getElem?_getD, hz]
        simp only [Option.getD_some, UInt8.toNat_ofNat']
        exact congrArg (fun x => some (Value.int .u8 x)) (by omega)
      · cases hz

/-- a laid table of texts. -/
theorem strs_of_reads {w : World} {nm : String} {g : Nat} {t : TypeId} {n : Nat} {ss : List BL} (ht : Tryz.prog.underlying t = some (.array n 9)) (hg : Tryz.prog.globalNamed nm = some g) (hty : (Tryz.prog.globals[g]?).map (·.type) = some t)
    (h : VarReads Tryz.prog w nm (.agg (ss.map fun s => .lit (.string s)))) : ∀ i s, i < n → ss[i]? = some s → w.cell? ⟨g, i, none⟩ = some (.string (BA s)) := by
  intro i s hi hs
  obtain ⟨g2, t2, cs, fuel, p, hg2, hty2, hvar, hd⟩ := h
  obtain rfl := Option.some.inj (hg.symm.trans hg2)
  obtain rfl := Option.some.inj (hty.symm.trans hty2)
  obtain ⟨fuel', d, q, hdi, he⟩ := array_elem ht hd i hi
  rw [List.getElem?_map, hs] at hdi
  obtain rfl := Option.some.inj hdi
  have hc : Tryz.prog.cellsOf 9 = 1 := by kernel_rfl
  rw [hc, Nat.mul_one] at he
  obtain ⟨S, hS, hx, _⟩ := DataW.trod_string Tryz.underlying9 he
  have e1 : s = S.data.toList := by
    have := congrArg Prod.fst hx
    simpa using this
  have e0 := congrArg (·[0]?) hS
  simp only [List.getElem?_take, List.getElem?_drop] at e0
  rw [World.var?_cell hg hvar i, ← Array.getElem?_toList, e1, ba_list]
  simpa using e0
/-- the world's shape: bytealg's variable holds some number. -/
theorem cell_ok_int {P : Program} {w : World} {r : Reach} {base : Nat} {t : TypeId} {v : Value} {k : IntKind} (ht : P.underlying t = some (.int k)) (h : Cell.ok P w r base t v) : ∃ z, v = .int k z := by
  unfold Cell.ok at h
  rw [ht] at h
  cases v <;> simp at h
  exact ⟨_, by rw [h.1]⟩
theorem int_of_shaped {P : Program} {w : World} {g : Nat} {tv te : TypeId} {n j : Nat} {k : IntKind} {row : Array Value} (h : w.ShapedOpen P) (hg : (decide (g < P.globals.size)) = true)
    (hrow : ((begin P (fun _ _ => 0) default).world.heap[g]?).bind Obj.row? = some (row, tv)) (hsz : row.size = n) (hj : j < n)
    (hts : P.cellTypes P.depth tv = some (List.replicate n te)) (hb : P.buildable tv = true) (hu : P.underlying te = some (.int k)) : ∃ z cs, w.heap[g]? = some (.cells cs tv) ∧ cs[j]? = some (.int k z) := by
  obtain ⟨cs, hh, hs, hok⟩ := h.1 g _ _ (of_decide_eq_true hg) hrow
  obtain ⟨ts, hts2, _, hall⟩ := hok hb
  obtain rfl := Option.some.inj (hts.symm.trans hts2)
  have h2 : j < cs.size := by omega
  obtain ⟨u, hu2, hc⟩ := hall j (cs[j]'h2) (Array.getElem?_eq_getElem h2)
  rw [List.length_replicate, Nat.mod_eq_of_lt hj, List.getElem?_replicate, if_pos hj] at hu2
  obtain rfl := Option.some.inj hu2
  obtain ⟨z, hz⟩ := cell_ok_int hu hc
  exact ⟨z, cs, hh, by rw [← hz]; exact Array.getElem?_eq_getElem h2⟩
section
variable {H : Type} {enc : TypeId × Value → H}
theorem returnsInHanded_shaped {a : Assume} {C : Checked} {os : Os} {f : FuncId} {fn : Func} {s : ChangeSpec} {conds : List PathCond} {apart fresh handsOn again : Bool} {X : World → Array Value → Prop}
    (hX : ∀ (w w' : World) (args : Array Value), w.heap = w'.heap → X w args → X w' args)
    (own : ownKnob C.prog.godebug = none) (started : os.Started) (noInit : C.prog.inits.idxOf? f = none) (hfn : C.prog.funcs[f]? = some fn)
    (witness : ∃ (w : World) (tape : Tape) (i : Input), w.os = os ∧ (w.forCall tape i).Shaped C.prog ∧ i.vars = [] ∧ Input.okWide C.prog (w.forCall tape i) .any w.heap.size f i ∧
      ((s.pre enc C.prog fn conds apart (w.forCall tape i).memory i.args ∧ X (w.forCall tape i).memory i.args) ∧ sizedMet enc C.prog fn (OpenSpec.ofChange s) apart (w.forCall tape i).memory i.args) ∧ a.holds C.prog (lone (Frame.enter C.prog f i.args .normal) [] (w.forCall tape i)))
    (contract : ∀ (W : World) (base : Nat) (args : Array Value) (ds gs : List (DataW H)) (before : List MemPlace), W.ShapedOpen C.prog →
      (∀ (j : Nat) t v, fn.params[j]? = some t → args[j]? = some v → Value.okWide C.prog W .any base t v) →
      DataW.Whole enc C.prog fn.params.toList s.vars apart W args.toList ds gs before →
      conds.all (PathCond.test C.prog ⟨fn.params.toList, ds, s.plain.varTypes C.prog, gs⟩) = true →
      (DataW.weightsEach C.prog (fn.params.toList ++ s.plain.varTypes C.prog) (ds ++ gs)).all (· ≤ reachBytes) = true → X W args →
      a.holds C.prog (lone (Frame.enter C.prog f args .normal) [] W) →
      Calls C.prog f args W fun e W' => ∃ v, e = .returned v ∧ s.post enc C.prog fn apart fresh handsOn again W args v W') :
    ReturnsInHanded a C os f .any (fun w args => (s.pre enc C.prog fn conds apart w args ∧ X w args) ∧ sizedMet enc C.prog fn (OpenSpec.ofChange s) apart w args) (s.post enc C.prog fn apart fresh handsOn again) := by
  refine returnsInHanded_of_calls own started noInit witness ?_
  intro w tape i _ hsh _ hok hpre hholds
  obtain ⟨_, _, _, fn', hfn', _, _, _, _, hval⟩ := hok
  obtain rfl : fn' = fn := Option.some.inj (hfn'.symm.trans hfn)
  obtain ⟨⟨⟨ds, gs, before, hw, hc⟩, hx⟩, hz⟩ := hpre
  refine (contract (w.forCall tape i) w.heap.size i.args ds gs before hsh hval (DataW.Whole.of_heap (by rfl) hw) hc (hz.weights hw) (hX _ _ _ (by rfl) hx) hholds).mono fun e W' ⟨v, he, hp⟩ => ?_
  subst he
  exact ChangeSpec.post_blind hp
end

/-- a laid variable of an interface's type that holds something. -/
theorem iface_var {w : World} {nm : String} {g : Nat} {t : TypeId} {ms : Array (String × TypeId)} {x : String} {d : DataW Unit} (ht : Tryz.prog.underlying t = some (.interface ms)) (hg : Tryz.prog.globalNamed nm = some g) (hty : (Tryz.prog.globals[g]?).map (·.type) = some t)
    (h : VarReads Tryz.prog w nm (.iface x d)) : ∃ te pe, w.var? Tryz.prog nm = some #[.iface te pe] := by
  obtain ⟨g2, t2, cs, fuel, p, hg2, hty2, hvar, hd⟩ := h
  obtain rfl := Option.some.inj (hg.symm.trans hg2)
  obtain rfl := Option.some.inj (hty.symm.trans hty2)
  have hc : ∃ te pe, cs.toList = [.iface te pe] := by
    cases fuel with
    | zero => unfold DataW.trod at hd; cases hd
    | succ n =>
      unfold DataW.trod at hd
      rw [ht] at hd
      generalize cs.toList = L at hd
      cases L with
      | nil => cases hd
      | cons u r =>
        cases r with
        | cons u2 r => cases u <;> cases hd
        | nil => cases u <;> first
          | exact ⟨_, _, rfl⟩
          | (cases hd)
  obtain ⟨te, pe, hc⟩ := hc
  refine ⟨te, pe, ?_⟩
  rw [hvar]
  exact congrArg some (Array.ext' hc)

theorem gPow : (Tryz.prog.globals[5]?).map (·.type) = some 172 := by kernel_rfl
theorem namePow : Tryz.prog.globalNamed "internal/strconv.uint64pow10" = some 5 := by kernel_rfl

def laidJ : List (String × DataW Unit) := [("math/bits.deBruijn32tab", Rows.laid_math_bits_deBruijn32tab), ("math/bits.deBruijn64tab", Rows.laid_math_bits_deBruijn64tab), ("internal/strconv.uint64pow10", Rows.laid_internal_strconv_uint64pow10), ("unicode/utf8.acceptRanges", Rows.laid_unicode_utf8_acceptRanges), ("errors.errorType", Rows.laid_errors_errorType), ("strconv.ErrRange", Rows.laid_strconv_ErrRange), ("strconv.ErrSyntax", Rows.laid_strconv_ErrSyntax), ("unicode/utf8.first", Rows.laid_unicode_utf8_first)]
theorem keep_tabJ : (laidJ.filter fun x => x.1 == "unicode/utf8.acceptRanges" || x.1 == "unicode/utf8.first") = laidB := by kernel_rfl
theorem keep_errJ : (laidJ.filter fun x => x.1 == "errors.errorType") = laidL := by kernel_rfl
theorem keep_powJ : ((laidJ.filter fun x => x.1 == "internal/strconv.uint64pow10").filter fun x => x.2.handleName?.isNone) = [("internal/strconv.uint64pow10", Lib.tabData .u64 Lib.pow10Tab)] := by rfl
def laidJp : List (String × DataW Unit) := [("math/bits.deBruijn32tab", Rows.laid_math_bits_deBruijn32tab), ("math/bits.deBruijn64tab", Rows.laid_math_bits_deBruijn64tab), ("internal/strconv.uint64pow10", Rows.laid_internal_strconv_uint64pow10), ("unicode/utf8.acceptRanges", Rows.laid_unicode_utf8_acceptRanges), ("strconv.ErrRange", Rows.laid_strconv_ErrRange), ("strconv.ErrSyntax", Rows.laid_strconv_ErrSyntax), ("unicode/utf8.first", Rows.laid_unicode_utf8_first)]
theorem keep_plainJ : (laidJ.filter fun x => x.2.handleName?.isNone) = laidJp := by kernel_rfl
set_option maxRecDepth 100000 in
theorem env_of_laidJ {W : World} (h : laidMetH Tryz.prog laidJ W) : EG W := by
  have h1 := (laidMetH_iff.1 h).1
  rw [keep_plainJ] at h1
  have a1 := Go.Lib.laidMet.reads h1 (n := "strconv.ErrSyntax") (d := Rows.laid_strconv_ErrSyntax) (by simp [laidJp])
  have a2 := Go.Lib.laidMet.reads h1 (n := "strconv.ErrRange") (d := Rows.laid_strconv_ErrRange) (by simp [laidJp])
  have b1 := iface_var (t := 33) (g := 9) Tryz.underlying33 (by kernel_rfl) (by kernel_rfl) a1
  have b2 := iface_var (t := 33) (g := 10) Tryz.underlying33 (by kernel_rfl) (by kernel_rfl) a2
  have c1 := h.filter (fun x => x.1 == "unicode/utf8.acceptRanges" || x.1 == "unicode/utf8.first")
  rw [keep_tabJ] at c1
  have c2 := h.filter (fun x => x.1 == "errors.errorType")
  rw [keep_errJ] at c2
  have c3 := (laidMetH_iff.1 (h.filter (fun x => x.1 == "internal/strconv.uint64pow10"))).1
  rw [keep_powJ] at c3
  refine ⟨⟨tabs_of_laidB c1, errT_of_laid c2, Lib.tabIs_of_head namePow gPow Tryz.underlying172 Tryz.underlying126 (by kernel_rfl) (by kernel_rfl) c3, b1, b2⟩, ?_⟩
  obtain ⟨te, pe, hv⟩ := b2
  have hc := World.var?_cell (g := 10) (by kernel_rfl) hv 0
  have hlt := World.block_lt_of_cell? W ⟨10, 0, none⟩ (show W.cell? ⟨10, 0, none⟩ = some (.iface te pe) from by rw [hc]; rfl)
  have hlt2 : 10 < W.heap.size := hlt
  omega
/-- A world that meets the condition. -/
noncomputable def laidWorldJ (os : Os) : World :=
  let w0 := World.laidAll Tryz.prog os (laidJ.filter fun x => x.2.handleName?.isNone)
  { w0 with heap := w0.heap.modify 2 fun
      | .cells _ t frozen => .cells #[.iface 146 (.agg #[.pointer (some ⟨11, 33, none⟩)])] t frozen
      | o => o }
set_option maxRecDepth 100000 in
theorem laidWorldJ_met (os : Os) (args : Array Value) : laidMetH Tryz.prog laidJ ((laidWorldJ os).forCall (fun _ _ => 0) ⟨#[], args, []⟩).memory :=
  laidMetH_of_parts ((LaidIn.of_run (List.range 400) 12 (by kernel_rfl) (by kernel_rfl) (by kernel_rfl) (by kernel_rfl)).met) (by kernel_rfl)

def laidI : List (String × DataW Unit) := [("math/bits.deBruijn32tab", Rows.laid_math_bits_deBruijn32tab), ("math/bits.deBruijn64tab", Rows.laid_math_bits_deBruijn64tab), ("internal/strconv.uint64pow10", Rows.laid_internal_strconv_uint64pow10), ("unicode/utf8.acceptRanges", Rows.laid_unicode_utf8_acceptRanges), ("errors.errorType", Rows.laid_errors_errorType), ("strconv.ErrRange", Rows.laid_strconv_ErrRange), ("strconv.ErrSyntax", Rows.laid_strconv_ErrSyntax), ("roundelay/roundelaylaw03.words", Rows.laid_roundelay_roundelaylaw03_words), ("roundelay/roundelaylaw03.names", Rows.laid_roundelay_roundelaylaw03_names), ("unicode/utf8.first", Rows.laid_unicode_utf8_first)]
theorem keep_tabI : (laidI.filter fun x => x.1 == "unicode/utf8.acceptRanges" || x.1 == "unicode/utf8.first") = laidB := by kernel_rfl
theorem keep_errI : (laidI.filter fun x => x.1 == "errors.errorType") = laidL := by kernel_rfl
theorem keep_powI : ((laidI.filter fun x => x.1 == "internal/strconv.uint64pow10").filter fun x => x.2.handleName?.isNone) = [("internal/strconv.uint64pow10", Lib.tabData .u64 Lib.pow10Tab)] := by rfl
def laidIp : List (String × DataW Unit) := [("math/bits.deBruijn32tab", Rows.laid_math_bits_deBruijn32tab), ("math/bits.deBruijn64tab", Rows.laid_math_bits_deBruijn64tab), ("internal/strconv.uint64pow10", Rows.laid_internal_strconv_uint64pow10), ("unicode/utf8.acceptRanges", Rows.laid_unicode_utf8_acceptRanges), ("strconv.ErrRange", Rows.laid_strconv_ErrRange), ("strconv.ErrSyntax", Rows.laid_strconv_ErrSyntax), ("roundelay/roundelaylaw03.words", Rows.laid_roundelay_roundelaylaw03_words), ("roundelay/roundelaylaw03.names", Rows.laid_roundelay_roundelaylaw03_names), ("unicode/utf8.first", Rows.laid_unicode_utf8_first)]
theorem keep_plainI : (laidI.filter fun x => x.2.handleName?.isNone) = laidIp := by kernel_rfl
set_option maxRecDepth 100000 in
theorem env_of_laidI {W : World} (h : laidMetH Tryz.prog laidI W) : EG W := by
  have h1 := (laidMetH_iff.1 h).1
  rw [keep_plainI] at h1
  have a1 := Go.Lib.laidMet.reads h1 (n := "strconv.ErrSyntax") (d := Rows.laid_strconv_ErrSyntax) (by simp [laidIp])
  have a2 := Go.Lib.laidMet.reads h1 (n := "strconv.ErrRange") (d := Rows.laid_strconv_ErrRange) (by simp [laidIp])
  have b1 := iface_var (t := 33) (g := 9) Tryz.underlying33 (by kernel_rfl) (by kernel_rfl) a1
  have b2 := iface_var (t := 33) (g := 10) Tryz.underlying33 (by kernel_rfl) (by kernel_rfl) a2
  have c1 := h.filter (fun x => x.1 == "unicode/utf8.acceptRanges" || x.1 == "unicode/utf8.first")
  rw [keep_tabI] at c1
  have c2 := h.filter (fun x => x.1 == "errors.errorType")
  rw [keep_errI] at c2
  have c3 := (laidMetH_iff.1 (h.filter (fun x => x.1 == "internal/strconv.uint64pow10"))).1
  rw [keep_powI] at c3
  refine ⟨⟨tabs_of_laidB c1, errT_of_laid c2, Lib.tabIs_of_head namePow gPow Tryz.underlying172 Tryz.underlying126 (by kernel_rfl) (by kernel_rfl) c3, b1, b2⟩, ?_⟩
  obtain ⟨te, pe, hv⟩ := b2
  have hc := World.var?_cell (g := 10) (by kernel_rfl) hv 0
  have hlt := World.block_lt_of_cell? W ⟨10, 0, none⟩ (show W.cell? ⟨10, 0, none⟩ = some (.iface te pe) from by rw [hc]; rfl)
  have hlt2 : 10 < W.heap.size := hlt
  omega
set_option maxRecDepth 100000 in
theorem words_of_laidI {W : World} (h : laidMetH Tryz.prog laidI W) : Words W := by
  have h1 := (laidMetH_iff.1 h).1
  rw [keep_plainI] at h1
  have a1 := Go.Lib.laidMet.reads h1 (n := "roundelay/roundelaylaw03.words") (d := Rows.laid_roundelay_roundelaylaw03_words) (by simp [laidIp])
  have a2 := Go.Lib.laidMet.reads h1 (n := "roundelay/roundelaylaw03.names") (d := Rows.laid_roundelay_roundelaylaw03_names) (by simp [laidIp])
  refine ⟨fun k hk => strs_of_reads (ss := [[], [97], [98], [97, 98], [0], [195, 169], [122, 0], [108, 111, 110, 103, 44, 32, 97, 110, 100, 32, 108, 111, 110, 103, 101, 114]]) Tryz.underlying78 (by kernel_rfl) (by kernel_rfl) a1 k (wordL k) hk ?_,
    fun k hk => strs_of_reads (ss := [[97], [98], [99], [110]]) Tryz.underlying79 (by kernel_rfl) (by kernel_rfl) a2 k (nameL k) hk ?_⟩
  · rcases (show k = 0 ∨ k = 1 ∨ k = 2 ∨ k = 3 ∨ k = 4 ∨ k = 5 ∨ k = 6 ∨ k = 7 by omega) with rfl | rfl | rfl | rfl | rfl | rfl | rfl | rfl <;> rfl
  · rcases (show k = 0 ∨ k = 1 ∨ k = 2 ∨ k = 3 by omega) with rfl | rfl | rfl | rfl <;> rfl
/-- A world that meets the condition. -/
noncomputable def laidWorldI (os : Os) : World :=
  let w0 := World.laidAll Tryz.prog os (laidI.filter fun x => x.2.handleName?.isNone)
  { w0 with heap := w0.heap.modify 2 fun
      | .cells _ t frozen => .cells #[.iface 146 (.agg #[.pointer (some ⟨11, 33, none⟩)])] t frozen
      | o => o }
set_option maxRecDepth 100000 in
theorem laidWorldI_met (os : Os) (args : Array Value) : laidMetH Tryz.prog laidI ((laidWorldI os).forCall (fun _ _ => 0) ⟨#[], args, []⟩).memory :=
  laidMetH_of_parts ((LaidIn.of_run (List.range 400) 12 (by kernel_rfl) (by kernel_rfl) (by kernel_rfl) (by kernel_rfl)).met) (by kernel_rfl)
end Go.Proofs.YtccnfnoonpfdfaaGreatDoor
