/- A row's walk with the shape of the world at hand: strconv's table holds some number at place 2. -/
import Derived.Test.YtekmfdcmnmehoaaDoorRowT
import Derived.Test.YtekmfdcmnmehoaaDoorFaK
namespace Go.Proofs.YtekmfdcmnmehoaaDoor
open Go.ChangeShapes Go.WideShapes Go.ChangeAt Go.RowKit Go.Deep

theorem cell_ok_int {P : Program} {w : World} {r : Reach} {base : Nat} {t : TypeId} {v : Value} {k : IntKind} (ht : P.underlying t = some (.int k)) (h : Cell.ok P w r base t v) : ∃ z, v = .int k z := by
  unfold Cell.ok at h
  rw [ht] at h
  cases v <;> simp at h
  exact ⟨_, by rw [h.1]⟩
theorem pz_cell {w : World} {z : Int} {cs : Array Value} {t : TypeId} {fz : Nat × Nat} (hh : w.heap[1]? = some (.cells cs t fz)) (hv : cs[2]? = some (.int .u64 z)) : PZ w z := by
  unfold PZ World.cell?
  rw [hh]
  simpa using hv
theorem int_of_shaped {P : Program} {w : World} {g : Nat} {tv te : TypeId} {n j : Nat} {k : IntKind} {row : Array Value} (h : w.ShapedOpen P) (hg : (decide (g < P.globals.size)) = true)
    (hrow : ((begin P (fun _ _ => 0) default).world.heap[g]?).bind Obj.row? = some (row, tv)) (hsz : row.size = n) (hj : j < n)
    (hts : P.cellTypes P.depth tv = some (List.replicate n te)) (hb : P.buildable tv = true) (hu : P.underlying te = some (.int k)) : ∃ z cs, w.heap[g]? = some (.cells cs tv) ∧ cs[j]? = some (.int k z) := by
  obtain ⟨cs, hh, hs, hok⟩ := h.1 g _ _ (of_decide_eq_true hg) hrow
  obtain ⟨ts, hts2, _, hall⟩ := hok hb
  obtain rfl := Option.some.inj (hts.symm.trans hts2)
  have h2 : j < cs.size := by omega
  obtain ⟨u, hu2, hc⟩ := hall j (cs[j]'h2) (Array.getElem?_eq_getElem h2)
  rw [List.length_replicate, Nat.mod_eq_of_lt hj, List.getElem?_replicate, if_pos hj] at hu2
  obtain rfl := Option.some.inj hu2
  obtain ⟨z, hz⟩ := cell_ok_int hu hc
  exact ⟨z, cs, hh, by rw [← hz]; exact Array.getElem?_eq_getElem h2⟩
theorem pz_of_shaped {w : World} (h : w.ShapedOpen Tryd.prog) : ∃ z, PZ w z := by
  obtain ⟨z, cs, hh, hz⟩ := int_of_shaped (n := 20) (j := 2) (k := .u64) (te := 80) (tv := 88) (g := 1) (row := Array.replicate 20 (.int .u64 0)) h (by kernel_rfl) (by kernel_rfl) (by simp) (by omega) (by kernel_rfl) (by kernel_rfl) Tryd.underlying80
  exact ⟨z, pz_cell hh hz⟩

section
variable {H : Type} {enc : TypeId × Value → H}
theorem returnsInHanded_shaped {a : Assume} {C : Checked} {os : Os} {f : FuncId} {fn : Func} {s : ChangeSpec} {conds : List PathCond} {apart fresh handsOn again : Bool} {X : World → Array Value → Prop}
    (hX : ∀ (w w' : World) (args : Array Value), w.heap = w'.heap → X w args → X w' args)
    (own : ownKnob C.prog.godebug = none) (started : os.Started) (noInit : C.prog.inits.idxOf? f = none) (hfn : C.prog.funcs[f]? = some fn)
    (witness : ∃ (w : World) (tape : Tape) (i : Input), w.os = os ∧ (w.forCall tape i).Shaped C.prog ∧ i.vars = [] ∧ Input.okWide C.prog (w.forCall tape i) .any w.heap.size f i ∧
      ((s.pre enc C.prog fn conds apart (w.forCall tape i).memory i.args ∧ X (w.forCall tape i).memory i.args) ∧ sizedMet enc C.prog fn (OpenSpec.ofChange s) apart (w.forCall tape i).memory i.args) ∧ a.holds C.prog (lone (Frame.enter C.prog f i.args .normal) [] (w.forCall tape i)))
    (contract : ∀ (W : World) (base : Nat) (args : Array Value) (ds gs : List (DataW H)) (before : List MemPlace), W.ShapedOpen C.prog →
      (∀ (j : Nat) t v, fn.params[j]? = some t → args[j]? = some v → Value.okWide C.prog W .any base t v) →
      DataW.Whole enc C.prog fn.params.toList s.vars apart W args.toList ds gs before →
      conds.all (PathCond.test C.prog ⟨fn.params.toList, ds, s.plain.varTypes C.prog, gs⟩) = true →
      (DataW.weightsEach C.prog (fn.params.toList ++ s.plain.varTypes C.prog) (ds ++ gs)).all (· ≤ reachBytes) = true → X W args →
      a.holds C.prog (lone (Frame.enter C.prog f args .normal) [] W) →
      Calls C.prog f args W fun e W' => ∃ v, e = .returned v ∧ s.post enc C.prog fn apart fresh handsOn again W args v W') :
    ReturnsInHanded a C os f .any (fun w args => (s.pre enc C.prog fn conds apart w args ∧ X w args) ∧ sizedMet enc C.prog fn (OpenSpec.ofChange s) apart w args) (s.post enc C.prog fn apart fresh handsOn again) := by
  refine returnsInHanded_of_calls own started noInit witness ?_
  intro w tape i _ hsh _ hok hpre hholds
  obtain ⟨_, _, _, fn', hfn', _, _, _, _, hval⟩ := hok
  obtain rfl : fn' = fn := Option.some.inj (hfn'.symm.trans hfn)
  obtain ⟨⟨⟨ds, gs, before, hw, hc⟩, hx⟩, hz⟩ := hpre
  refine (contract (w.forCall tape i) w.heap.size i.args ds gs before hsh hval (DataW.Whole.of_heap (by rfl) hw) hc (hz.weights hw) (hX _ _ _ (by rfl) hx) hholds).mono fun e W' ⟨v, he, hp⟩ => ?_
  subst he
  exact ChangeSpec.post_blind hp
end
end Go.Proofs.YtekmfdcmnmehoaaDoor
