/- Locks' laws: what the document says: Queue.Ask. -/
import Derived.Test.YteghcgiclpbkdaaDoorLkV
import Derived.Laws.ResultCell
namespace Go.Proofs.YteghcgiclpbkdaaDoor
open Go.RowKit

theorem own_none {W : World} {g b : Nat} (h : W.heap[g]? = some (.cells #[] 34 (0, 0))) (hb : b ≤ g) : W.ownsRow b 34 2 (.slice (some ⟨g, 0, none⟩) 0 0) ([] : List (Int × Int)).length (gcells []) :=
  ⟨by simp [gcells], .inr ⟨g, 0, #[], rfl, hb, h, Nat.le_refl _, by decide, by simp, by simp [gcells]⟩⟩
theorem gread_blk {W : World} {g : Nat} {x : Int × Int} (h : Blk W g 34 [.int .i64 x.1, .int .i64 x.2]) : GRead W (.slice (some ⟨g, 0, none⟩) 1 1) [x] := by
  refine ⟨by simp, _, 1, rfl, fun _ => ⟨g, 0, rfl, fun i hi => ?_⟩⟩
  obtain rfl : i = 0 := by simp at hi; omega
  exact ⟨h.cell 0, h.cell 1⟩

/-- At a step of a region that draws: append, all that is new lying behind P. -/
theorem step_append_G (P : World) {ops : Array Oper} {o : Oper} {a : Act} {W : World} {K : Act → World → Prop} {Q : Exit → Act → World → Prop} {E : Prop}
    (hg : o.guard = none) (s x : Operand) (hop : o.op = Op.call { callee := Callee.builtin Builtin.append, args := #[s, x], argTypes := #[31, 31] })
    (v1 v2 : Value) (hs : a.eval s = v1) (hx : a.eval x = v2) (l1 l2 : List (Int × Int)) (hP : Below P.heap.size P W) (h1 : W.ownsRow P.heap.size 34 2 v1 l1.length (gcells l1)) (h2 : GRead W v2 l2) (hl : l1.length + l2.length ≤ 4000000)
    (hK : ∀ v w', w'.ownsRow P.heap.size 34 2 v (l1 ++ l2).length (gcells (l1 ++ l2)) → Below P.heap.size P w' → (∀ g e xs, Blk W g e xs → v1.ownBlock ≠ some g → Blk w' g e xs) → K (a.put o.dst v) w') : if Region.wanted o (yielded ops a.tmps) = true then Oper.wp Tryd.prog o a W K Q else E := by
  refine step_append_grants hg s x hop v1 v2 hs hx P.heap.size l1 l2 h1 h2 hP.size hl (fun v w' ho hgr _ => hK v w' ho ?_ (fun g e xs hb hne => ?_))
  · exact hP.trans ((Only.ofGrown (S := fun b => P.heap.size ≤ b) hgr (fun k e => own_blk_ge h1 e)).below hP.size (fun k hk e => by omega))
  · exact hb.only (Only.ofGrown (S := fun b => v1.ownBlock = some b) hgr (fun k e => e)) hne
theorem blk_newG (w : World) (x : Int × Int) : Blk (w.alloc (.cells #[.int .i64 x.1, .int .i64 x.2] 34)) w.heap.size 34 [.int .i64 x.1, .int .i64 x.2] := heap_alloc_new w _
theorem blk_newE (w : World) : Blk (w.alloc (.cells #[] 34)) w.heap.size 34 [] := heap_alloc_new w _
theorem own_E {W : World} {g b : Nat} (h : Blk W g 34 []) (hb : b ≤ g) : W.ownsRow b 34 2 (.slice (some ⟨g, 0, none⟩) 0 0) ([] : List (Int × Int)).length (gcells []) := own_none h hb

set_option maxHeartbeats 4000000 in
theorem lask_yes (v1 v2 : Value) (l1 l2 : List (Int × Int)) (id mm : Int) (w : World) (h1 : GRead w v1 l1) (h2 : GRead w v2 l2) (h0 : l2 = []) (hm : mayB l1 mm = true) (hl : l1.length ≤ 1000000) :
    Calls Tryd.prog 26 #[.agg #[v1, v2], .int .i64 id, .int .i64 mm] w fun e w' => ∃ v', e = .returned (.tuple #[.agg #[v', v2], .bool true]) ∧ w'.ownsRow w.heap.size 34 2 v' (l1 ++ [(id, mm)]).length (gcells (l1 ++ [(id, mm)])) ∧ Below w.heap.size w w' := by
  subst h0
  have HG := Lib.hid (And.intro h1 h2)
  obtain ⟨_, a2, c2, rfl, _⟩ := h2
  obtain ⟨_, a1, c1, rfl, _⟩ := h1
  have HM := Lib.hid hm
  clear hm
  go_enter Tryd.func26, Tryd.ntmps26
  go_wp2_with fail
  obtain ⟨W, hW⟩ : ∃ W, W = (((w.alloc (.cells #[.slice a1 l1.length c1, .slice a2 0 c2] 39)).alloc (.cells #[.slice none 0 0, .slice none 0 0] 39)).alloc (.cells #[.int .i64 id, .int .i64 mm] 34)) := ⟨_, rfl⟩
  have hbW : Below w.heap.size w W := by rw [hW]; exact b_alloc (b_alloc (b_alloc (Below.refl _ _) _) _) _
  have B0 : Blk W w.heap.size 39 [.slice a1 l1.length c1, .slice a2 0 c2] := by rw [hW]; exact ((show Blk _ _ _ _ from heap_alloc_new w _).alloc _).alloc _
  have B1 : Blk W (w.heap.size + 1) 39 [.slice none 0 0, .slice none 0 0] := by
    rw [hW]
    have h := (show Blk _ _ _ _ from heap_alloc_new (w.alloc (.cells #[.slice a1 l1.length c1, .slice a2 0 c2] 39)) (.cells #[.slice none 0 0, .slice none 0 0] 39 (0, 0))).alloc (.cells #[.int .i64 id, .int .i64 mm] 34)
    simpa using h
  have B2 : Blk W (w.heap.size + 1 + 1) 34 [.int .i64 id, .int .i64 mm] := by
    rw [hW]
    have h := blk_newG ((w.alloc (.cells #[.slice a1 l1.length c1, .slice a2 0 c2] 39)).alloc (.cells #[.slice none 0 0, .slice none 0 0] 39)) (id, mm)
    simpa using h
  rw [← hW]
  refine (lmay_any _ _ l1 mm W (HG.out.1.below hbW)).mono ?_
  rintro e P ⟨rfl, hb4⟩
  rw [HM.out]
  have HB := Lib.hid (And.intro (hbW.trans (hb4.mono hbW.size)) (And.intro (B0.below hb4) (And.intro (B1.below hb4) (B2.below hb4))))
  clear hW hbW hb4 B0 B1 B2
  have c0 : P.cell? ⟨w.heap.size, 0, none⟩ = some (.slice a1 l1.length c1) := HB.out.2.1.cell 0
  have g0 : P.cell? ⟨w.heap.size + 1 + 1, 0, none⟩ = some (.int .i64 id) := HB.out.2.2.2.cell 0
  have g1 : P.cell? ⟨w.heap.size + 1 + 1, 1, none⟩ = some (.int .i64 mm) := HB.out.2.2.2.cell 1
  have c0a : ∀ o, (P.alloc o).cell? ⟨w.heap.size, 0, none⟩ = some (.slice a1 l1.length c1) := fun o => (HB.out.2.1.alloc o).cell 0
  have g0a : ∀ o, (P.alloc o).cell? ⟨w.heap.size + 1 + 1, 0, none⟩ = some (.int .i64 id) := fun o => (HB.out.2.2.2.alloc o).cell 0
  have g1a : ∀ o, (P.alloc o).cell? ⟨w.heap.size + 1 + 1, 1, none⟩ = some (.int .i64 mm) := fun o => (HB.out.2.2.2.alloc o).cell 1
  have c0b : ∀ o o2, ((P.alloc o).alloc o2).cell? ⟨w.heap.size, 0, none⟩ = some (.slice a1 l1.length c1) := fun o o2 => ((HB.out.2.1.alloc o).alloc o2).cell 0
  have hR1 := Lib.hid (fun (X : World) (h : Below P.heap.size P X) => (HG.out.1.below HB.out.1).below h)
  have hlP := HB.out.2.2.2.lt
  go_wp2
  go_cut [27] from 21 to 28 (fun s wx => Blk wx w.heap.size 39 [s, .slice a2 0 c2] ∧ Blk wx (w.heap.size + 1) 39 [.slice none 0 0, .slice none 0 0] ∧ wx.ownsRow P.heap.size 34 2 s (l1 ++ [(id, mm)]).length (gcells (l1 ++ [(id, mm)])) ∧ Below w.heap.size w wx)
  case first =>
    have hE2 : Blk ((P.alloc (.cells #[.int .i64 id, .int .i64 mm] 34)).alloc (.cells #[] 34)) (P.heap.size + 1) 34 [] := by
      have h := blk_newE (P.alloc (.cells #[.int .i64 id, .int .i64 mm] 34)); simpa using h
    have hG2 : Blk ((P.alloc (.cells #[.int .i64 id, .int .i64 mm] 34)).alloc (.cells #[] 34)) P.heap.size 34 [.int .i64 id, .int .i64 mm] := (blk_newG P (id, mm)).alloc _
    have hE1 : Blk ((P.alloc (.cells #[] 34)).alloc (.cells #[.int .i64 id, .int .i64 mm] 34)) P.heap.size 34 [] := (blk_newE P).alloc _
    have hG1 : Blk ((P.alloc (.cells #[] 34)).alloc (.cells #[.int .i64 id, .int .i64 mm] 34)) (P.heap.size + 1) 34 [.int .i64 id, .int .i64 mm] := by
      have h := blk_newG (P.alloc (.cells #[] 34)) (id, mm); simpa using h
    have HE := Lib.hid (And.intro hE1 (And.intro hG1 (And.intro hE2 hG2)))
    clear hE2 hG2 hE1 hG1
    go_region_law (first
      | (refine step_append_G P rfl (.tmp 21) (.tmp 23) rfl (.slice (some ⟨P.heap.size, 0, none⟩) 0 0) (.slice a1 l1.length c1) rfl rfl [] l1 (by repeat (first | exact Below.refl _ _ | apply b_drew | apply b_alloc)) (own_E (by first | exact blk_newE P | exact HE.out.1) (Nat.le_refl _)) (hR1.out _ (by repeat (first | exact Below.refl _ _ | apply b_drew | apply b_alloc))) (by simp; omega) ?_; intro v5 w5 ho5 hb5 hk5; have k0 : w5.cell? ⟨w.heap.size, 0, none⟩ = some (.slice a1 l1.length c1) := bcell hb5 c0; have k1 : w5.cell? ⟨w.heap.size + 1 + 1, 0, none⟩ = some (.int .i64 id) := bcell hb5 g0; have k2 : w5.cell? ⟨w.heap.size + 1 + 1, 1, none⟩ = some (.int .i64 mm) := bcell hb5 g1; (first | (have q5 : Blk w5 (P.heap.size + 1) 34 [.int .i64 id, .int .i64 mm] := hk5 _ _ _ HE.out.2.1 (by simp [Value.ownBlock])) | skip))
      | (refine step_append_G P rfl (.tmp 21) (.tmp 23) rfl (.slice (some ⟨P.heap.size + 1, 0, none⟩) 0 0) (.slice a1 l1.length c1) rfl rfl [] l1 (by repeat (first | exact Below.refl _ _ | apply b_drew | apply b_alloc)) (own_E (by exact HE.out.2.2.1) (Nat.le_succ _)) (hR1.out _ (by repeat (first | exact Below.refl _ _ | apply b_drew | apply b_alloc))) (by simp; omega) ?_; intro v5 w5 ho5 hb5 hk5; have k0 : w5.cell? ⟨w.heap.size, 0, none⟩ = some (.slice a1 l1.length c1) := bcell hb5 c0; have q6 : Blk w5 P.heap.size 34 [.int .i64 id, .int .i64 mm] := hk5 _ _ _ HE.out.2.2.2 (by simp [Value.ownBlock]))
      | (refine step_append_G P rfl (.tmp 24) (.tmp 26) rfl v5 (.slice (some ⟨w5.heap.size, 0, none⟩) 1 1) rfl rfl l1 [(id, mm)] (by repeat (first | exact hb5 | apply b_drew | apply b_alloc)) (by first | exact ho5 | exact ho5.alloc _ | exact (ho5.alloc _).drew) (by exact gread_blk (blk_newG w5 (id, mm))) (by simp; omega) ?_; intro v6 w6 ho6 hb6 hk6; have z0 : w6.cell? ⟨w.heap.size, 0, none⟩ = some (.slice a1 l1.length c1) := bcell hb6 c0; have z1 : w6.frozen? ⟨w.heap.size, 0, none⟩ = false := (HB.out.2.1.below hb6).frozen 0; obtain ⟨a6, m6, c6, rfl⟩ := ownsRow_slice ho6)
      | (refine step_append_G P rfl (.tmp 24) (.tmp 26) rfl v5 (.slice (some ⟨P.heap.size + 1, 0, none⟩) 1 1) rfl rfl l1 [(id, mm)] (by repeat (first | exact hb5 | apply b_drew | apply b_alloc)) (by first | exact ho5 | exact ho5.alloc _ | exact (ho5.alloc _).drew) (by exact gread_blk (x := (id, mm)) q5) (by simp; omega) ?_; intro v6 w6 ho6 hb6 hk6; have z0 : w6.cell? ⟨w.heap.size, 0, none⟩ = some (.slice a1 l1.length c1) := bcell hb6 c0; have z1 : w6.frozen? ⟨w.heap.size, 0, none⟩ = false := (HB.out.2.1.below hb6).frozen 0; obtain ⟨a6, m6, c6, rfl⟩ := ownsRow_slice ho6)
      | (refine step_append_G P rfl (.tmp 24) (.tmp 26) rfl v5 (.slice (some ⟨P.heap.size, 0, none⟩) 1 1) rfl rfl l1 [(id, mm)] (by repeat (first | exact hb5 | apply b_drew | apply b_alloc)) (by first | exact ho5 | exact ho5.alloc _ | exact (ho5.alloc _).drew) (by exact gread_blk (x := (id, mm)) q6) (by simp; omega) ?_; intro v6 w6 ho6 hb6 hk6; have z0 : w6.cell? ⟨w.heap.size, 0, none⟩ = some (.slice a1 l1.length c1) := bcell hb6 c0; have z1 : w6.frozen? ⟨w.heap.size, 0, none⟩ = false := (HB.out.2.1.below hb6).frozen 0; obtain ⟨a6, m6, c6, rfl⟩ := ownsRow_slice ho6))
    all_goals
      have hset : Only (fun b => b = w.heap.size) w6 (w6.setCell ⟨w.heap.size, 0, none⟩ (.slice a6 m6 c6)) := Only.set1 _ _ _ _
      have hfin := Lib.hid (And.intro ((HB.out.2.1.below hb6).set 0 (.slice a6 m6 c6)) (And.intro ((HB.out.2.2.1.below hb6).only hset (by omega)) (And.intro (own_only ho6 hset (fun g e h => by have := own_blk_ge ho6 e; omega)) (HB.out.1.trans ((hb6.mono HB.out.1.size).trans (hset.below (by have := hb6.size; omega) (fun k hk e => by omega)))))))
      clear hset ho6 z0 z1 hb6
      go_wp2
      go_meet
      exact hfin.out
  case rest =>
    obtain ⟨b0, b1, ho, hb⟩ := hcut
    obtain ⟨a7, m7, c7, rfl⟩ := ownsRow_slice ho
    have x0 : wc.cell? ⟨w.heap.size, 0, none⟩ = some (.slice a7 m7 c7) := b0.cell 0
    have x1 : wc.cell? ⟨w.heap.size, 1, none⟩ = some (.slice a2 0 c2) := b0.cell 1
    have x2 : wc.cell? ⟨w.heap.size + 1, 0, none⟩ = some (.slice none 0 0) := b1.cell 0
    have x3 : wc.cell? ⟨w.heap.size + 1, 1, none⟩ = some (.slice none 0 0) := b1.cell 1
    have x4 := b1.frozen 0
    have x5 := b1.frozen 1
    have hset : Only (fun b => b = w.heap.size + 1) wc ((wc.setCell ⟨w.heap.size + 1, 0, none⟩ (.slice a7 m7 c7)).setCell ⟨w.heap.size + 1, 1, none⟩ (.slice a2 0 c2)) := (Only.set1 wc (w.heap.size + 1) 0 _).trans (Only.set1 _ _ _ _)
    have hfin := own_only ho hset (fun g e h => by have := own_blk_ge ho e; omega)
    have hbel : Below w.heap.size w ((wc.setCell ⟨w.heap.size + 1, 0, none⟩ (.slice a7 m7 c7)).setCell ⟨w.heap.size + 1, 1, none⟩ (.slice a2 0 c2)) := hb.trans (hset.below hb.size (fun k hk e => by omega))
    have HC := Lib.hid (And.intro (own_le hfin HB.out.1.size) hbel)
    clear b0 b1 ho hb c0 g0 g1 c0a g0a g1a c0b hset hfin hbel
    go_wp2
    (try simp only [Exit.inBlock, Exit.then])
    refine bodyPost_ret (v := .tuple #[.agg #[.slice a7 m7 c7, .slice a2 0 c2], .bool true]) ?_ rfl ⟨_, rfl, HC.out⟩
    rw [results_cell_tmp rfl]
    go_simp
end Go.Proofs.YteghcgiclpbkdaaDoor
