/- Queue.Free. -/
import Derived.Test.YteghcgiclpbkdaaDoorQueB
namespace Go.Proofs.YteghcgiclpbkdaaDoor
open Go.RowKit

theorem qrep_new_held {S : Nat → Prop} {w w4 : World} {q : Nat} {hv wv v2 : Value} {h2 l : List (Int × Int)} (h1 : S q) (hB : Blk w q 91 [hv, wv]) (h4 : w.ownsRow 0 34 2 wv l.length (gcells l))
    (h5 : ∀ g, hv.ownBlock = some g → S g ∧ g ≠ q ∧ wv.ownBlock ≠ some g) (h6 : ∀ g, wv.ownBlock = some g → S g ∧ g ≠ q) (ho : Only (fun b => hv.ownBlock = some b) w w4)
    (hown : w4.ownsRow 0 34 2 v2 h2.length (gcells h2)) (hb : v2.ownBlock = hv.ownBlock) :
    QRep S (w4.setCell ⟨q, 0, none⟩ v2) q h2 l ∧ Only S w (w4.setCell ⟨q, 0, none⟩ v2) := by
  have hB4 := hB.only ho (fun e => (h5 q e).2.1 rfl)
  have ho2 : Only (fun b => b = q) w4 (w4.setCell ⟨q, 0, none⟩ v2) := Only.set1 _ _ _ _
  refine ⟨⟨v2, wv, h1, hB4.set 0 _, own_only hown ho2 (fun g e => (h5 g (hb ▸ e)).2.1), own_only (own_only h4 ho (fun g e e2 => (h5 g e2).2.2 e)) ho2 (fun g e => (h6 g e).2), fun g e => h5 g (hb ▸ e), h6⟩, (ho.mono (fun b _ e => (h5 b e).1)).trans' ho2 (fun i _ e => e ▸ h1)⟩
theorem qrep_new_wait {S : Nat → Prop} {w w4 : World} {q : Nat} {hv wv v2 : Value} {h l2 : List (Int × Int)} (h1 : S q) (hB : Blk w q 91 [hv, wv]) (h3 : w.ownsRow 0 34 2 hv h.length (gcells h))
    (h5 : ∀ g, hv.ownBlock = some g → S g ∧ g ≠ q ∧ wv.ownBlock ≠ some g) (h6 : ∀ g, wv.ownBlock = some g → S g ∧ g ≠ q) (ho : Only (fun b => wv.ownBlock = some b) w w4)
    (hown : w4.ownsRow 0 34 2 v2 l2.length (gcells l2)) (hb : v2.ownBlock = wv.ownBlock) :
    QRep S (w4.setCell ⟨q, 1, none⟩ v2) q h l2 ∧ Only S w (w4.setCell ⟨q, 1, none⟩ v2) := by
  have hB4 := hB.only ho (fun e => (h6 q e).2 rfl)
  have ho2 : Only (fun b => b = q) w4 (w4.setCell ⟨q, 1, none⟩ v2) := Only.set1 _ _ _ _
  refine ⟨⟨hv, v2, h1, hB4.set 1 _, own_only (own_only h3 ho (fun g e e2 => (h5 g e).2.2 e2)) ho2 (fun g e => (h5 g e).2.1), own_only hown ho2 (fun g e => (h6 g (hb ▸ e)).2), fun g e => ⟨(h5 g e).1, (h5 g e).2.1, hb ▸ (h5 g e).2.2⟩, fun g e => h6 g (hb ▸ e)⟩, (ho.mono (fun b _ e => (h6 b e).1)).trans' ho2 (fun i _ e => e ▸ h1)⟩

theorem promote_len (l : List (Int × Int)) : ∀ h, (promote h l).1.length + (promote h l).2.1.length = h.length + l.length ∧ (promote h l).2.2.length ≤ l.length := by
  induction l with
  | nil => intro h; simp [promote]
  | cons g l ih =>
    intro h
    unfold promote
    split
    · have := ih (h ++ [g]); simp at this ⊢; omega
    · simp
def i64s (o : List Int) : List Value := o.map fun x => .int .i64 x

theorem infoI64 : (Tryd.prog.info? 2).map (fun i => (i.zero, i.size, i.bytes)) = some (some (.int .i64 0), 1, 8) := by kernel_rfl

section
variable {S : Nat → Prop} {w : World} {q : Nat} {h l : List (Int × Int)}
/-- What the loop of Free holds at its head. -/
structure FreeAt (S : Nat → Prop) (w : World) (q : Nat) (hA lA : List (Int × Int)) (ov : Value) (wr : World) (h l : List (Int × Int)) (o : List Int) : Prop where
  rep : QRep (fun b => S b ∨ (w.heap.size ≤ b ∧ ov.ownBlock ≠ some b)) wr q h l
  out : wr.ownsRow w.heap.size 2 1 ov o.length (i64s o)
  only : Only S w wr
  prom : (promote h l).1 = (promote hA lA).1 ∧ (promote h l).2.1 = (promote hA lA).2.1 ∧ o ++ (promote h l).2.2 = (promote hA lA).2.2
  len : h.length + l.length = hA.length + lA.length ∧ o.length + l.length = lA.length
  nin : ∀ g, ov.ownBlock = some g → ¬ S g

theorem free_end {id : Int} {ov : Value} {wr : World} {h1 l1 : List (Int × Int)} {o : List Int}
    (hr : QRep (fun b => S b ∨ (w.heap.size ≤ b ∧ ov.ownBlock ≠ some b)) wr q h1 l1)
    (ho : wr.ownsRow w.heap.size 2 1 ov o.length (i64s o) ∧ Only S w wr ∧ ((promote h1 l1).1 = (promote (stay id h) (stay id l)).1 ∧ (promote h1 l1).2.1 = (promote (stay id h) (stay id l)).2.1 ∧ o ++ (promote h1 l1).2.2 = (promote (stay id h) (stay id l)).2.2) ∧ (∀ g, ov.ownBlock = some g → ¬ S g))
    (hend : ∀ g l', l1 = g :: l' → mayB h1 g.2 = false) :
    ∃ v, Ending.returned ov = .returned v ∧ wr.ownsRow w.heap.size 2 1 v (freeQ h l id).2.2.length (i64s (freeQ h l id).2.2) ∧
      QRep (fun b => S b ∨ (w.heap.size ≤ b ∧ v.ownBlock ≠ some b)) wr q (freeQ h l id).1 (freeQ h l id).2.1 ∧ Only S w wr := by
  have hp : promote h1 l1 = (h1, l1, []) := by
    cases l1 with
    | nil => rfl
    | cons g l' => simp [promote, hend g l' rfl]
  obtain ⟨h2, h3, ⟨p1, p2, p3⟩, h5⟩ := ho
  rw [hp] at p1 p2 p3
  simp only [List.append_nil] at p1 p2 p3
  unfold freeQ
  rw [← p1, ← p2, ← p3]
  exact ⟨ov, rfl, h2, hr, h3⟩

/-- The append to what is told leaves the queue alone. -/
theorem free_out {ov u6 : Value} {wr wa wb : World} {o : Obj} {h1 l1 : List (Int × Int)} {n n2 : Nat} {xs ys : List Value} {e : TypeId}
    (hq : QRep (fun b => S b ∨ (w.heap.size ≤ b ∧ u6.ownBlock ≠ some b)) wr q h1 l1) (hba : Below wr.heap.size wr wa) (hu : wa.ownsRow w.heap.size e 1 u6 n xs) (hov : wb.ownsRow w.heap.size e 1 ov n2 ys)
    (hg : (wa.alloc o).grownBy wb u6.ownBlock) (hat : ov.ownBlock = u6.ownBlock ∨ ov.ownBlock = some (wa.heap.size + 1)) (nin : ∀ g, u6.ownBlock = some g → ¬ S g) (hS : ∀ b, S b → b < w.heap.size) (ho : Only S w wr) :
    QRep (fun b => S b ∨ (w.heap.size ≤ b ∧ ov.ownBlock ≠ some b)) wb q h1 l1 ∧ Only S w wb ∧ (∀ g, ov.ownBlock = some g → ¬ S g) ∧ w.heap.size ≤ wb.heap.size := by
  have hsw : w.heap.size ≤ wa.heap.size := Nat.le_trans ho.size hba.size
  have hq2 : QRep (fun b => (S b ∨ (w.heap.size ≤ b ∧ u6.ownBlock ≠ some b)) ∧ b < wa.heap.size) (wa.alloc o) q h1 l1 :=
    ((hq.below hba).mono (T := fun b => (S b ∨ (w.heap.size ≤ b ∧ u6.ownBlock ≠ some b)) ∧ b < wa.heap.size) (fun b hb h => ⟨h, hb⟩)).below ((Below.refl _ _).alloc (Nat.le_refl _) _)
  have hog : Only (fun b => u6.ownBlock = some b) (wa.alloc o) wb := Only.ofGrown hg (fun k hk => hk)
  have hq3 := hq2.only hog (fun b hb e => by
    rcases hb.1 with h | h
    · exact nin b e h
    · exact h.2 e)
  have hlt := hov.lt
  have hsz : w.heap.size ≤ wb.heap.size := by have := hog.size; simp at this; omega
  refine ⟨hq3.mono (fun b hb h => ?_), ?_, fun g e hs => ?_, hsz⟩
  · rcases h.1 with h2 | h2
    · exact .inl h2
    · refine .inr ⟨h2.1, fun e => ?_⟩
      rcases hat with h3 | h3
      · exact h2.2 (h3 ▸ e)
      · rw [h3] at e; have := h.2; injection e with e; omega
  · exact ((ho.trans (Only.ofBelow hba S)).trans (Only.alloc S wa o)).trans' hog (fun i hi e => by have := (hu.lt i e).1; omega)
  · have h1 := hS g hs
    have h2 := (hlt g e).1
    omega

set_option maxHeartbeats 2000000 in
theorem free_any (id : Int) (hq : QRep S w q h l) (hlen : h.length + l.length ≤ 1048576) (hS : ∀ b, S b → b < w.heap.size) :
    Calls Tryd.prog 22 #[.pointer (some ⟨q, 0, none⟩), .int .i64 id] w fun e w' => ∃ v, e = .returned v ∧ w'.ownsRow w.heap.size 2 1 v (freeQ h l id).2.2.length (i64s (freeQ h l id).2.2) ∧
      QRep (fun b => S b ∨ (w.heap.size ≤ b ∧ v.ownBlock ≠ some b)) w' q (freeQ h l id).1 (freeQ h l id).2.1 ∧ Only S w w' := by
  have hmf : ∀ (fn : Fn) (first cap : Array Value) (w : World), (Instr.makeFunc fn first cap).run Tryd.prog w = .ok (.func fn first cap) w := fun _ _ _ _ => rfl
  have hb0 : Below w.heap.size w (w.alloc (.cells #[.int .i64 id] 2)) := (Below.refl _ _).alloc (Nat.le_refl _) _
  have hqa := hq.below hb0
  obtain ⟨hv, wv, h1, h2, h3, h4, h5, h6⟩ := hqa
  have c0 : (w.alloc (.cells #[.int .i64 id] 2)).cell? ⟨q, 0, none⟩ = some hv := h2.cell 0
  have hlt : ∀ g, hv.ownBlock = some g → g ≠ w.heap.size := fun g e => Nat.ne_of_lt (hS g (h5 g e).1)
  have ha : Asks (fun b => hv.ownBlock = some b) (w.alloc (.cells #[.int .i64 id] 2)) _ _ := asks_free (fun b => hv.ownBlock = some b) w.heap.size id (fun h => hlt _ h rfl) (by simp)
  have HA := Lib.hid ha
  have HP := Lib.hid (And.intro h1 (And.intro h2 (And.intro h3 (And.intro h4 (And.intro h5 h6)))))
  clear h1 h2 h3 h4 h5 h6 ha hlt
  go_enter Tryd.func22, Tryd.ntmps22
  go_wp2_with fail
  refine (deleteFunc_any hv _ h _ _ HP.out.2.2.1 HA.out).mono ?_
  rintro e w2 ⟨v2, rfl, hown2, hvb, ho2⟩
  obtain ⟨s1, s2, s3, rfl⟩ := ownsRow_slice hown2
  have hB2 := HP.out.2.1.only ho2 (fun e => (HP.out.2.2.2.2.1 q e).2.1 rfl)
  have k0 : w2.cell? ⟨q, 0, none⟩ = some hv := hB2.cell 0
  have k1 := hB2.frozen 0
  obtain ⟨hq3, ho3⟩ := qrep_new_held (h2 := stay id h) HP.out.1 HP.out.2.1 HP.out.2.2.2.1 HP.out.2.2.2.2.1 HP.out.2.2.2.2.2 ho2 hown2 hvb
  have n0 : (w2.setCell ⟨q, 0, none⟩ (.slice s1 s2 s3)).cell? ⟨w.heap.size, 0, none⟩ = some (.int .i64 id) := ho3.cell (p := ⟨w.heap.size, 0, none⟩) (fun e => Nat.lt_irrefl _ (hS _ e)) (by simp)
  have HQ3 := Lib.hid hq3
  have HO3 := Lib.hid ho3
  have HN0 := Lib.hid n0
  obtain ⟨hv3, wv3, a1, a2, a3, a4, a5, a6⟩ := hq3
  have c1 : (w2.setCell ⟨q, 0, none⟩ (.slice s1 s2 s3)).cell? ⟨q, 1, none⟩ = some wv3 := a2.cell 1
  have hlt : ∀ g, wv3.ownBlock = some g → g ≠ w.heap.size := fun g e => Nat.ne_of_lt (hS g (a6 g e).1)
  have ha : Asks (fun b => wv3.ownBlock = some b) (w2.setCell ⟨q, 0, none⟩ (.slice s1 s2 s3)) _ _ := asks_free (fun b => wv3.ownBlock = some b) w.heap.size id (fun h => hlt _ h rfl) n0
  have HA3 := Lib.hid ha
  have HP3 := Lib.hid (And.intro a1 (And.intro a2 (And.intro a3 (And.intro a4 (And.intro a5 a6)))))
  clear a1 a2 a3 a4 a5 a6 ha hlt HP HA hown2 hvb ho2 hB2 ho3 n0 c0
  go_wp2_with fail
  refine (deleteFunc_any wv3 _ l _ _ HP3.out.2.2.2.1 HA3.out).mono ?_
  rintro e w4 ⟨v4, rfl, hown4, hvb, ho4⟩
  obtain ⟨t1, t2, t3, rfl⟩ := ownsRow_slice hown4
  have hB4 := HP3.out.2.1.only ho4 (fun e => (HP3.out.2.2.2.2.2 q e).2 rfl)
  have k2 : w4.cell? ⟨q, 1, none⟩ = some wv3 := hB4.cell 1
  have k3 := hB4.frozen 1
  obtain ⟨hq5, ho5⟩ := qrep_new_wait (l2 := stay id l) HP3.out.1 HP3.out.2.1 HP3.out.2.2.1 HP3.out.2.2.2.2.1 HP3.out.2.2.2.2.2 ho4 hown4 hvb
  have HQ5 := Lib.hid hq5
  have HO5 := Lib.hid (((Only.alloc S w _).trans HO3.out).trans ho5)
  clear hq5 ho5 hB4 HP3 HA3 hown4 hvb ho4 c1 HQ3 HO3 HN0 k0 k1 hq hb0
  go_wp2
  go_loopg [6] l.length (fun k ov wr => ∃ (h1 l1 : List (Int × Int)) (o : List Int), FreeAt S w q (stay id h) (stay id l) ov wr h1 l1 o ∧ l1.length ≤ k)
  case atStart =>
    refine ⟨stay id h, stay id l, [], ⟨HQ5.out.mono (fun b _ hb => .inl hb), ⟨rfl, .inl ⟨rfl, rfl⟩⟩, HO5.out, by simp, by simp, by simp [Value.ownBlock]⟩, List.length_filter_le _ _⟩
  case round =>
    obtain ⟨h1, l1, o, hF, hk⟩ := hrel
    clear k2 k3 HQ5 HO5
    obtain ⟨rep, out, only, prom, len, nin⟩ := hF
    have HQr := Lib.hid rep
    obtain ⟨hv, wv, a1, a2, a3, a4, a5, a6⟩ := rep
    have HR := Lib.hid (And.intro a1 (And.intro a2 (And.intro a3 (And.intro a4 (And.intro a5 a6)))))
    have HO := Lib.hid (And.intro out (And.intro only (And.intro prom nin)))
    have HL := Lib.hid len
    have c1 : wr.cell? ⟨q, 1, none⟩ = some wv := a2.cell 1
    clear out only prom nin a1 a2 a3 a5 a6
    cases l1 with
    | nil =>
      obtain ⟨aw, capw, rfl⟩ : ∃ aw capw, wv = .slice aw 0 capw := by
        rcases ownsRow_cases a4 with ⟨rfl, _⟩ | ⟨g, cap, rfl⟩
        · exact ⟨_, _, rfl⟩
        · exact ⟨_, _, rfl⟩
      clear a4 len
      go_wp2
      go_ret
      exact free_end HQr.out HO.out (fun g l' e => by cases e)
    | cons g0 l' =>
      obtain ⟨gw, capw, rfl⟩ : ∃ gw capw, wv = .slice (some ⟨gw, 0, none⟩) (l'.length + 1) capw := by
        rcases ownsRow_cases a4 with ⟨_, h0, _⟩ | h
        · simp at h0
        · exact h
      obtain ⟨rest, hBw, _, _, hcw, hcm⟩ := blk_of_ownsRow a4
      have w0 : wr.cell? ⟨gw, 0, none⟩ = some (.int .i64 g0.1) := hBw.cell 0
      have w1 : wr.cell? ⟨gw, 1, none⟩ = some (.int .i64 g0.2) := hBw.cell 1
      have hpos : (0 : Int) < (l'.length : Int) + 1 := by omega
      have HBw := Lib.hid hBw
      simp only [List.length_cons] at len hk hcw
      clear a4 hBw
      go_wp2_with fail
      refine (may_any g0.2 HQr.out).mono ?_
      rintro e wa ⟨rfl, hba⟩
      cases hmb : mayB h1 g0.2 with
      | false =>
        have HM := Lib.hid hmb
        have HBA := Lib.hid hba
        clear hmb w0 w1 hba
        go_wp2
        go_ret
        exact free_end (HQr.out.below HBA.out) ⟨own_below HO.out.1 HBA.out, HO.out.2.1.trans (Only.ofBelow HBA.out S), HO.out.2.2⟩ (fun g l'' e => by injection e with e1 e2; subst e1; exact HM.out)
      | true =>
        have HM := Lib.hid hmb
        clear hmb
        have c1a := bcell hba c1
        have w0a := bcell hba w0
        have hoa := own_below HO.out.1 hba
        obtain ⟨i1, hi1, hy0, hy1, hy2⟩ := info_parts infoI64
        have HI := Lib.hid (And.intro hi1 (And.intro hy0 (And.intro hy1 hy2)))
        have HA := Lib.hid (And.intro hoa hba)
        have hsw : w.heap.size ≤ wa.heap.size := Nat.le_trans HO.out.2.1.size hba.size
        have hol : o.length ≤ 1048576 := by have := List.length_filter_le (fun g : Int × Int => !(g.1 == id)) l; unfold stay at len; omega
        have hhl : h1.length ≤ 1048576 := by have := List.length_filter_le (fun g : Int × Int => !(g.1 == id)) l; have := List.length_filter_le (fun g : Int × Int => !(g.1 == id)) h; unfold stay at len; omega
        clear c1 w0 w1 hoa hba hi1 hy0 hy1 hy2
        go_wp2_with (at_builtin; refine wpList_append_own_at _ rfl (.tmp 43) (.tmp 51) 44 rfl w.heap.size 2 i1 (.int .i64 0) 1 8 Tryd.underlying44 HI.out.1 HI.out.2.1 HI.out.2.2.1 HI.out.2.2.2 rfl (by decide) u6 o.length (i64s o) rfl (HA.out.1.alloc _) ⟨wa.heap.size, 0, none⟩ 1 1 [.int .i64 g0.1] rfl rfl (cell_one_new _ _ _) (by simp [Value.oneCell']) (by unfold maxLen; omega) (by omega) (by simp; omega) ?_)
        intro ov wb hownb hgrowb _ hatb
        obtain ⟨hqb, hob, ninb, hswb⟩ := free_out HQr.out HA.out.2 HA.out.1 hownb hgrowb hatb HO.out.2.2.2 hS HO.out.2.1
        have HQb := Lib.hid hqb
        have HOb := Lib.hid (And.intro hownb (And.intro hob ninb))
        obtain ⟨hvb, wvb, b1, b2, b3, b4, b5, b6⟩ := hqb
        obtain ⟨gv, capv, rfl⟩ : ∃ gw capw, wvb = .slice (some ⟨gw, 0, none⟩) (l'.length + 1) capw := by
          rcases ownsRow_cases b4 with ⟨_, h0, _⟩ | h
          · simp at h0
          · exact h
        obtain ⟨restb, hBwb, _, _, hcvb, hcmb⟩ := blk_of_ownsRow b4
        have x0 : wb.cell? ⟨gv, 0, none⟩ = some (.int .i64 g0.1) := hBwb.cell 0
        have x1 : wb.cell? ⟨gv, 1, none⟩ = some (.int .i64 g0.2) := hBwb.cell 1
        have y0 : wb.cell? ⟨q, 0, none⟩ = some hvb := b2.cell 0
        have y1 : wb.cell? ⟨q, 1, none⟩ = some (.slice (some ⟨gv, 0, none⟩) (l'.length + 1) capv) := b2.cell 1
        have x0a : ∀ o, (wb.alloc o).cell? ⟨gv, 0, none⟩ = some (.int .i64 g0.1) := fun o => (hBwb.alloc o).cell 0
        have x1a : ∀ o, (wb.alloc o).cell? ⟨gv, 1, none⟩ = some (.int .i64 g0.2) := fun o => (hBwb.alloc o).cell 1
        have y0a : ∀ o, (wb.alloc o).cell? ⟨q, 0, none⟩ = some hvb := fun o => (b2.alloc o).cell 0
        have y1a : ∀ o, (wb.alloc o).cell? ⟨q, 1, none⟩ = some (.slice (some ⟨gv, 0, none⟩) (l'.length + 1) capv) := fun o => (b2.alloc o).cell 1
        obtain ⟨i0, hi, hz0, hz1, hz2⟩ := info_parts infoGrant
        have H4 := Lib.hid (And.intro hi (And.intro hz0 (And.intro hz1 hz2)))
        have H6 := Lib.hid (And.intro b1 (And.intro b2 (And.intro b4 (And.intro b5 b6))))
        have H1 := Lib.hid b3
        clear c1a w0a hownb hgrowb hatb HQr HR HBw HI HA hob ninb b1 b2 b3 b4 b5 b6 hi hz0 hz1 hz2 hBwb
        go_wp2
        go_region_law (refine step_append_lies _ rfl (.tmp 57) (.tmp 64) 31 rfl 0 34 i0 (.agg #[.int .i64 0, .int .i64 0]) 2 16 Tryd.underlying31 H4.out.1 H4.out.2.1 H4.out.2.2.1 H4.out.2.2.2 rfl (by decide) hvb h1.length (gcells h1) (by simp [Act.eval]) ((H1.out.alloc _).drew) ⟨wb.heap.size, 0, none⟩ 1 1 (gcells [g0]) (by simp [Act.eval]) rfl (by exact news_new _ _ _) gcells_one (by omega) (by unfold maxLen; omega) (by omega) (by omega) _ rfl ?_; intro g cap w4 hown hgrow hat hlt; have hB4 := blk_grown H6.out.2.1 hgrow (fun e => (H6.out.2.2.2.1 q e).2.1 rfl); have k0 := hB4.cell 0; have k1 := hB4.frozen 0; simp only [List.getElem?_cons_zero] at k0)
        all_goals
          obtain ⟨hqc, hoc⟩ := qrep_push_held (N := wb.heap.size) (h2 := h1 ++ [g0]) H6.out.1 H6.out.2.1 H6.out.2.2.1 H6.out.2.2.2.1 H6.out.2.2.2.2 hgrow (by simpa [gcells_append] using hown) hat (Nat.le_refl _)
          have hqc2 := hqc.mono (T := fun b => S b ∨ (w.heap.size ≤ b ∧ ov.ownBlock ≠ some b)) (fun b _ hb => by
            rcases hb with hb | hb
            · exact hb
            · exact .inr ⟨by omega, fun e => by have := (HOb.out.1.lt b e).2; omega⟩)
          have hovc := own_only HOb.out.1 hoc (fun g e hb => by
            rcases hb with hb | hb
            · exact HOb.out.2.2 g e hb
            · exact hb.2 e)
          have hoc2 : Only S w (w4.setCell ⟨q, 0, none⟩ (.slice (some ⟨g, 0, none⟩) (h1.length + 1) cap)) := HOb.out.2.1.trans' hoc (fun i hi hb => by
            rcases hb with hb | hb
            · exact hb
            · omega)
          have HC := Lib.hid (And.intro hqc2 (And.intro hovc hoc2))
          obtain ⟨hvc, wvc, d1, d2, d3, d4, d5, d6⟩ := hqc2
          have z1 : (w4.setCell ⟨q, 0, none⟩ (.slice (some ⟨g, 0, none⟩) (h1.length + 1) cap)).cell? ⟨q, 1, none⟩ = some wvc := d2.cell 1
          generalize hWC : w4.setCell ⟨q, 0, none⟩ (.slice (some ⟨g, 0, none⟩) (h1.length + 1) cap) = wc at HC d2 d3 d4 z1 ⊢
          have HWC := Lib.hid hWC
          have HD := Lib.hid (And.intro d1 (And.intro d2 (And.intro d3 (And.intro d5 d6))))
          clear hWC hown hgrow hat hlt hB4 k0 k1 x0 x1 y0 y1 x0a x1a y0a y1a hqc hoc hovc hoc2 d1 d2 d3 d5 d6 H6 HQb
          go_wp2_with fail
          refine (delete_first wvc g0 l' _ d4).mono ?_
          rintro e wd ⟨vd, rfl, hownd, hbd, hod⟩
          obtain ⟨t1, t2, t3, rfl⟩ := ownsRow_slice hownd
          have hB5 := HD.out.2.1.only hod (fun e => (HD.out.2.2.2.2 q e).2 rfl)
          have k2 : wd.cell? ⟨q, 1, none⟩ = some wvc := hB5.cell 1
          have k3 := hB5.frozen 1
          obtain ⟨hqe, hoe⟩ := qrep_new_wait HD.out.1 HD.out.2.1 HD.out.2.2.1 HD.out.2.2.2.1 HD.out.2.2.2.2 hod hownd hbd
          have HE := Lib.hid (And.intro hqe hoe)
          clear hownd hbd hod hB5 z1 d4 hqe hoe
          go_wp2
          go_roundg l'.length
          case measure => omega
          case rel =>
            have hp1 : promote h1 (g0 :: l') = ((promote (h1 ++ [g0]) l').1, (promote (h1 ++ [g0]) l').2.1, g0.1 :: (promote (h1 ++ [g0]) l').2.2) := by
              rw [promote, if_pos HM.out]
            have hpr := HO.out.2.2.1
            rw [hp1] at hpr
            refine ⟨h1 ++ [g0], l', o ++ [g0.1], ⟨HE.out.1, ?_, HC.out.2.2.trans' HE.out.2 ?_, ⟨hpr.1, hpr.2.1, by rw [← hpr.2.2]; simp⟩, by simp; omega, HOb.out.2.2⟩, Nat.le_refl _⟩
            · have := own_only HC.out.2.1 HE.out.2 (fun g e hb => by
                rcases hb with hb | hb
                · exact HOb.out.2.2 g e hb
                · exact hb.2 e)
              simpa [i64s] using this
            · intro i hi hb
              rcases hb with hb | hb
              · exact hb
              · omega
end
end Go.Proofs.YteghcgiclpbkdaaDoor
