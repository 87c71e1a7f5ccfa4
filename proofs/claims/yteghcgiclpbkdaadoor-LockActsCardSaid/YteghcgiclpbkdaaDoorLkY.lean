/- Locks' laws: what the document says: Queue.Free. -/
import Derived.Test.YteghcgiclpbkdaaDoorLkX
namespace Go.Proofs.YteghcgiclpbkdaaDoor
open Go.RowKit

/-- What v leads to lies in no block of b's. -/
def NotIn (v : Value) (b : Nat) : Prop := ∀ a n c, v = .slice (some a) n c → a.block ≠ b
/-- The state of the law's own Free: block n holds the two slices. -/
structure MF (B n : Nat) (w : World) (hv wv uv : Value) (h l : List (Int × Int)) (o : List Int) : Prop where
  blk : Blk w n 39 [hv, wv]
  held : w.ownsRow B 34 2 hv h.length (gcells h)
  wait : GRead w wv l
  out : w.ownsRow B 2 1 uv o.length (i64s o)
  lt : ∀ a m c, wv = .slice (some a) m c → B ≤ a.block ∧ a.block < w.heap.size
  hw : ∀ g, hv.ownBlock = some g → NotIn wv g
  uw : ∀ g, uv.ownBlock = some g → NotIn wv g
  uh : ∀ g, uv.ownBlock = some g → hv.ownBlock ≠ some g
  wn : NotIn wv n
  cap : ∀ a k c, wv = .slice a k c → k ≤ c ∧ c ≤ 9223372036854775807

theorem GRead.only {S : Nat → Prop} {w w2 : World} {v : Value} {l : List (Int × Int)} (h : GRead w v l) (ho : Only S w w2) (hs : ∀ a n c, v = .slice (some a) n c → ¬ S a.block) : GRead w2 v l := by
  obtain ⟨hm, a, cap, rfl, h⟩ := h
  refine ⟨hm, a, cap, rfl, fun hl => ?_⟩
  obtain ⟨b, off, rfl, hc⟩ := h hl
  have hb := hs _ _ _ rfl
  exact ⟨b, off, rfl, fun i hi => ⟨ho.cell hb (hc i hi).1, ho.cell hb (hc i hi).2⟩⟩
theorem own_ne {w : World} {c b n size : Nat} {e e2 : TypeId} {v : Value} {xs ys : List Value} (hb : Blk w c e ys) (h : w.ownsRow b e2 size v n xs) (hne : e ≠ e2) : ∀ g, v.ownBlock = some g → g ≠ c := by
  intro g hg e3
  subst e3
  obtain ⟨_, h⟩ := h
  rcases h with ⟨h, _⟩ | ⟨g2, cap, cur, rfl, _, hc, _⟩
  · rw [h] at hg; simp [Value.ownBlock] at hg
  · simp only [Value.ownBlock, Option.some.injEq] at hg
    subst hg
    have h2 : w.heap[g2]? = _ := hb
    rw [hc] at h2
    simp only [Option.some.injEq, Obj.cells.injEq] at h2
    exact hne h2.2.1.symm
theorem own_addr_block {w : World} {b n size k c : Nat} {e : TypeId} {a : Addr} {v : Value} {xs : List Value} (h : w.ownsRow b e size v n xs) (hv : v = .slice (some a) k c) : v.ownBlock = some a.block := by
  obtain ⟨_, h⟩ := h
  rcases h with ⟨h, _⟩ | ⟨g, cap, cur, h, _⟩
  · rw [hv] at h; simp at h
  · rw [hv] at h
    simp only [Value.slice.injEq, Option.some.injEq] at h
    rw [hv, h.1, h.2.1, h.2.2]; rfl
theorem own_len {w : World} {b n size k c : Nat} {e : TypeId} {a : Option Addr} {v : Value} {xs : List Value} (h : w.ownsRow b e size v n xs) (hv : v = .slice a k c) : k = n := by
  obtain ⟨_, h⟩ := h
  rcases h with ⟨h, h0⟩ | ⟨g, cap, cur, h, _⟩
  · rw [hv] at h; simp only [Value.slice.injEq] at h; omega
  · rw [hv] at h; simp only [Value.slice.injEq] at h; omega
theorem own_cap_max {w : World} {b n size k c : Nat} {e : TypeId} {a : Option Addr} {xs : List Value} (h : w.ownsRow b e size (.slice a k c) n xs) : c ≤ 9223372036854775807 := by
  obtain ⟨_, h⟩ := h
  rcases h with ⟨h, h0⟩ | ⟨g, cap, cur, h, _, _, _, hc, _⟩
  · simp only [Value.slice.injEq] at h; omega
  · simp only [Value.slice.injEq] at h
    unfold maxLen at hc
    omega
theorem own_addr {w : World} {b n size k c : Nat} {e : TypeId} {a : Addr} {v : Value} {xs : List Value} (h : w.ownsRow b e size v n xs) (hv : v = .slice (some a) k c) : b ≤ a.block ∧ a.block < w.heap.size :=
  ⟨own_blk_ge h (own_addr_block h hv), (h.lt _ (own_addr_block h hv)).2⟩
theorem tail_read {w : World} {b off cw : Nat} {g0 : Int × Int} {l' : List (Int × Int)} (h : GRead w (.slice (some ⟨b, off, none⟩) (g0 :: l').length cw) (g0 :: l')) (hc : l'.length + 1 ≤ cw) :
    ∀ W : World, (∀ a k c, Value.slice (some ⟨b, off, none⟩) (g0 :: l').length cw = .slice (some a) k c → W.heap[a.block]? = w.heap[a.block]?) → GRead W (.slice (if cw = 1 then some ⟨b, off, none⟩ else some ⟨b, off + 2, none⟩) l'.length (cw - 1)) l' := by
  intro W hW
  have hb := hW ⟨b, off, none⟩ _ _ rfl
  obtain ⟨hm, a, c, e, h⟩ := h
  obtain ⟨b2, o2, e3, hcell⟩ := h (by simp)
  simp only [Value.slice.injEq] at e
  rw [← e.1] at e3
  simp only [Option.some.injEq, Addr.mk.injEq, and_true] at e3
  obtain ⟨rfl, rfl⟩ := e3
  simp only [List.length_cons] at hm
  refine ⟨by omega, _, _, rfl, fun hl => ⟨b, off + 2, by rw [if_neg (by omega)], fun i hi => ?_⟩⟩
  have h2 := hcell (i + 1) (by simp; omega)
  simp only [List.getElem_cons_succ] at h2
  rw [World.cell?_of_block (a := ⟨b, off + 2 + i * 2, none⟩) hb, World.cell?_of_block (a := ⟨b, off + 2 + i * 2 + 1, none⟩) hb, show off + 2 + i * 2 = off + (i + 1) * 2 by omega]
  exact h2
theorem tail_block (b off cw n : Nat) {k0 : Nat} : ∀ a k c, Value.slice (if cw = 1 then some ⟨b, off, none⟩ else some ⟨b, off + 2, none⟩) n (cw - 1) = .slice (some a) k c → ∃ a2 k2 c2, Value.slice (some ⟨b, off, none⟩) k0 cw = .slice (some a2) k2 c2 ∧ a2.block = a.block := by
  intro a k c e
  refine ⟨_, _, _, rfl, ?_⟩
  simp only [Value.slice.injEq] at e
  have e1 := e.1
  split at e1
  · rw [← Option.some.inj e1]
  · rw [← Option.some.inj e1]
section
variable {B n : Nat} {w : World} {hv wv uv : Value} {h l : List (Int × Int)} {o : List Int}
theorem MF.below {w2 : World} (m : MF B n w hv wv uv h l o) (hb : Below w.heap.size w w2) : MF B n w2 hv wv uv h l o :=
  ⟨m.blk.below hb, own_below m.held hb, m.wait.below hb, own_below m.out hb, fun a k c e => ⟨(m.lt a k c e).1, Nat.lt_of_lt_of_le (m.lt a k c e).2 hb.size⟩, m.hw, m.uw, m.uh, m.wn, m.cap⟩
theorem MF.far {S : Nat → Prop} {w2 : World} (m : MF B n w hv wv uv h l o) (ho : Only S w w2) (hd : ∀ b, S b → b < w.heap.size → b ≠ n ∧ hv.ownBlock ≠ some b ∧ uv.ownBlock ≠ some b ∧ NotIn wv b) : MF B n w2 hv wv uv h l o :=
  ⟨m.blk.only ho (fun e => (hd _ e m.blk.lt).1 rfl), own_only m.held ho (fun g e e2 => (hd _ e2 (m.held.lt g e).2).2.1 e), m.wait.only ho (fun a k c e e2 => (hd _ e2 (m.lt a k c e).2).2.2.2 a k c e rfl), own_only m.out ho (fun g e e2 => (hd _ e2 (m.out.lt g e).2).2.2.1 e),
    fun a k c e => ⟨(m.lt a k c e).1, Nat.lt_of_lt_of_le (m.lt a k c e).2 ho.size⟩, m.hw, m.uw, m.uh, m.wn, m.cap⟩
theorem MF.weak {B2 : Nat} (m : MF B n w hv wv uv h l o) (hb : B2 ≤ B) : MF B2 n w hv wv uv h l o :=
  ⟨m.blk, own_le m.held hb, m.wait, own_le m.out hb, fun a k c e => ⟨Nat.le_trans hb (m.lt a k c e).1, (m.lt a k c e).2⟩, m.hw, m.uw, m.uh, m.wn, m.cap⟩
/-- Another block of a queue's type is written. -/
theorem MF.other {w2 : World} {x : Nat} {ys : List Value} (m : MF B n w hv wv uv h l o) (hx : Blk w x 39 ys) (hxn : x ≠ n) (hxB : x < B) (ho : Only (fun b => b = x) w w2) : MF B n w2 hv wv uv h l o :=
  m.far ho (fun b e _ => by
    subst e
    exact ⟨hxn, fun e2 => own_ne hx m.held (by decide) _ e2 rfl, fun e2 => own_ne hx m.out (by decide) _ e2 rfl, fun a k c e2 e3 => by have := (m.lt a k c e2).1; omega⟩)
theorem MF.grow {w5 : World} {u5 : Value} {o5 : List Int} (m : MF B n w hv wv uv h l o) (hg : w.grownBy w5 uv.ownBlock) (h5 : w5.ownsRow B 2 1 u5 o5.length (i64s o5)) (hat : u5.ownBlock = uv.ownBlock ∨ u5.ownBlock = some w.heap.size) : MF B n w5 hv wv u5 h l o5 := by
  have ho : Only (fun b => uv.ownBlock = some b) w w5 := Only.ofGrown hg (fun k e => e)
  have hsz := ho.size
  refine ⟨m.blk.only ho (fun e => own_ne m.blk m.out (by decide) _ e rfl), own_only m.held ho (fun g e e2 => m.uh g e2 e), m.wait.only ho (fun a k c e e2 => m.uw _ e2 a k c e rfl), h5, fun a k c e => ⟨(m.lt a k c e).1, Nat.lt_of_lt_of_le (m.lt a k c e).2 hsz⟩, m.hw, fun g e => ?_, fun g e e2 => ?_, m.wn, m.cap⟩
  · rcases hat with h1 | h1
    · exact m.uw g (h1 ▸ e)
    · rw [h1] at e
      intro a k c e3 e4
      have := (m.lt a k c e3).2
      have := Option.some.inj e
      omega
  · rcases hat with h1 | h1
    · exact m.uh g (h1 ▸ e) e2
    · rw [h1] at e
      have := Option.some.inj e
      have := (m.held.lt g e2).2
      omega
theorem MF.push {w5 : World} {v5 wv5 : Value} {h5 l5 : List (Int × Int)} (m : MF B n w hv wv uv h l o) (hg : w.grownBy w5 hv.ownBlock) (hv5 : w5.ownsRow B 34 2 v5 h5.length (gcells h5)) (hat : v5.ownBlock = hv.ownBlock ∨ v5.ownBlock = some w.heap.size)
    (hw5 : ∀ W, (∀ a k c, wv = .slice (some a) k c → W.heap[a.block]? = w.heap[a.block]?) → GRead W wv5 l5) (hwa : ∀ a k c, wv5 = .slice (some a) k c → ∃ a2 k2 c2, wv = .slice (some a2) k2 c2 ∧ a2.block = a.block) (hcap : ∀ a k c, wv5 = .slice a k c → k ≤ c ∧ c ≤ 9223372036854775807) :
    MF B n ((w5.setCell ⟨n, 0, none⟩ v5).setCell ⟨n, 1, none⟩ wv5) v5 wv5 uv h5 l5 o ∧ Only (fun b => B ≤ b ∨ b = n) w ((w5.setCell ⟨n, 0, none⟩ v5).setCell ⟨n, 1, none⟩ wv5) := by
  have ho : Only (fun b => hv.ownBlock = some b) w w5 := Only.ofGrown hg (fun k e => e)
  have hsz := ho.size
  have hb5 := m.blk.only ho (fun e => own_ne m.blk m.held (by decide) _ e rfl)
  have hs1 : Only (· = n) w5 ((w5.setCell ⟨n, 0, none⟩ v5).setCell ⟨n, 1, none⟩ wv5) := (Only.set1 w5 n 0 _).trans (Only.set1 _ n 1 _)
  have hblk := (hb5.set 0 v5).set 1 wv5
  have hne5 := own_ne hb5 hv5 (by decide)
  have hout5 := own_only m.out ho (fun g e e2 => m.uh g e e2)
  have hneo := own_ne hb5 hout5 (by decide)
  refine ⟨⟨hblk, own_only hv5 hs1 hne5, hw5 _ (fun a k c e => ?_), own_only hout5 hs1 hneo, fun a k c e => ?_, fun g e => ?_, fun g e => ?_, fun g e e2 => ?_, fun a k c e e2 => ?_, hcap⟩, ?_⟩
  · have hl := (m.lt a k c e).2
    have hne : ¬ a.block = n := fun e2 => m.wn a k c e e2
    exact (hs1.block _ (Nat.lt_of_lt_of_le hl hsz) hne).trans (ho.block _ hl (fun e2 => m.hw _ e2 a k c e rfl))
  · obtain ⟨a2, k2, c2, e2, e3⟩ := hwa a k c e
    have := m.lt a2 k2 c2 e2
    have h1 := hs1.size
    rw [← e3]
    exact ⟨this.1, by omega⟩
  · intro a k c e2 e3
    obtain ⟨a2, k2, c2, e4, e5⟩ := hwa a k c e2
    rcases hat with h1 | h1
    · exact m.hw g (h1 ▸ e) a2 k2 c2 e4 (e5.trans e3)
    · rw [h1] at e
      have := Option.some.inj e
      have := (m.lt a2 k2 c2 e4).2
      omega
  · intro a k c e2 e3
    obtain ⟨a2, k2, c2, e4, e5⟩ := hwa a k c e2
    exact m.uw g e a2 k2 c2 e4 (e5.trans e3)
  · rcases hat with h1 | h1
    · exact m.uh g e (h1 ▸ e2)
    · rw [h1] at e2
      have := Option.some.inj e2
      have := (m.out.lt g e).2
      omega
  · obtain ⟨a2, k2, c2, e4, e5⟩ := hwa a k c e
    exact m.wn a2 k2 c2 e4 (e5.trans e2)
  · exact (ho.mono (fun _ _ e => .inl (own_blk_ge m.held e))).trans (hs1.mono (fun _ _ e => .inr e))
end

set_option maxRecDepth 100000 in
set_option maxHeartbeats 4000000 in
theorem lfree_any (v1 v2 : Value) (l1 l2 : List (Int × Int)) (id : Int) (w : World) (h1 : GRead w v1 l1) (h2 : GRead w v2 l2) (hl : l1.length + l2.length ≤ 100000) :
    Calls Tryd.prog 20 #[.agg #[v1, v2], .int .i64 id] w fun e w' => ∃ a b c, e = .returned (.tuple #[.agg #[a, b], c]) ∧ MF w.heap.size w.heap.size w' a b c (freeQ l1 l2 id).1 (freeQ l1 l2 id).2.1 (freeQ l1 l2 id).2.2 ∧ Below w.heap.size w w' := by
  have HG := Lib.hid (And.intro h1 h2)
  obtain ⟨_, a1, c1, rfl, _⟩ := h1
  obtain ⟨_, a2, c2, rfl, _⟩ := h2
  obtain ⟨W, hW⟩ : ∃ W, W = ((w.alloc (.cells #[.slice a1 l1.length c1, .slice a2 l2.length c2] 39)).alloc (.cells #[.slice none 0 0, .slice none 0 0] 39)) := ⟨_, rfl⟩
  have hbW : Below w.heap.size w W := by rw [hW]; exact b_alloc (b_alloc (Below.refl _ _) _) _
  have B0 : Blk W w.heap.size 39 [.slice a1 l1.length c1, .slice a2 l2.length c2] := by rw [hW]; exact (show Blk _ _ _ _ from heap_alloc_new w _).alloc _
  have B1 : Blk W (w.heap.size + 1) 39 [.slice none 0 0, .slice none 0 0] := by
    rw [hW]
    have h : Blk _ _ _ _ := heap_alloc_new (w.alloc (.cells #[.slice a1 l1.length c1, .slice a2 l2.length c2] 39)) (.cells #[.slice none 0 0, .slice none 0 0] 39 (0, 0))
    simpa using h
  have HW := Lib.hid (And.intro hW (And.intro hbW (And.intro B0 B1)))
  clear hW hbW B0 B1
  go_enter Tryd.func20, Tryd.ntmps20
  go_wp2
  rw [← HW.out.1]
  go_cut [10, 14] from 7 to 16 (fun a b wx => Blk wx w.heap.size 39 [a, b] ∧ Blk wx (w.heap.size + 1) 39 [.slice none 0 0, .slice none 0 0] ∧ wx.ownsRow W.heap.size 34 2 a (stay id l1).length (gcells (stay id l1)) ∧ wx.ownsRow W.heap.size 34 2 b (stay id l2).length (gcells (stay id l2)) ∧ (∀ g, a.ownBlock = some g → b.ownBlock ≠ some g) ∧ Below w.heap.size w wx)
  case first =>
    have c0 : W.cell? ⟨w.heap.size, 0, none⟩ = some (.slice a1 l1.length c1) := HW.out.2.2.1.cell 0
    have c1' : W.cell? ⟨w.heap.size, 1, none⟩ = some (.slice a2 l2.length c2) := HW.out.2.2.1.cell 1
    have z0 := HW.out.2.2.1.frozen 0
    have z1 := HW.out.2.2.1.frozen 1
    have HR := Lib.hid (And.intro (fun (X : World) (h : Below W.heap.size W X) => (HG.out.1.below HW.out.2.1).below h) (fun (X : World) (h : Below W.heap.size W X) => (HG.out.2.below HW.out.2.1).below h))
    have HZ := Lib.hid (And.intro (fun (X : World) (h : Below W.heap.size W X) => (HW.out.2.2.1.below h).frozen 0) (fun (X : World) (h : Below W.heap.size W X) => (HW.out.2.2.1.below h).frozen 1))
    go_region_with (first
      | (go_at_call_of 50 (Value.slice a1 l1.length c1); refine (lwithout_any (.slice a1 l1.length c1) l1 id _ (HR.out.1 _ (by repeat (first | exact Below.refl _ _ | apply b_drew | apply b_alloc))) (by omega)).mono ?_; rintro e w5 ⟨v5, rfl, ho5, hb5⟩; have hx5 : Below W.heap.size W w5 := undrew hb5; have g1 := bcell hx5 c0; have g2 := bcell hx5 c1'; obtain ⟨a5, m5, c5, rfl⟩ := ownsRow_slice ho5)
      | (go_at_call_of 50 (Value.slice a2 l2.length c2); refine (lwithout_any (.slice a2 l2.length c2) l2 id _ (HR.out.2 _ (by repeat (first | exact hx5 | apply b_drew | apply b_alloc))) (by omega)).mono ?_; rintro e w6 ⟨v6, rfl, ho6, hb6⟩; have hx6 : Below w5.heap.size w5 w6 := hb6; have hy6 : Below W.heap.size W w6 := hx5.trans (hx6.mono hx5.size); have k1 := bcell hy6 c0; have k2 := bcell hy6 c1'; have k3 := HZ.out.1 _ hy6; have k4 := HZ.out.2 _ hy6; obtain ⟨a6, m6, c6, rfl⟩ := ownsRow_slice ho6))
    all_goals
      have hs : Only (fun b => b = w.heap.size) w6 ((w6.setCell ⟨w.heap.size, 0, none⟩ (.slice a5 m5 c5)).setCell ⟨w.heap.size, 1, none⟩ (.slice a6 m6 c6)) := (Only.set1 w6 w.heap.size 0 _).trans (Only.set1 _ _ 1 _)
      have hlW := HW.out.2.2.1.lt
      have hx5s := hx5.size
      have ho5' : w5.ownsRow W.heap.size 34 2 (.slice a5 m5 c5) (stay id l1).length (gcells (stay id l1)) := ho5
      have hdj : ∀ g, (Value.slice a5 m5 c5).ownBlock = some g → (Value.slice a6 m6 c6).ownBlock ≠ some g := fun g e e2 => by have := (ho5'.lt g e).2; have := own_blk_ge ho6 e2; omega
      have hfin := Lib.hid (And.intro (((HW.out.2.2.1.below hy6).set 0 (.slice a5 m5 c5)).set 1 (.slice a6 m6 c6)) (And.intro ((HW.out.2.2.2.below hy6).only hs (by omega)) (And.intro (own_only (own_below ho5' hx6) hs (fun g e h => by have := own_blk_ge ho5' e; omega)) (And.intro (own_only (own_le ho6 hx5.size) hs (fun g e h => by have := own_blk_ge ho6 e; omega)) (And.intro hdj ((HW.out.2.1.trans (hy6.mono HW.out.2.1.size)).trans (hs.below (by have := hy6.size; omega) (fun k hk e => by omega))))))))
      clear hs hlW hx5s hdj ho5' ho5 ho6 k1 k2 k3 k4 hx6 hy6 hb6 g1 g2 hb5 hx5
      go_wp2
      go_meet
      exact hfin.out
  case rest =>
    obtain ⟨b0, b1, ho5, ho6, hdis, hb⟩ := hcut
    obtain ⟨a5, m5, c5, rfl⟩ := ownsRow_slice ho5
    obtain ⟨a6, m6, c6, rfl⟩ := ownsRow_slice ho6
    have hWs := HW.out.2.1.size
    have hfq : freeQ l1 l2 id = promote (stay id l1) (stay id l2) := rfl
    have hls : (stay id l1).length + (stay id l2).length ≤ 100000 := by
      have h1 : (stay id l1).length ≤ l1.length := List.length_filter_le _ _
      have h2 : (stay id l2).length ≤ l2.length := List.length_filter_le _ _
      omega
    have hmf : MF W.heap.size w.heap.size wc (.slice a5 m5 c5) (.slice a6 m6 c6) (.slice none 0 0) (stay id l1) (stay id l2) [] := by
      have hlW := HW.out.2.2.1.lt
      refine ⟨b0, ho5, gread_of_ownsRow ho6, World.ownsRow_nil _ _ _ _, fun a k c e => ?_, fun g e a k c e2 e3 => ?_, fun g e => by simp [Value.ownBlock] at e, fun g e => by simp [Value.ownBlock] at e, fun a k c e e2 => ?_, fun a k c e => by
        rw [e] at ho6
        exact ⟨Nat.le_trans (Nat.le_of_eq (own_len ho6 rfl)) (own_cap_le ho6), own_cap_max ho6⟩⟩
      · have h := own_addr ho6 e
        exact h
      · have h := own_addr_block ho6 e2
        exact hdis g e (h.trans (congrArg some e3))
      · have h := own_addr ho6 e
        omega
    have HMF := Lib.hid (And.intro hmf (And.intro b1 hb))
    have HFQ := Lib.hid (And.intro hfq hls)
    clear hmf b0 b1 ho5 ho6 hdis hb hWs hfq hls
    go_wp2
    go_loopg [6] (stay id l2).length (fun m uv wr => ∃ hv wv h l o, MF W.heap.size w.heap.size wr hv wv uv h l o ∧ Blk wr (w.heap.size + 1) 39 [.slice none 0 0, .slice none 0 0] ∧ Below w.heap.size w wr ∧
      freeQ l1 l2 id = ((promote h l).1, (promote h l).2.1, o ++ (promote h l).2.2) ∧ l.length = m ∧ h.length + l.length ≤ 100000 ∧ o.length + l.length ≤ 100000)
    case atStart => exact ⟨_, _, _, _, _, HMF.out.1, HMF.out.2.1, HMF.out.2.2, by rw [HFQ.out.1]; rfl, rfl, HFQ.out.2, by have := HFQ.out.2; simp; omega⟩
    case round =>
      obtain ⟨hv, wv, h, lw, o, hmf, hb1, hbz, hfree, hlm, hl3, hl4⟩ := hrel
      have HMZ := Lib.hid (And.intro hmf (And.intro hb1 hbz))
      have HP := Lib.hid (And.intro hfree (And.intro hl3 hl4))
      obtain ⟨ah, mh, ch, rfl⟩ := ownsRow_slice hmf.held
      obtain ⟨_, aw, cw, rfl, hcw⟩ := hmf.wait
      have c0 : wr.cell? ⟨w.heap.size, 0, none⟩ = some (.slice ah mh ch) := hmf.blk.cell 0
      have c1 : wr.cell? ⟨w.heap.size, 1, none⟩ = some (.slice aw lw.length cw) := hmf.blk.cell 1
      have d0 : wr.cell? ⟨w.heap.size + 1, 0, none⟩ = some (.slice none 0 0) := hb1.cell 0
      have d1 : wr.cell? ⟨w.heap.size + 1, 1, none⟩ = some (.slice none 0 0) := hb1.cell 1
      have d2 := hb1.frozen 0
      have d3 := hb1.frozen 1
      clear hmf hb1 hbz hfree hl3 hl4 HMF HFQ
      cases lw with
      | nil =>
        have HEND := Lib.hid (show promote h [] = (h, [], []) from rfl)
        simp only [List.length_nil] at c1
        go_wp2
        go_quiet (fail)
        go_wp2
        (try simp only [Exit.inBlock, Exit.then])
        have hset : Only (fun b => b = w.heap.size + 1) (wr.drewN nq) (((wr.drewN nq).setCell ⟨w.heap.size + 1, 0, none⟩ (.slice ah mh ch)).setCell ⟨w.heap.size + 1, 1, none⟩ (.slice aw 0 cw)) := (Only.set1 (wr.drewN nq) (w.heap.size + 1) 0 _).trans (Only.set1 _ _ 1 _)
        have hbn : Below wr.heap.size wr (wr.drewN nq) := pwDrewN (Below.refl _ _) nq
        have hlW : w.heap.size + 1 < W.heap.size := HW.out.2.2.2.lt
        refine bodyPost_ret (v := .tuple #[.agg #[.slice ah mh ch, .slice aw 0 cw], u6]) ?_ rfl ⟨_, _, _, rfl, ?_, ?_⟩
        · rw [results_cell_tmp rfl]
          go_simp
        · rw [HP.out.1, HEND.out, List.append_nil]
          exact ((HMZ.out.1.below hbn).other (HMZ.out.2.1.below hbn) (by omega) hlW hset).weak (by omega)
        · exact HMZ.out.2.2.trans ((hbn.mono HMZ.out.2.2.size).trans (hset.below (by have := HMZ.out.2.2.size; simpa using this) (fun k hk e => by omega)))
      | cons g0 l' =>
        obtain ⟨b, off, rfl, hc⟩ := hcw (by simp)
        have x0 : wr.cell? ⟨b, off, none⟩ = some (.int .i64 g0.1) := (hc 0 (by simp)).1
        have x1 : wr.cell? ⟨b, off + 1, none⟩ = some (.int .i64 g0.2) := (hc 0 (by simp)).2
        obtain ⟨gi, hgi⟩ : ∃ gi, gi = g0.1 := ⟨_, rfl⟩
        obtain ⟨gm, hgm⟩ : ∃ gm, gm = g0.2 := ⟨_, rfl⟩
        rw [← hgi] at x0
        rw [← hgm] at x1
        have hg0 : g0 = (gi, gm) := by rw [hgi, hgm]
        have HG0 := Lib.hid hg0
        have hcap := HMZ.out.1.cap _ _ _ rfl
        simp only [List.length_cons] at c1 hcap hlm
        have hrd := gread_of_ownsRow HMZ.out.1.held
        have HRD := Lib.hid hrd
        have hpos : (0 : Int) < (l'.length : Int) + 1 := by omega
        have hlW : w.heap.size + 1 < W.heap.size := HW.out.2.2.2.lt
        obtain ⟨mb, hmb⟩ : ∃ mb, mb = mayB h gm := ⟨_, rfl⟩
        have HMB := Lib.hid hmb
        have HLM := Lib.hid hlm
        clear hgi hgm hg0 hc hcw hrd hmb hlm
        go_wp2
        have e0 : wr.drew.cell? ⟨w.heap.size, 0, none⟩ = some (.slice ah mh ch) := c0
        have e1 : wr.drew.cell? ⟨w.heap.size, 1, none⟩ = some (.slice (some ⟨b, off, none⟩) (l'.length + 1) cw) := c1
        have e2 : wr.drew.cell? ⟨b, off + 1, none⟩ = some (.int .i64 gm) := x1
        cases mb with
        | false =>
          go_region_held3 (fun w' => w'.cell? ⟨w.heap.size, 0, none⟩ = some (.slice ah mh ch) ∧ w'.cell? ⟨w.heap.size, 1, none⟩ = some (.slice (some ⟨b, off, none⟩) (l'.length + 1) cw) ∧ w'.cell? ⟨b, off + 1, none⟩ = some (.int .i64 gm))
            (first | go_keep | exact ⟨e0, e1, e2⟩ | exact ⟨g1, g2, g3⟩)
            ((go_at_call 51; refine (lmay_any _ _ h gm _ (HRD.out.below (by repeat (first | exact Below.refl _ _ | apply b_drew | apply b_alloc)))).mono ?_; rintro e wa ⟨rfl, hba⟩; have g1 := bcell hba e0; have g2 := bcell hba e1; have g3 := bcell hba e2; rw [← HMB.out]))
          all_goals
            have hbn : Below wr.heap.size wr wa := undrew hba
            have q0 : wa.cell? ⟨w.heap.size, 0, none⟩ = some (.slice ah mh ch) := bcell hbn c0
            have q1 : wa.cell? ⟨w.heap.size, 1, none⟩ = some (.slice (some ⟨b, off, none⟩) (l'.length + 1) cw) := bcell hbn c1
            have q2 : wa.cell? ⟨w.heap.size + 1, 0, none⟩ = some (.slice none 0 0) := bcell hbn d0
            have q3 : wa.cell? ⟨w.heap.size + 1, 1, none⟩ = some (.slice none 0 0) := bcell hbn d1
            have q4 := (HMZ.out.2.1.below hbn).frozen 0
            have q5 := (HMZ.out.2.1.below hbn).frozen 1
            have hset : Only (fun b => b = w.heap.size + 1) wa ((wa.setCell ⟨w.heap.size + 1, 0, none⟩ (.slice ah mh ch)).setCell ⟨w.heap.size + 1, 1, none⟩ (.slice (some ⟨b, off, none⟩) (l'.length + 1) cw)) := (Only.set1 wa (w.heap.size + 1) 0 _).trans (Only.set1 _ _ 1 _)
            have hpr : promote h (g0 :: l') = (h, g0 :: l', []) := by
              unfold promote; rw [HG0.out]; simp only; rw [← HMB.out]; simp
            have HBN := Lib.hid (And.intro hbn (And.intro hset hpr))
            clear hba g1 g2 g3 c0 c1 d0 d1 d2 d3 e0 e1 e2 x0 x1 hset hbn hpr
            go_wp2
            (try simp only [Exit.inBlock, Exit.then])
            refine bodyPost_ret (v := .tuple #[.agg #[.slice ah mh ch, .slice (some ⟨b, off, none⟩) (l'.length + 1) cw], u6]) ?_ rfl ⟨_, _, _, rfl, ?_, ?_⟩
            · rw [results_cell_tmp rfl]
              go_simp
            · rw [HP.out.1, HBN.out.2.2, List.append_nil]
              exact ((HMZ.out.1.below HBN.out.1).other (HMZ.out.2.1.below HBN.out.1) (by omega) hlW HBN.out.2.1).weak (by omega)
            · exact HMZ.out.2.2.trans ((HBN.out.1.mono HMZ.out.2.2.size).trans (HBN.out.2.1.below (by have := HMZ.out.2.2.size; have := HBN.out.1.size; omega) (fun k hk e => by omega)))
        | true =>
          go_region_held3 (fun w' => w'.cell? ⟨w.heap.size, 0, none⟩ = some (.slice ah mh ch) ∧ w'.cell? ⟨w.heap.size, 1, none⟩ = some (.slice (some ⟨b, off, none⟩) (l'.length + 1) cw) ∧ w'.cell? ⟨b, off + 1, none⟩ = some (.int .i64 gm))
            (first | go_keep | exact ⟨e0, e1, e2⟩ | exact ⟨g1, g2, g3⟩)
            ((go_at_call 51; refine (lmay_any _ _ h gm _ (HRD.out.below (by repeat (first | exact Below.refl _ _ | apply b_drew | apply b_alloc)))).mono ?_; rintro e wa ⟨rfl, hba⟩; have g1 := bcell hba e0; have g2 := bcell hba e1; have g3 := bcell hba e2; rw [← HMB.out]))
          all_goals
            have hbn : Below wr.heap.size wr wa := undrew hba
            have q1 : wa.cell? ⟨w.heap.size, 1, none⟩ = some (.slice (some ⟨b, off, none⟩) (l'.length + 1) cw) := bcell hbn c1
            have q2 : wa.cell? ⟨b, off, none⟩ = some (.int .i64 gi) := bcell hbn x0
            have hpr : promote h (g0 :: l') = ((promote (h ++ [g0]) l').1, (promote (h ++ [g0]) l').2.1, g0.1 :: (promote (h ++ [g0]) l').2.2) := by
              conv => lhs; unfold promote
              rw [HG0.out]; simp only; rw [← HMB.out]; simp
            have hm := HMZ.out.1.below hbn
            have hbz := HMZ.out.2.2.trans (hbn.mono HMZ.out.2.2.size)
            have hb1 := HMZ.out.2.1.below hbn
            have hWa : W.heap.size ≤ wa.heap.size := by have := HMZ.out.1.lt _ _ _ rfl; have := hbn.size; omega
            have hpl := HP.out.2
            simp only [List.length_cons] at hpl
            obtain ⟨v5, w5, hrun, hv5, hg5, hat5⟩ := run_append_ints (w := wa.alloc (.cells #[.int .i64 gi] 2)) (hm.out.alloc _) (own_one wa gi) (by simp; omega) (by simp; omega)
            have hm5 := ((hm.below ((Below.refl _ _).alloc (Nat.le_refl _) _)).grow hg5 hv5 hat5)
            have hb5 : Below w.heap.size w w5 := (hbz.alloc hbz.size _).trans ((Only.ofGrown (S := fun k => W.heap.size ≤ k) hg5 (fun k e => own_blk_ge hm.out e)).below (by have := hbz.size; simp; omega) (fun k hk e => by have := hWa; omega))
            have hb15 : Blk w5 (w.heap.size + 1) 39 [.slice none 0 0, .slice none 0 0] := (hb1.alloc _).only (Only.ofGrown (S := fun k => W.heap.size ≤ k) hg5 (fun k e => own_blk_ge hm.out e)) (by omega)
            have HM5 := Lib.hid (And.intro hm5 (And.intro hb5 (And.intro hb15 hpr)))
            clear hba g1 g2 g3 c0 c1 d0 d1 d2 d3 e0 e1 e2 x0 x1 hbn hpr hm hbz hb1 hv5 hg5 hat5 hm5 hb5 hb15
            go_wp2_with (at_builtin; refine wpList_append_run rfl (.tmp 30) (.tmp 36) 44 rfl _ _ rfl rfl v5 w5 hrun ?_)
            have hbk := HM5.out.1.lt _ _ _ rfl
            have hnW : w.heap.size < w5.heap.size := HM5.out.1.blk.lt
            have c0 : w5.cell? ⟨w.heap.size, 0, none⟩ = some (.slice ah mh ch) := HM5.out.1.blk.cell 0
            have c1 : w5.cell? ⟨w.heap.size, 1, none⟩ = some (.slice (some ⟨b, off, none⟩) (l'.length + 1) cw) := HM5.out.1.blk.cell 1
            have x01 : w5.cell? ⟨b, off, none⟩ = some (.int .i64 gi) ∧ w5.cell? ⟨b, off + 1, none⟩ = some (.int .i64 gm) := by
              obtain ⟨_, _, _, e, hc⟩ := HM5.out.1.wait
              obtain ⟨b2, o2, e3, hc⟩ := hc (by simp)
              simp only [Value.slice.injEq] at e
              rw [← e.1] at e3
              simp only [Option.some.injEq, Addr.mk.injEq, and_true] at e3
              obtain ⟨rfl, rfl⟩ := e3
              have h := hc 0 (by simp)
              simp only [HG0.out, List.getElem_cons_zero] at h
              exact h
            obtain ⟨x0, x1⟩ := x01
            have c0a : ∀ o, (w5.alloc o).cell? ⟨w.heap.size, 0, none⟩ = some (.slice ah mh ch) := fun o => (HM5.out.1.blk.alloc o).cell 0
            have c1a : ∀ o, (w5.alloc o).cell? ⟨w.heap.size, 1, none⟩ = some (.slice (some ⟨b, off, none⟩) (l'.length + 1) cw) := fun o => (HM5.out.1.blk.alloc o).cell 1
            have hl1 : (1 : Int) ≤ (l'.length : Int) + 1 := by omega
            clear hrun q1 q2
            go_wp2
            go_region_law (refine step_append_grants rfl (.tmp 39) (.tmp 44) rfl (.slice ah mh ch) (.slice (some ⟨w5.heap.size, 0, none⟩) 1 1) rfl rfl W.heap.size h [(gi, gm)] (by first | exact HM5.out.1.held.alloc _ | exact (HM5.out.1.held.alloc _).drew) (by exact gread_blk (blk_newG w5 (gi, gm))) (by have := hbk; simp; omega) (by simp <;> omega) ?_; intro v6 w6 ho6 hg6 hat6; have hg7 : (w5.alloc (.cells #[.int .i64 gi, .int .i64 gm] 34)).grownBy w6 (Value.slice ah mh ch).ownBlock := ⟨hg6.os, hg6.tape, hg6.output, hg6.size, hg6.block⟩; have hB6 := (HM5.out.1.blk.alloc (.cells #[.int .i64 gi, .int .i64 gm] 34)).only (Only.ofGrown (S := fun k => (Value.slice ah mh ch).ownBlock = some k) hg7 (fun k e => e)) (fun e => own_ne HM5.out.1.blk HM5.out.1.held (by decide) _ e rfl); have k1 : w6.cell? ⟨w.heap.size, 1, none⟩ = some (.slice (some ⟨b, off, none⟩) (l'.length + 1) cw) := hB6.cell 1; have k0 : w6.cell? ⟨w.heap.size, 0, none⟩ = some (.slice ah mh ch) := hB6.cell 0; have k2 := hB6.frozen 0; have k3 := hB6.frozen 1; obtain ⟨a7, m7, c7, rfl⟩ := ownsRow_slice ho6)
            all_goals
              have hX : Below w5.heap.size w5 (w5.alloc (.cells #[.int .i64 gi, .int .i64 gm] 34)) := (Below.refl _ _).alloc (Nat.le_refl _) _
              have hpush := (HM5.out.1.below hX).push (v5 := .slice a7 m7 c7) (wv5 := .slice (if cw = 1 then some ⟨b, off, none⟩ else some ⟨b, off + 2, none⟩) l'.length (cw - 1)) (h5 := h ++ [(gi, gm)]) (l5 := l') hg7 ho6 hat6 (tail_read (HM5.out.1.below hX).wait (by simpa using hcap.1)) (tail_block b off cw l'.length) (fun a k c e => by
                simp only [Value.slice.injEq] at e; omega)
              obtain ⟨ax, hax⟩ : ∃ ax, ax = (if cw = 1 then some (⟨b, off, none⟩ : Addr) else some ⟨b, off + 2, none⟩) := ⟨_, rfl⟩
              rw [← hax] at hpush
              rw [← hax]
              have hn1 := ((HM5.out.2.2.1.alloc (.cells #[.int .i64 gi, .int .i64 gm] 34)).only hpush.2 (by have := HM5.out.1.blk.lt; omega))
              have hfin := Lib.hid (And.intro hpush.1 (And.intro hn1 (HM5.out.2.1.trans ((hX.mono HM5.out.2.1.size).trans (hpush.2.below (by have := HM5.out.2.1.size; have := hX.size; omega) (fun k hk e => by omega))))))
              clear hax hX hpush hn1 ho6 hg6 hat6 hg7 hB6 k0 k1 k2 k3 c0 c1 x0 x1 c0a c1a
              go_wp2
              go_roundg l'.length
              case measure => have := HLM.out; omega
              case rel => exact ⟨_, _, h ++ [(gi, gm)], l', o ++ [gi], hfin.out.1, hfin.out.2.1, hfin.out.2.2, by
                rw [HP.out.1, HM5.out.2.2.2, HG0.out]; simp, rfl, by have := hpl.1; simp; omega, by have := hpl.2; simp; omega⟩
end Go.Proofs.YteghcgiclpbkdaaDoor
