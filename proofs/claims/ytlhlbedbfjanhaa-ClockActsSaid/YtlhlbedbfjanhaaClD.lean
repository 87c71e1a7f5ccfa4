/- The clock's due: whoever of one slot is due, in whatever order. -/
import Derived.Test.YtlhlbedbfjanhaaClC
import Derived.Test.YtlhlbedbfjanhaaClQ
import Derived.Laws.OwnMore
import Derived.Maps.AppendAt
namespace Go.Proofs.Ytlhlbedbfjanhaa
open Go.RowKit

def i64s (o : List Int) : List Value := o.map fun x => .int .i64 x
theorem infoI64 : (Try.prog.info? 2).map (fun i => (i.zero, i.size, i.bytes)) = some (some (.int .i64 0), 1, 8) := by kernel_rfl
theorem add_off (b i j : Nat) : (⟨b, i, none⟩ : Addr).add j = ⟨b, i + j, none⟩ := by
  unfold Addr.add; split <;> simp_all
/-- n keys or fewer have deadlines. -/
def Few (c : Clk) (n : Nat) : Prop := ∃ L : List Int, L.length ≤ n ∧ ∀ k, (c.at_ k).isSome = true → k ∈ L
theorem sub_len {r L : List Int} (hn : r.Nodup) (h : ∀ k ∈ r, k ∈ L) : r.length ≤ L.length := by
  induction r generalizing L with
  | nil => simp
  | cons a r ih =>
    rw [List.nodup_cons] at hn
    have ha := h a (List.mem_cons_self ..)
    have h1 := ih (L := L.erase a) hn.2 fun k hk => (List.mem_erase_of_ne (fun e => hn.1 (by rw [← e]; exact hk))).2 (h k (List.mem_cons_of_mem _ hk))
    rw [List.length_erase_of_mem ha] at h1
    have := List.length_pos_of_mem ha
    simp; omega
theorem slotF_some {c : Clk} {k : Nat} {id : Int} : (slotF c k id).isSome = true ↔ ∃ t, c.at_ id = some t ∧ t.toNat % 64 = k := by
  unfold slotF
  cases c.at_ id with
  | none => simp
  | some t =>
    by_cases h : t.toNat % 64 = k <;> simp [h]

theorem own_only {S : Nat → Prop} {w w1 : World} {base : Nat} {e : TypeId} {size n : Nat} {v : Value} {xs : List Value} (h : w.ownsRow base e size v n xs) (ho : Only S w w1) (hs : ∀ g, v.ownBlock = some g → ¬ S g) : w1.ownsRow base e size v n xs := by
  rcases h with ⟨hx, h0 | ⟨g, cap, cur, rfl, hb, hg, hr⟩⟩
  · exact ⟨hx, .inl h0⟩
  · exact ⟨hx, .inr ⟨g, cap, cur, rfl, hb, (ho.block g (Array.getElem?_eq_some_iff.1 hg).1 (hs g rfl)).trans hg, hr⟩⟩

/-- the loop in due: r has been found. -/
structure DueAt (w wr : World) (b p mb base r0 k : Nat) (c : Clk) (l : List Int) (vv : Value) (r : List Int) (left : Int → Bool) (cnt : Nat) : Prop where
  rg : RgS i64V wr (b + 2 + k) r0 (slotF c k) left cnt
  own : wr.ownsRow base 2 1 vv (l ++ r).length (i64s (l ++ r))
  nd : r.Nodup
  mem : ∀ id, id ∈ r ↔ (slotF c k id).isSome = true ∧ left id = false ∧ isDue c.now (c.at_ id) = true
  only : Only (fun x => base ≤ x) w wr
  wrep : WRep wr b p mb c
  ne : vv.ownBlock ≠ some r0
theorem DueAt.pass {w wr w1 : World} {b p mb base r0 k : Nat} {c : Clk} {l : List Int} {vv : Value} {r : List Int} {left : Int → Bool} {cnt cnt1 : Nat} (h : DueAt w wr b p mb base r0 k c l vv r left cnt) (hb : b + 66 ≤ base) (hr0 : base ≤ r0)
    {id : Int} (hg : RgS i64V w1 (b + 2 + k) r0 (slotF c k) (fun x => left x && !decide (x = id)) cnt1) (ho : Only (fun x => x = r0) wr w1) (hd : isDue c.now (c.at_ id) = false) :
    DueAt w w1 b p mb base r0 k c l vv r (fun x => left x && !decide (x = id)) cnt1 := by
  refine ⟨hg, own_only h.own ho (fun k hk e => h.ne (by rw [hk, e])), h.nd, fun x => ?_, h.only.trans (ho.mono (fun x _ e => by omega)), h.wrep.only ho (fun x hx e => by unfold InW at hx; omega), h.ne⟩
  rw [h.mem x]
  by_cases e : x = id
  · subst e; simp [hd]
  · simp [e]
theorem own_lt {w : World} {base : Nat} {e : TypeId} {size n : Nat} {v : Value} {xs : List Value} (h : w.ownsRow base e size v n xs) {g : Nat} (hg : v.ownBlock = some g) : base ≤ g ∧ g < w.heap.size := h.lt g hg
theorem DueAt.push {w wr w1 w2 w3 : World} {b p mb base r0 k : Nat} {c : Clk} {l : List Int} {vv v2 : Value} {r : List Int} {left : Int → Bool} {cnt cnt1 : Nat} (h : DueAt w wr b p mb base r0 k c l vv r left cnt) (hb : b + 66 ≤ base) (hr0 : base ≤ r0)
    {id : Int} (hg : RgS i64V w1 (b + 2 + k) r0 (slotF c k) (fun x => left x && !decide (x = id)) cnt1) (ho : Only (fun x => x = r0) wr w1) (hd : isDue c.now (c.at_ id) = true) (hs : (slotF c k id).isSome = true) (hl : left id = true) (hk : k < 64)
    (h2 : Below w1.heap.size w1 w2) (hown : w3.ownsRow base 2 1 v2 ((l ++ r).length + 1) (i64s (l ++ r) ++ [.int .i64 id])) (hgr : w2.grownBy w3 vv.ownBlock) (hat : v2.ownBlock = vv.ownBlock ∨ v2.ownBlock = some w2.heap.size) :
    DueAt w w3 b p mb base r0 k c l v2 (r ++ [id]) (fun x => left x && !decide (x = id)) cnt1 := by
  have h12 : Only NoneS w1 w2 := Only.ofBelow h2 NoneS
  have h23 : Only (fun x => vv.ownBlock = some x) w2 w3 := Only.ofGrown hgr (fun k hk => hk)
  have hnid : id ∉ r := fun hm => by have := ((h.mem id).1 hm).2.1; rw [hl] at this; cases this
  have hob : ∀ x, vv.ownBlock = some x → base ≤ x := fun x hx => (own_lt h.own hx).1
  have hrg := hg.map.lt
  have hrl := hg.lt
  have hsz := h2.size
  refine ⟨(hg.only h12 (fun h => h) (fun h => h)).only h23 (fun e => by have := hob _ e; omega) (fun e => h.ne e), ?_, ?_, fun x => ?_, ?_, ?_, ?_⟩
  · have e1 : (l ++ (r ++ [id])).length = (l ++ r).length + 1 := by simp; omega
    have e2 : i64s (l ++ (r ++ [id])) = i64s (l ++ r) ++ [.int .i64 id] := by simp [i64s]
    rw [e1, e2]; exact hown
  · rw [List.nodup_append]
    exact ⟨h.nd, by simp, fun x hx y hy => by rw [List.mem_singleton] at hy; rw [hy]; exact fun e => hnid (by rw [← e]; exact hx)⟩
  · rw [List.mem_append, List.mem_singleton, h.mem x]
    by_cases e : x = id
    · subst e; simp [hs, hd]
    · simp [e]
  · exact ((h.only.trans (ho.mono (fun x _ e => by omega))).trans (h12.mono (fun x _ e => e.elim))).trans (h23.mono (fun x _ e => hob x e))
  · exact ((h.wrep.only ho (fun x hx e => by unfold InW at hx; omega)).only h12 (fun _ _ e => e)).only h23 (fun x hx e => by have := hob x e; unfold InW at hx; omega)
  · rcases hat with e | e
    · rw [e]; exact h.ne
    · rw [e]
      intro e2
      have := Option.some.inj e2
      omega
end Go.Proofs.Ytlhlbedbfjanhaa
