/- index.Clash: the first entry that has the key of the one ahead of it. -/
import Derived.Test.YtecnjifincahaaaGreatDoorIyC
import Derived.BigQuiet
namespace Go.Proofs.YtecnjifincahaaaGreatDoor
open Go.Shelf Go.RowKit Go.Lib

theorem bel_drewN (w : World) (n : Nat) : Below w.heap.size w (w.drewN n) := (Only.drewN (fun _ => False) w n).below (Nat.le_refl _) (fun _ _ h => h)
def apart (l : List Ent) (j : Nat) : Prop := ∀ k (hk : k + 1 < l.length), k < j → ¬ l[k + 1].1 = l[k].1
def ClashR (l : List Ent) (r : Ending) : Prop :=
  (∃ j, ∃ h : j + 1 < l.length, l[j + 1].1 = l[j].1 ∧ apart l j ∧ r = .returned (.tuple #[.agg #[.string (BA l[j + 1].1), .int .i64 l[j + 1].2], .bool true])) ∨
  (apart l l.length ∧ r = .returned (.tuple #[.agg #[.string ⟨#[]⟩, .int .i64 0], .bool false]))
set_option maxHeartbeats 8000000 in
set_option maxRecDepth 100000 in
theorem clash_any (nb : Nat) (w : World) (sv : Value) (l : List Ent) (hnb : nb ≤ w.heap.size) (hl : l.length ≤ 100000) (h : ERead nb w sv l) :
    Calls Tryz.prog 20 #[sv] w fun r w' => ClashR l r ∧ Below w.heap.size w w' := by
  obtain ⟨W0, eW0⟩ : ∃ W, w.alloc (.cells #[.string ⟨#[]⟩, .int .i64 0] 53) = W := ⟨_, rfl⟩
  obtain ⟨P0, eP0⟩ : ∃ P, w.heap.size = P := ⟨_, rfl⟩
  have hb0 : Below w.heap.size w W0 := by rw [← eW0]; exact (Below.refl _ w).alloc (Nat.le_refl _) _
  have hk0 : Blk W0 P0 53 [.string ⟨#[]⟩, .int .i64 0] := by rw [← eW0, ← eP0]; exact heap_alloc_new w _
  have h2 := h.later (hb0.mono hnb)
  obtain ⟨sa, cap, rfl, hcap, hx⟩ := h2
  obtain ⟨n, hn⟩ : ∃ n, l.length = n := ⟨_, rfl⟩
  rw [hn] at hl hcap ⊢
  have H0 := Lib.hid (And.intro eW0 (And.intro eP0 (And.intro hb0 (And.intro hk0 (And.intro hx (And.intro hn hnb))))))
  clear eW0 eP0 hb0 hk0 hx hn hnb h
  go_enter Tryz.func20, Tryz.ntmps20
  go_wp2_with fail
  rw [H0.out.1, H0.out.2.1]
  go_loopg [4] n (fun gk iv wr => ∃ (i : Nat), gk + i = n ∧ iv = .int .i64 ((i : Int) + 1) ∧ Below w.heap.size w wr ∧ Blk wr P0 53 [.string ⟨#[]⟩, .int .i64 0] ∧ Below W0.heap.size W0 wr ∧ apart l i)
  case atStart => exact ⟨0, by omega, rfl, H0.out.2.2.1, H0.out.2.2.2.1, Below.refl _ _, fun k hk h => absurd h (by omega)⟩
  case round =>
    obtain ⟨i, hgi, rfl, hbw, hkr, hbr, hap⟩ := hrel
    have HS := Lib.hid (And.intro hbw (And.intro hkr (And.intro hbr hap)))
    clear hbw hkr hbr hap
    by_cases hi : i + 1 < n
    · have hil : i + 1 < l.length := by rw [H0.out.2.2.2.2.2.1]; exact hi
      have hiz : (i : Int) + 1 < (n : Int) := by omega
      obtain ⟨b, off, rfl, hbn, hcells⟩ := H0.out.2.2.2.2.1 (by have := H0.out.2.2.2.2.2.1; omega)
      have hc := hcells (i + 1) hil
      have hd := hcells i (by omega)
      have hbn0 : b < W0.heap.size := by have := H0.out.2.2.2.2.2.2; have := H0.out.2.2.1.size; omega
      have tr : ∀ p v, W0.cell? ⟨b, p, none⟩ = some v → wr.cell? ⟨b, p, none⟩ = some v := fun p v hv => (World.cell?_of_block (HS.out.2.2.1.block b hbn0)).trans hv
      have f0 := tr _ _ hc.1
      have f1 := tr _ _ hc.2
      have g0 := tr _ _ hd.1
      have hwK : IntKind.i64.wrap ((i : Int) + 1 + 1) = (i : Int) + 1 + 1 := by rw [IntWalk.i64_in _ (by omega)]
      have hwM : IntKind.i64.wrap ((i : Int) + 1 - 1) = (i : Int) := by rw [IntWalk.i64_in _ (by omega)]; omega
      have htn : ((i : Int) + 1).toNat = i + 1 := by omega
      have hi0 : (0 : Int) ≤ (i : Int) + 1 := by omega
      have hiz2 : (i : Int) < (n : Int) := by omega
      obtain ⟨⟨xk, xi⟩, hxd⟩ : ∃ x, l[i + 1] = x := ⟨_, rfl⟩
      obtain ⟨⟨yk, yi⟩, hyd⟩ : ∃ x, l[i] = x := ⟨_, rfl⟩
      rw [hxd] at f0 f1
      rw [hyd] at g0
      simp only at f0 f1 g0
      have HX := Lib.hid (And.intro hxd hyd)
      clear hc hd tr hxd hyd hcells hbn hbn0
      by_cases hxy : xk = yk
      · subst hxy
        have s0 := HS.out.2.1.frozen 0
        have s1 := HS.out.2.1.frozen 1
        have r0 := HS.out.2.1.cell 0
        have r1 := HS.out.2.1.cell 1
        go_wp2
        go_quiet (fail)
        go_wp2
        clear s0 s1 r0 r1 f0 f1 g0
        have hbd := HS.out.1.trans ((bel_drewN wr nq).mono HS.out.1.size)
        have hkd := HS.out.2.1.below (bel_drewN wr nq)
        obtain ⟨W5, eW5⟩ : ∃ W, (((wr.drewN nq).setCell ⟨P0, 0, none⟩ (.string (BA xk))).setCell ⟨P0, 1, none⟩ (.int .i64 xi)) = W := ⟨_, rfl⟩
        have hk5 : Blk W5 P0 53 [(.string (BA xk)), (.int .i64 xi)] := by rw [← eW5]; exact (hkd.set 0 _).set 1 _
        have ho5 : Only (fun k => k = P0) (wr.drewN nq) W5 := by rw [← eW5]; exact (Only.set1 _ P0 0 _).trans (Only.set1 _ P0 1 _)
        have hb5 := hbd.trans (ho5.below hbd.size (fun k hk e => by have := H0.out.2.1; omega))
        rw [eW5]
        have z0 := hk5.cell 0
        have z1 := hk5.cell 1
        (try simp only [Exit.inBlock, Exit.then])
        refine bodyPost_ret (v := .tuple #[.agg #[(.string (BA xk)), (.int .i64 xi)], .bool true]) ?_ rfl ⟨?_, hb5⟩
        · rw [results_cell_tmp rfl]
          clear hb5 ho5 hkd hbd
          go_simp
        · exact .inl ⟨i, hil, by rw [HX.out.1, HX.out.2], HS.out.2.2.2, by rw [HX.out.1]⟩
      · have hbb : ¬ BA xk = BA yk := fun h => hxy (by have := congrArg (fun z : ByteArray => z.data.toList) h; simpa [BA] using this)
        have hb4 : ((BA xk).toList == (BA yk).toList) = false := by rw [Lib.toList_data, Lib.toList_data]; simpa [BA] using hxy
        have hb5 : ¬ (BA xk).toList = (BA yk).toList := by rw [Lib.toList_data, Lib.toList_data]; simpa [BA] using hxy
        have hb6 : (xk == yk) = false := by rw [beq_eq_false_iff_ne]; exact hxy
        have HN := Lib.hid hxy
        go_wp2
        go_quiet (fail)
        go_wp2
        go_roundg (gk - 1)
        case rel =>
          refine ⟨i + 1, by omega, by rw [show (((i + 1 : Nat) : Int) + 1) = (i : Int) + 1 + 1 by omega], HS.out.1.trans ((bel_drewN wr nq).mono HS.out.1.size), HS.out.2.1.below (bel_drewN wr nq), HS.out.2.2.1.trans ((bel_drewN wr nq).mono HS.out.2.2.1.size), fun k hk h => ?_⟩
          by_cases hki : k < i
          · exact HS.out.2.2.2 k hk hki
          · obtain rfl : k = i := by omega
            rw [HX.out.1, HX.out.2]
            exact HN.out
        case measure => omega
    · have hiz : ¬ (i : Int) + 1 < (n : Int) := by omega
      have s0 := HS.out.2.1.frozen 0
      have s1 := HS.out.2.1.frozen 1
      have r0 := HS.out.2.1.cell 0
      have r1 := HS.out.2.1.cell 1
      go_wp2
      clear s0 s1 r0 r1
      have hbd := HS.out.1
      have hkd := HS.out.2.1
      obtain ⟨W5, eW5⟩ : ∃ W, ((wr.setCell ⟨P0, 0, none⟩ (.string ⟨#[]⟩)).setCell ⟨P0, 1, none⟩ (.int .i64 0)) = W := ⟨_, rfl⟩
      have hk5 : Blk W5 P0 53 [(.string ⟨#[]⟩), (.int .i64 0)] := by rw [← eW5]; exact (hkd.set 0 _).set 1 _
      have ho5 : Only (fun k => k = P0) wr W5 := by rw [← eW5]; exact (Only.set1 _ P0 0 _).trans (Only.set1 _ P0 1 _)
      have hb5 := hbd.trans (ho5.below hbd.size (fun k hk e => by have := H0.out.2.1; omega))
      rw [eW5]
      have z0 := hk5.cell 0
      have z1 := hk5.cell 1
      (try simp only [Exit.inBlock, Exit.then])
      refine bodyPost_ret (v := .tuple #[.agg #[(.string ⟨#[]⟩), (.int .i64 0)], .bool false]) ?_ rfl ⟨?_, hb5⟩
      · rw [results_cell_tmp rfl]
        clear hb5 ho5 hkd hbd
        go_simp
      · exact .inr ⟨fun k hk _ => HS.out.2.2.2 k hk (by have := H0.out.2.2.2.2.2.1; omega), rfl⟩
end Go.Proofs.YtecnjifincahaaaGreatDoor
