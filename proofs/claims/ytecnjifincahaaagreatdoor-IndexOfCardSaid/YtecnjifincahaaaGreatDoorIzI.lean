/- With and index.Of once more: the row that they give is a new one. -/
import Derived.Test.YtecnjifincahaaaGreatDoorIzH
namespace Go.Proofs.YtecnjifincahaaaGreatDoor
open Go.Shelf Go.RowKit Go.Lib

set_option maxHeartbeats 8000000 in
set_option maxRecDepth 100000 in
theorem with_lo (nb : Nat) (w : World) (sv : Value) (l : List Ent) (ek : BL) (ei : Int) (inn : Bool) (hnb : nb ≤ w.heap.size) (hl : l.length ≤ 100000) (h : ERead nb w sv l) :
    Calls Tryz.prog 24 #[sv, .agg #[.string (BA ek), .int .i64 ei], .bool inn] w fun r w' => ∃ v, r = .returned (.tuple #[v, .bool (withB l (ek, ei) inn)]) ∧ ERead w'.heap.size w' v (withL l (ek, ei) inn) ∧ Below w.heap.size w w' ∧ ∀ b, v.ownBlock = some b → w.heap.size ≤ b := by
  obtain ⟨W0, eW0⟩ : ∃ W, w.alloc (.cells #[.string (BA ek), .int .i64 ei] 53) = W := ⟨_, rfl⟩
  obtain ⟨P0, eP0⟩ : ∃ P, w.heap.size = P := ⟨_, rfl⟩
  have hb0 : Below w.heap.size w W0 := by rw [← eW0]; exact (Below.refl _ w).alloc (Nat.le_refl _) _
  have hk0 : Blk W0 P0 53 [.string (BA ek), .int .i64 ei] := by rw [← eW0, ← eP0]; exact heap_alloc_new w _
  obtain ⟨sa, cap, rfl, hcap, hx⟩ := h
  have hlt : ∀ (xk : BL) (xi : Int) (W : World), Calls Tryz.prog 50 #[.agg #[.string (BA ek), .int .i64 ei], .agg #[.string (BA xk), .int .i64 xi]] W fun r w' => r = .returned (.bool (entLt (ek, ei) (xk, xi))) ∧ Below W.heap.size W w' := fun xk xi W => below_any (ek, ei) (xk, xi) W
  have hap : ∀ (xk : BL) (xi : Int) (W : World) (v : Value) (o : List Ent), W.ownsRow (P0 + 1) 53 2 v o.length (entsC o) → o.length ≤ 1000000 → P0 + 1 ≤ W.heap.size → ∃ v' w', (∀ ty, (Builtin.append_ #[46, 46] ty #[v, .slice (some ⟨W.heap.size, 0, none⟩) 1 1]).run Tryz.prog (W.alloc (.cells #[.string (BA xk), .int .i64 xi] 53)) = .ok v' w') ∧ w'.ownsRow (P0 + 1) 53 2 v' (o ++ [(xk, xi)]).length (entsC (o ++ [(xk, xi)])) ∧ Only (fun k => v.ownBlock = some k) W w' ∧ (v'.ownBlock = v.ownBlock ∨ v'.ownBlock = some (W.heap.size + 1)) :=
    fun xk xi W v o ho hlen hb => by
      obtain ⟨v', w', hr, ho', hg, hat⟩ := ent_append ho (BA xk) xi (xk, xi) rfl hlen hb
      exact ⟨v', w', hr, ho', (Only.alloc _ W _).trans (Only.ofGrown hg (fun k hk => hk)), hat⟩
  obtain ⟨n, hn⟩ : ∃ n, l.length = n := ⟨_, rfl⟩
  rw [hn] at hl hcap ⊢
  have H0 := Lib.hid (And.intro eW0 (And.intro eP0 (And.intro hb0 (And.intro hk0 (And.intro hx (And.intro hn (And.intro hlt (And.intro hap hnb))))))))
  clear eW0 eP0 hb0 hk0 hx hn hlt hap hnb
  go_enter Tryz.func24, Tryz.ntmps24
  go_wp2_with fail
  rw [H0.out.1, H0.out.2.1]
  go_loopg [8, 9, 10, 17] n (fun gk ov bw bp iv wr => ∃ (i : Nat) (s : List Ent × Bool × Bool), gk + i = n ∧ iv = .int .i64 i ∧ bw = .bool s.2.1 ∧ bp = .bool s.2.2 ∧ s = withSt (ek, ei) inn (l.take i) ∧ wr.ownsRow (P0 + 1) 53 2 ov s.1.length (entsC s.1) ∧ Below w.heap.size w wr ∧ Blk wr P0 53 [.string (BA ek), .int .i64 ei])
  case atStart => exact ⟨0, ([], false, !inn), by omega, rfl, rfl, rfl, rfl, World.ownsRow_nil _ _ _ _, H0.out.2.2.1, H0.out.2.2.2.1⟩
  case round =>
    obtain ⟨i, s, hgi, rfl, rfl, rfl, hs, hown, hbw, hkr⟩ := hrel
    have HS := Lib.hid (And.intro hs (And.intro hown (And.intro hbw hkr)))
    clear hs hown hbw hkr
    by_cases hi : i < n
    · have hil : i < l.length := by rw [H0.out.2.2.2.2.2.1]; exact hi
      have hiz : (i : Int) < (n : Int) := by omega
      obtain ⟨b, off, rfl, hbn, hcells⟩ := H0.out.2.2.2.2.1 (by have := H0.out.2.2.2.2.2.1; omega)
      have hc := hcells i hil
      obtain ⟨⟨xk, xi⟩, hxd⟩ : ∃ x, l[i] = x := ⟨_, rfl⟩
      rw [hxd] at hc
      simp only at hc
      have hwK : IntKind.i64.wrap ((i : Int) + 1) = ((i + 1 : Nat) : Int) := by rw [IntWalk.i64_in _ (by omega)]; omega
      have hbw2 : Below nb w wr := HS.out.2.2.1.mono H0.out.2.2.2.2.2.2.2.2
      have f0 : wr.cell? ⟨b, off + i * 2, none⟩ = some (.string (BA xk)) := (World.cell?_of_block (hbw2.block b hbn)).trans hc.1
      have f1 : wr.cell? ⟨b, off + i * 2 + 1, none⟩ = some (.int .i64 xi) := (World.cell?_of_block (hbw2.block b hbn)).trans hc.2
      have hka := HS.out.2.2.2.alloc (.cells #[.string (BA xk), .int .i64 xi] 53)
      have e0 := hka.cell 0
      have e1 := hka.cell 1
      have HX := Lib.hid (And.intro hxd (And.intro hbn hcells))
      clear hc hbw2 hxd hcells hbn
      by_cases hxe : ((xk, xi) : Ent) = (ek, ei)
      · have h1 : xk = ek := congrArg Prod.fst hxe
        have h2 : xi = ei := congrArg Prod.snd hxe
        subst xk xi
        clear hxe
        obtain ⟨s0, sw, sp⟩ := s
        have hbx := HS.out.2.2.1.alloc (o := (.cells #[.string (BA ek), .int .i64 ei] 53)) HS.out.2.2.1.size
        have hok := HS.out.2.1.alloc (.cells #[.string (BA ek), .int .i64 ei] 53)
        have HB := Lib.hid (And.intro hbx (And.intro hok hka))
        clear hbx hok hka
        go_wp2
        go_roundg (gk - 1)
        case rel => exact ⟨i + 1, (s0, true, sp), by omega, rfl, rfl, rfl, by rw [withSt_take (ek, ei) inn l i hil, ← HS.out.1, HX.out.1]; unfold withStep; rw [if_pos rfl], HB.out.2.1, HB.out.1, HB.out.2.2⟩
        case measure => omega
      · have HNE := Lib.hid hxe
        by_cases hkk : xk = ek
        · have hii : ¬ xi = ei := fun h => HNE.out (by rw [hkk, h])
          subst xk
          clear hxe
          obtain ⟨s0, sw, sp⟩ := s
          have hbx := HS.out.2.2.1.alloc (o := (.cells #[.string (BA ek), .int .i64 xi] 53)) HS.out.2.2.1.size
          have hok := HS.out.2.1.alloc (.cells #[.string (BA ek), .int .i64 xi] 53)
          have hxb : Blk (wr.alloc (.cells #[.string (BA ek), .int .i64 xi] 53)) wr.heap.size 53 [.string (BA ek), .int .i64 xi] := heap_alloc_new wr _
          have hsz : (wr.alloc (.cells #[.string (BA ek), .int .i64 xi] 53)).heap.size = wr.heap.size + 1 := by simp
          have hP0 : P0 + 1 ≤ wr.heap.size := HS.out.2.2.2.lt
          have hs0 : s0.length ≤ 1000000 := by have h := withSt_len (ek, ei) inn (l.take i); rw [← HS.out.1, List.length_take] at h; simp only at h; omega
          have hown : ∀ k, u8.ownBlock = some k → P0 + 1 ≤ k ∧ k < wr.heap.size := fun k hk => HS.out.2.1.lt k hk
          cases sp with
          | true =>
            obtain ⟨v2, w3, hrun, ho2, hon, hat⟩ := H0.out.2.2.2.2.2.2.2.1 ek xi (wr.alloc (.cells #[.string (BA ek), .int .i64 xi] 53)) u8 s0 hok hs0 (by rw [hsz]; omega)
            rw [hsz] at hrun
            have hb3 := hbx.trans (hon.below hbx.size (fun k hk e => by have := hown k e; have := H0.out.2.1; omega))
            have hk3 := hka.only hon (fun e => by have := hown _ e; omega)
            have HR := Lib.hid (And.intro hrun (And.intro ho2 (And.intro hb3 hk3)))
            clear hrun ho2 hon hat hb3 hk3 hbx hok hsz hka hown hxb
            go_wp2_with (at_builtin; refine wpList_append_run rfl (.tmp 35) (.tmp 37) 46 rfl u8 (.slice (some ⟨wr.heap.size + 1, 0, none⟩) 1 1) rfl rfl v2 w3 HR.out.1 ?_)
            go_wp2
            go_roundg (gk - 1)
            case rel => exact ⟨i + 1, (s0 ++ [(ek, xi)], sw, true), by omega, rfl, rfl, rfl, by rw [withSt_take (ek, ei) inn l i hil, ← HS.out.1, HX.out.1]; unfold withStep; rw [if_neg HNE.out, if_neg (by simp)], HR.out.2.1, HR.out.2.2.1, HR.out.2.2.2⟩
            case measure => omega
          | false =>
            have hcall := H0.out.2.2.2.2.2.2.1 ek xi (wr.alloc (.cells #[.string (BA ek), .int .i64 xi] 53))
            obtain ⟨b2, hb2v⟩ : ∃ b, entLt (ek, ei) (ek, xi) = b := ⟨_, rfl⟩
            rw [hb2v] at hcall
            have HL := Lib.hid (And.intro hb2v hcall)
            clear hb2v hcall
            go_wp2_with fail
            refine (show Calls _ _ _ _ _ from HL.out.2).mono ?_
            rintro r w2 ⟨rfl, hb2⟩
            have hbw2 := hbx.trans (hb2.mono hbx.size)
            have hk2 := hka.below hb2
            have hx2 := hxb.below hb2
            have ho2 := own_below hok hb2
            have hs2 : wr.heap.size + 1 ≤ w2.heap.size := by have := hb2.size; rw [hsz] at this; exact this
            cases b2 with
            | true =>
              obtain ⟨v3, w3, hrun, ho3, hon, hat⟩ := H0.out.2.2.2.2.2.2.2.1 ek ei w2 u8 s0 ho2 hs0 (by omega)
              have hb3 := hbw2.trans (hon.below hbw2.size (fun k hk e => by have := hown k e; have := H0.out.2.1; omega))
              have hk3 := hk2.only hon (fun e => by have := hown _ e; omega)
              have hx3 := hx2.only hon (fun e => by have := hown _ e; omega)
              have hs3 := hon.size
              obtain ⟨v4, w4, hrun4, ho4, hon4, hat4⟩ := H0.out.2.2.2.2.2.2.2.1 ek xi w3 v3 (s0 ++ [(ek, ei)]) ho3 (by rw [List.length_append, List.length_singleton]; have h := withSt_len (ek, ei) inn (l.take i); rw [← HS.out.1, List.length_take] at h; simp only at h; omega) (by omega)
              have hown3 : ∀ k, v3.ownBlock = some k → P0 + 1 ≤ k := fun k hk => (ho3.lt k hk).1
              have hb4 := hb3.trans (hon4.below hb3.size (fun k hk e => by have := hown3 k e; have := H0.out.2.1; omega))
              have hk4 := hk3.only hon4 (fun e => by have := hown3 _ e; omega)
              have HR := Lib.hid (And.intro hrun (And.intro hrun4 (And.intro ho4 (And.intro hb4 hk4))))
              have e0 := hk2.cell 0
              have e1 := hk2.cell 1
              have x0 := hx3.cell 0
              have x1 := hx3.cell 1
              clear hrun ho3 hon hat hb3 hk3 hx3 hs3 hrun4 ho4 hon4 hat4 hown3 hb4 hk4 hbw2 hk2 hx2 ho2 hs2 hb2 hbx hok hsz hka hown hxb
              go_wp2_with (first | (at_builtin; refine wpList_append_run rfl (.tmp 31) (.tmp 33) 46 rfl u8 (.slice (some ⟨w2.heap.size, 0, none⟩) 1 1) rfl rfl v3 w3 HR.out.1 ?_) | (at_builtin; refine wpList_append_run rfl (.tmp 35) (.tmp 37) 46 rfl v3 (.slice (some ⟨w3.heap.size, 0, none⟩) 1 1) rfl rfl v4 w4 HR.out.2.1 ?_))
              go_wp2
              go_roundg (gk - 1)
              case rel => exact ⟨i + 1, (s0 ++ [(ek, ei)] ++ [(ek, xi)], sw, true), by omega, rfl, rfl, rfl, by rw [withSt_take (ek, ei) inn l i hil, ← HS.out.1, HX.out.1]; unfold withStep; rw [if_neg HNE.out, if_pos ⟨rfl, HL.out.1⟩], HR.out.2.2.1, HR.out.2.2.2.1, HR.out.2.2.2.2⟩
              case measure => omega
            | false =>
              obtain ⟨v3, w3, hrun, ho3, hon, hat⟩ := H0.out.2.2.2.2.2.2.2.1 ek xi w2 u8 s0 ho2 hs0 (by omega)
              have hb3 := hbw2.trans (hon.below hbw2.size (fun k hk e => by have := hown k e; have := H0.out.2.1; omega))
              have hk3 := hk2.only hon (fun e => by have := hown _ e; omega)
              have HR := Lib.hid (And.intro hrun (And.intro ho3 (And.intro hb3 hk3)))
              have x0 := hx2.cell 0
              have x1 := hx2.cell 1
              clear hrun ho3 hon hat hb3 hk3 hbw2 hk2 hx2 ho2 hs2 hb2 hbx hok hsz hka hown hxb
              go_wp2_with (at_builtin; refine wpList_append_run rfl (.tmp 35) (.tmp 37) 46 rfl u8 (.slice (some ⟨w2.heap.size, 0, none⟩) 1 1) rfl rfl v3 w3 HR.out.1 ?_)
              go_wp2
              go_roundg (gk - 1)
              case rel => exact ⟨i + 1, (s0 ++ [(ek, xi)], sw, false), by omega, rfl, rfl, rfl, by rw [withSt_take (ek, ei) inn l i hil, ← HS.out.1, HX.out.1]; unfold withStep; rw [if_neg HNE.out, if_neg (by rw [HL.out.1]; simp)], HR.out.2.1, HR.out.2.2.1, HR.out.2.2.2⟩
              case measure => omega
        · have hbb : ¬ BA xk = BA ek := fun h => hkk (by have := congrArg (fun z : ByteArray => z.data.toList) h; simpa [BA] using this)
          have hb3 : ((BA xk).toList == (BA ek).toList) = false := by rw [Lib.toList_data, Lib.toList_data]; simpa [BA] using hkk
          have hb4 : ¬ (BA xk).toList = (BA ek).toList := by rw [Lib.toList_data, Lib.toList_data]; simpa [BA] using hkk
          clear hxe
          obtain ⟨s0, sw, sp⟩ := s
          have hbx := HS.out.2.2.1.alloc (o := (.cells #[.string (BA xk), .int .i64 xi] 53)) HS.out.2.2.1.size
          have hok := HS.out.2.1.alloc (.cells #[.string (BA xk), .int .i64 xi] 53)
          have hxb : Blk (wr.alloc (.cells #[.string (BA xk), .int .i64 xi] 53)) wr.heap.size 53 [.string (BA xk), .int .i64 xi] := heap_alloc_new wr _
          have hsz : (wr.alloc (.cells #[.string (BA xk), .int .i64 xi] 53)).heap.size = wr.heap.size + 1 := by simp
          have hP0 : P0 + 1 ≤ wr.heap.size := HS.out.2.2.2.lt
          have hs0 : s0.length ≤ 1000000 := by have h := withSt_len (ek, ei) inn (l.take i); rw [← HS.out.1, List.length_take] at h; simp only at h; omega
          have hown : ∀ k, u8.ownBlock = some k → P0 + 1 ≤ k ∧ k < wr.heap.size := fun k hk => HS.out.2.1.lt k hk
          cases sp with
          | true =>
            obtain ⟨v2, w3, hrun, ho2, hon, hat⟩ := H0.out.2.2.2.2.2.2.2.1 xk xi (wr.alloc (.cells #[.string (BA xk), .int .i64 xi] 53)) u8 s0 hok hs0 (by rw [hsz]; omega)
            rw [hsz] at hrun
            have hb3 := hbx.trans (hon.below hbx.size (fun k hk e => by have := hown k e; have := H0.out.2.1; omega))
            have hk3 := hka.only hon (fun e => by have := hown _ e; omega)
            have HR := Lib.hid (And.intro hrun (And.intro ho2 (And.intro hb3 hk3)))
            clear hrun ho2 hon hat hb3 hk3 hbx hok hsz hka hown hxb
            go_wp2_with (at_builtin; refine wpList_append_run rfl (.tmp 35) (.tmp 37) 46 rfl u8 (.slice (some ⟨wr.heap.size + 1, 0, none⟩) 1 1) rfl rfl v2 w3 HR.out.1 ?_)
            go_wp2
            go_roundg (gk - 1)
            case rel => exact ⟨i + 1, (s0 ++ [(xk, xi)], sw, true), by omega, rfl, rfl, rfl, by rw [withSt_take (ek, ei) inn l i hil, ← HS.out.1, HX.out.1]; unfold withStep; rw [if_neg HNE.out, if_neg (by simp)], HR.out.2.1, HR.out.2.2.1, HR.out.2.2.2⟩
            case measure => omega
          | false =>
            have hcall := H0.out.2.2.2.2.2.2.1 xk xi (wr.alloc (.cells #[.string (BA xk), .int .i64 xi] 53))
            obtain ⟨b2, hb2v⟩ : ∃ b, entLt (ek, ei) (xk, xi) = b := ⟨_, rfl⟩
            rw [hb2v] at hcall
            have HL := Lib.hid (And.intro hb2v hcall)
            clear hb2v hcall
            go_wp2_with fail
            refine (show Calls _ _ _ _ _ from HL.out.2).mono ?_
            rintro r w2 ⟨rfl, hb2⟩
            have hbw2 := hbx.trans (hb2.mono hbx.size)
            have hk2 := hka.below hb2
            have hx2 := hxb.below hb2
            have ho2 := own_below hok hb2
            have hs2 : wr.heap.size + 1 ≤ w2.heap.size := by have := hb2.size; rw [hsz] at this; exact this
            cases b2 with
            | true =>
              obtain ⟨v3, w3, hrun, ho3, hon, hat⟩ := H0.out.2.2.2.2.2.2.2.1 ek ei w2 u8 s0 ho2 hs0 (by omega)
              have hb3 := hbw2.trans (hon.below hbw2.size (fun k hk e => by have := hown k e; have := H0.out.2.1; omega))
              have hk3 := hk2.only hon (fun e => by have := hown _ e; omega)
              have hx3 := hx2.only hon (fun e => by have := hown _ e; omega)
              have hs3 := hon.size
              obtain ⟨v4, w4, hrun4, ho4, hon4, hat4⟩ := H0.out.2.2.2.2.2.2.2.1 xk xi w3 v3 (s0 ++ [(ek, ei)]) ho3 (by rw [List.length_append, List.length_singleton]; have h := withSt_len (ek, ei) inn (l.take i); rw [← HS.out.1, List.length_take] at h; simp only at h; omega) (by omega)
              have hown3 : ∀ k, v3.ownBlock = some k → P0 + 1 ≤ k := fun k hk => (ho3.lt k hk).1
              have hb4 := hb3.trans (hon4.below hb3.size (fun k hk e => by have := hown3 k e; have := H0.out.2.1; omega))
              have hk4 := hk3.only hon4 (fun e => by have := hown3 _ e; omega)
              have HR := Lib.hid (And.intro hrun (And.intro hrun4 (And.intro ho4 (And.intro hb4 hk4))))
              have e0 := hk2.cell 0
              have e1 := hk2.cell 1
              have x0 := hx3.cell 0
              have x1 := hx3.cell 1
              clear hrun ho3 hon hat hb3 hk3 hx3 hs3 hrun4 ho4 hon4 hat4 hown3 hb4 hk4 hbw2 hk2 hx2 ho2 hs2 hb2 hbx hok hsz hka hown hxb
              go_wp2_with (first | (at_builtin; refine wpList_append_run rfl (.tmp 31) (.tmp 33) 46 rfl u8 (.slice (some ⟨w2.heap.size, 0, none⟩) 1 1) rfl rfl v3 w3 HR.out.1 ?_) | (at_builtin; refine wpList_append_run rfl (.tmp 35) (.tmp 37) 46 rfl v3 (.slice (some ⟨w3.heap.size, 0, none⟩) 1 1) rfl rfl v4 w4 HR.out.2.1 ?_))
              go_wp2
              go_roundg (gk - 1)
              case rel => exact ⟨i + 1, (s0 ++ [(ek, ei)] ++ [(xk, xi)], sw, true), by omega, rfl, rfl, rfl, by rw [withSt_take (ek, ei) inn l i hil, ← HS.out.1, HX.out.1]; unfold withStep; rw [if_neg HNE.out, if_pos ⟨rfl, HL.out.1⟩], HR.out.2.2.1, HR.out.2.2.2.1, HR.out.2.2.2.2⟩
              case measure => omega
            | false =>
              obtain ⟨v3, w3, hrun, ho3, hon, hat⟩ := H0.out.2.2.2.2.2.2.2.1 xk xi w2 u8 s0 ho2 hs0 (by omega)
              have hb3 := hbw2.trans (hon.below hbw2.size (fun k hk e => by have := hown k e; have := H0.out.2.1; omega))
              have hk3 := hk2.only hon (fun e => by have := hown _ e; omega)
              have HR := Lib.hid (And.intro hrun (And.intro ho3 (And.intro hb3 hk3)))
              have x0 := hx2.cell 0
              have x1 := hx2.cell 1
              clear hrun ho3 hon hat hb3 hk3 hbw2 hk2 hx2 ho2 hs2 hb2 hbx hok hsz hka hown hxb
              go_wp2_with (at_builtin; refine wpList_append_run rfl (.tmp 35) (.tmp 37) 46 rfl u8 (.slice (some ⟨w2.heap.size, 0, none⟩) 1 1) rfl rfl v3 w3 HR.out.1 ?_)
              go_wp2
              go_roundg (gk - 1)
              case rel => exact ⟨i + 1, (s0 ++ [(xk, xi)], sw, false), by omega, rfl, rfl, rfl, by rw [withSt_take (ek, ei) inn l i hil, ← HS.out.1, HX.out.1]; unfold withStep; rw [if_neg HNE.out, if_neg (by rw [HL.out.1]; simp)], HR.out.2.1, HR.out.2.2.1, HR.out.2.2.2⟩
              case measure => omega
    · have hiz : ¬ (i : Int) < (n : Int) := by omega
      have hsl : s = withSt (ek, ei) inn l := by rw [HS.out.1, List.take_of_length_le (by have := H0.out.2.2.2.2.2.1; omega)]
      obtain ⟨s0, sw, sp⟩ := s
      have hwl : withL l (ek, ei) inn = if sp = false then s0 ++ [(ek, ei)] else s0 := by unfold withL; rw [← hsl]
      have hwb : withB l (ek, ei) inn = (sw != inn) := by unfold withB; rw [← hsl]
      have hs0 : s0.length ≤ 1000000 := by have h := withSt_len (ek, ei) inn l; rw [← hsl] at h; simp only at h; have := H0.out.2.2.2.2.2.1; omega
      have HW := Lib.hid (And.intro hwl hwb)
      clear hwl hwb
      cases sp with
      | true =>
        have HR := Lib.hid (And.intro (eread_of_own HS.out.2.1) HS.out.2.2.1)
        go_wp2
        go_ret2
        rw [HW.out.1, HW.out.2]
        exact ⟨_, rfl, by simpa using HR.out.1, HR.out.2, fun b hb => by have := (HS.out.2.1.lt b hb).1; have := H0.out.2.1; omega⟩
      | false =>
        have hown : ∀ k, u8.ownBlock = some k → P0 + 1 ≤ k := fun k hk => (HS.out.2.1.lt k hk).1
        obtain ⟨v3, w3, hrun, ho3, hon, hat⟩ := H0.out.2.2.2.2.2.2.2.1 ek ei wr u8 s0 HS.out.2.1 hs0 (by have := HS.out.2.2.2.lt; omega)
        have hb3 := HS.out.2.2.1.trans (hon.below HS.out.2.2.1.size (fun k hk e => by have := hown k e; have := H0.out.2.1; omega))
        have HR := Lib.hid (And.intro hrun (And.intro (eread_of_own ho3) (And.intro hb3 (show ∀ b, v3.ownBlock = some b → w.heap.size ≤ b from fun b hb => by have := (ho3.lt b hb).1; have := H0.out.2.1; omega))))
        have e0 := HS.out.2.2.2.cell 0
        have e1 := HS.out.2.2.2.cell 1
        clear hrun ho3 hon hat hb3 hown
        go_wp2_with (at_builtin; refine wpList_append_run rfl (.tmp 42) (.tmp 44) 46 rfl u8 (.slice (some ⟨wr.heap.size, 0, none⟩) 1 1) rfl rfl v3 w3 HR.out.1 ?_)
        go_ret2
        rw [HW.out.1, HW.out.2]
        exact ⟨_, rfl, by simpa using HR.out.2.1, HR.out.2.2.1, HR.out.2.2.2⟩
set_option maxHeartbeats 8000000 in
set_option maxRecDepth 100000 in
theorem iof_lo (N : ByteArray) (u : Bool) (k : Nat) (hk : k < 5) (w : World) (bh : Nat) (T : List DocT) (last : Int) (S : Nat → Prop) (hH : HRead w bh T last) (hpos : ∀ t ∈ T, 0 < t.id) (hv : ∀ t ∈ T, VAt S w t.v t.c) (hS : ∀ b, S b → b < w.heap.size)
    (hsm : ∀ t ∈ T, smallV t.v ∧ (keyL t.v).length ≤ 1000000) (hI : IxW w) :
    Calls Tryz.prog 21 #[.agg #[.string N, .string (BA (pathS k)), .bool u], .pointer (some ⟨bh, 0, none⟩)] w fun e w' => ∃ v, e = .returned v ∧ ERead w'.heap.size w' v (sortE (entsOf k T)) ∧ Below w.heap.size w w' ∧ ∀ b, v.ownBlock = some b → w.heap.size ≤ b := by
  obtain ⟨P0, hP0⟩ : ∃ P, w.heap.size = P := ⟨_, rfl⟩
  obtain ⟨W0, hW0⟩ : ∃ W, w.alloc (.cells #[.string N, .string (BA (pathS k)), .bool u] 23) = W := ⟨_, rfl⟩
  have hb0 : Below w.heap.size w W0 := by rw [← hW0]; exact (Below.refl _ w).alloc (Nat.le_refl _) _
  have hk0 : Blk W0 P0 23 [.string N, .string (BA (pathS k)), .bool u] := by rw [← hW0, ← hP0]; exact heap_alloc_new w _
  have hnx := next_rec W0 bh T last 0 (hH.later hb0)
  obtain ⟨n, hn⟩ : ∃ n, T.length = n := ⟨_, rfl⟩
  have hn1000 : n ≤ 1000 := by rw [← hn]; exact hH.few
  have hcall : ∀ W c (i : Nat) (h : i < T.length), Below w.heap.size w W → T[i].c = c → Calls Tryz.prog 13 #[.agg #[.string N, .string (BA (pathS k)), .bool u], .agg c.toArray] W fun e w' => e = .returned (OptK (findP placeK T[i].v (partS k))) ∧ Below W.heap.size W w' := fun W c i h hb hc => by
    have ht := List.getElem_mem h
    rw [← hc]
    exact ikey_any N u (pathS k) (partS k) (path_five k hk) T[i].v (hsm _ ht).1 S W _ ((hv _ ht).later hb) (fun b hb2 => Nat.lt_of_lt_of_le (hS b hb2) hb.size) (hI.errv.later hb) (hI.tabs.below hb) (hI.ml.later hb) (fun x hx => by have := find_key hx; have := (hsm _ ht).2; omega)
  have hnext : ∀ W (i : Nat) (h : i < T.length), Below w.heap.size w W → Calls Tryz.prog 46 #[.pointer (some ⟨bh, 0, none⟩), .int .i64 T[i].id] W fun e w' => e = .returned (.tuple #[.agg (docCells T (i + 1)).toArray, .bool (decide (i + 1 < n))]) ∧ Below W.heap.size W w' := fun W i h hb => by
    rw [← hn]
    refine (next_rec W bh T last _ (hH.later hb)).mono ?_
    rintro e w' ⟨hr, hb2⟩
    refine ⟨next_val hr (by omega) (fun j hj hji => ?_) (fun j hj hji => hH.rising i j h hj (by omega)), hb2⟩
    by_cases e : j = i
    · subst e; exact Int.le_refl _
    · exact Int.le_of_lt (hH.rising j i hj h (by omega))
  have hfirst : ∀ e, NextR T 0 e → e = .returned (.tuple #[.agg (docCells T 0).toArray, .bool (decide (0 < T.length))]) := fun e hr => next_val hr (by omega) (fun j hj hji => by omega) (fun j hj _ => hpos _ (List.getElem_mem hj))
  obtain ⟨PS, hPS⟩ : ∃ s, BA (pathS k) = s := ⟨_, rfl⟩
  rw [hPS] at hk0 hW0 ⊢
  rw [hPS] at hcall
  rw [hn] at hfirst
  have H0 := Lib.hid (And.intro hW0 (And.intro hP0 (And.intro hb0 (And.intro hk0 (And.intro hnx (And.intro hn (And.intro hcall (And.intro hnext (And.intro hfirst (And.intro hH.five hn1000))))))))))
  clear hW0 hP0 hb0 hk0 hnx hcall hnext hfirst hPS hv hS hsm hI hpos
  go_enter Tryz.func21, Tryz.ntmps21
  go_wp2_with fail
  rw [H0.out.1, H0.out.2.1]
  refine (show Calls _ _ _ _ _ from H0.out.2.2.2.2.1).mono ?_
  rintro e w1 ⟨hr, hb1⟩
  have he := H0.out.2.2.2.2.2.2.2.2.1 e hr
  subst he
  obtain ⟨pi, p0, p1, p2, p3, p4, p5, p6, p7, p8, hdc⟩ := docCells_shape H0.out.2.2.2.2.2.2.2.2.2.1 0
  rw [hdc]
  obtain ⟨w2, hw2⟩ : ∃ W, w1.alloc (.cells #[.int .i64 pi, .int .i64 p0, .int .i64 p1, .string p2, .slice p3 p4 p5, .slice p6 p7 p8] 90) = W := ⟨_, rfl⟩
  have hb12 : Below w1.heap.size w1 w2 := by rw [← hw2]; exact (Below.refl _ _).alloc (Nat.le_refl _) _
  have hst : OfAt w w2 P0 w1.heap.size bh k T last [.string N, .string PS, .bool u] (.slice none 0 0) 0 := by
    have hb01 := H0.out.2.2.1.trans (hb1.mono H0.out.2.2.1.size)
    refine ⟨hb01.trans (hb12.mono hb01.size), (H0.out.2.2.2.1.below hb1).below hb12, ?_, ?_, by simp [Value.ownBlock], ?_⟩
    · rw [hdc, ← hw2]; exact heap_alloc_new w1 _
    · exact World.ownsRow_nil _ _ _ _
    · have := H0.out.2.2.2.1.lt; have := hb1.size; omega
  have HST := Lib.hid (And.intro hst hw2)
  clear hst hw2 hb12 hb1 hr hdc hH
  go_wp2_with fail
  (try rw [HST.out.2])
  go_loopg [5, 6, 7] n (fun gk ov pv bv wr => ∃ (i B : Nat), gk + i = n ∧ pv = .pointer (some ⟨B, 0, none⟩) ∧ bv = .bool (decide (i < n)) ∧ OfAt w wr P0 B bh k T last [.string N, .string PS, .bool u] ov i)
  case atStart => exact ⟨0, w1.heap.size, by omega, rfl, rfl, HST.out.1⟩
  case round =>
    obtain ⟨i, B, hgi, rfl, rfl, hat⟩ := hrel
    have HA := Lib.hid hat
    clear hat
    have hnn := H0.out.2.2.2.2.2.1
    by_cases hi : i < n
    · rw [show decide (i < n) = true from decide_eq_true hi]
      have hil : i < T.length := by omega
      obtain ⟨t, ht⟩ : ∃ t, T[i] = t := ⟨_, rfl⟩
      obtain ⟨q0, q1, q2, q3, q4, q5, q6, q7, q8, hq⟩ := H0.out.2.2.2.2.2.2.2.2.2.1 t (by rw [← ht]; exact List.getElem_mem hil)
      have hdi : docCells T i = [.int .i64 t.id, .int .i64 q0, .int .i64 q1, .string q2, .slice q3 q4 q5, .slice q6 q7 q8] := by unfold docCells; rw [List.getElem?_eq_getElem hil, ht]; show _ :: t.c = _; rw [hq]
      have hbx := HA.out.box
      rw [hdi] at hbx
      have c0 := HA.out.spec.cell 0
      have c1 := HA.out.spec.cell 1
      have c2 := HA.out.spec.cell 2
      have x0 := hbx.cell 0
      have x1 := hbx.cell 1
      have x2 := hbx.cell 2
      have x3 := hbx.cell 3
      have x4 := hbx.cell 4
      have x5 := hbx.cell 5
      have hcall := H0.out.2.2.2.2.2.2.1 wr [.int .i64 q0, .int .i64 q1, .string q2, .slice q3 q4 q5, .slice q6 q7 q8] i hil HA.out.below (by rw [ht, hq])
      rw [ht] at hcall
      have hnext := fun W hb => H0.out.2.2.2.2.2.2.2.1 W i hil hb
      rw [ht] at hnext
      obtain ⟨id, hid⟩ : ∃ x, t.id = x := ⟨_, rfl⟩
      rw [hid] at x0 hnext hbx
      have HT := Lib.hid (And.intro hcall (And.intro hnext (And.intro ht (And.intro hid hbx))))
      clear hcall hnext ht hid hq hdi hbx
      go_wp2_with fail
      refine (show Calls _ _ _ _ _ from HT.out.1).mono ?_
      rintro e w3 ⟨rfl, hb3⟩
      have H3 := Lib.hid (And.intro (HA.out.below.trans (hb3.mono HA.out.below.size)) (And.intro (HA.out.spec.below hb3) (And.intro (HT.out.2.2.2.2.below hb3) (And.intro (own_below HA.out.own hb3) hb3.size))))
      clear hb3 c0 c1 c2 x0 x1 x2 x3 x4 x5
      cases hr : findP placeK t.v (partS k) with
      | none =>
        have hen : entsOf k (T.take (i + 1)) = entsOf k (T.take i) := by rw [entsOf_take k T i hil, HT.out.2.2.1]; unfold entOf; rw [hr]; simp
        have HW := Lib.hid (And.intro H3.out.1 (And.intro H3.out.2.1 (And.intro H3.out.2.2.1 (And.intro H3.out.2.2.2.1 HA.out.ne))))
        unfold OptK
        have y0 := HW.out.2.2.1.cell 0
        have y1 := HW.out.2.2.1.cell 1
        have y2 := HW.out.2.2.1.cell 2
        have y3 := HW.out.2.2.1.cell 3
        have y4 := HW.out.2.2.1.cell 4
        have y5 := HW.out.2.2.1.cell 5
        obtain ⟨B2, hB2⟩ : ∃ b, w3.heap.size = b := ⟨_, rfl⟩
        obtain ⟨w6, hw6⟩ : ∃ x, w3.alloc (.cells #[.int .i64 id, .int .i64 q0, .int .i64 q1, .string q2, .slice q3 q4 q5, .slice q6 q7 q8] 90) = x := ⟨_, rfl⟩
        have hb6 : Below w3.heap.size w3 w6 := by rw [← hw6]; exact (Below.refl _ _).alloc (Nat.le_refl _) _
        have hk6 : Blk w6 w3.heap.size 90 [.int .i64 id, .int .i64 q0, .int .i64 q1, .string q2, .slice q3 q4 q5, .slice q6 q7 q8] := by rw [← hw6]; exact heap_alloc_new w3 _
        have hbw6 := HW.out.1.trans (hb6.mono HW.out.1.size)
        have H6 := Lib.hid (And.intro hbw6 (And.intro (HW.out.2.1.below hb6) (And.intro hk6 (And.intro (own_below HW.out.2.2.2.1 hb6) (And.intro hB2 hw6)))))
        have z0 := hk6.cell 0
        clear hb6 hk6 hbw6 hB2
        go_wp2_with fail
        refine (show Calls _ _ _ _ _ from HT.out.2.1 w6 H6.out.1).mono ?_
        rintro e w7 ⟨rfl, hb7⟩
        obtain ⟨pi, p0, p1, p2, p3, p4, p5, p6, p7, p8, hdc⟩ := docCells_shape H0.out.2.2.2.2.2.2.2.2.2.1 (i + 1)
        rw [hdc]
        have hk7 := H6.out.2.2.1.below hb7
        have s0 := hk7.frozen 0
        have s1 := hk7.frozen 1
        have s2 := hk7.frozen 2
        have s3 := hk7.frozen 3
        have s4 := hk7.frozen 4
        have s5 := hk7.frozen 5
        have r0 := hk7.cell 0
        have r1 := hk7.cell 1
        have r2 := hk7.cell 2
        have r3 := hk7.cell 3
        have r4 := hk7.cell 4
        have r5 := hk7.cell 5
        obtain ⟨w8, hw8⟩ : ∃ x, ((((((w7.setCell ⟨w3.heap.size, 0, none⟩ (.int .i64 pi)).setCell ⟨w3.heap.size, 1, none⟩ (.int .i64 p0)).setCell ⟨w3.heap.size, 2, none⟩ (.int .i64 p1)).setCell ⟨w3.heap.size, 3, none⟩ (.string p2)).setCell ⟨w3.heap.size, 4, none⟩ (.slice p3 p4 p5)).setCell ⟨w3.heap.size, 5, none⟩ (.slice p6 p7 p8)) = x := ⟨_, rfl⟩
        obtain ⟨hk8, ho8⟩ := six_set hk7 hw8
        have hbw7 := H6.out.1.trans (hb7.mono H6.out.1.size)
        have hPW : P0 < w3.heap.size := HW.out.2.1.lt
        have hlt8 : ∀ b, (u5).ownBlock = some b → b < w3.heap.size := fun b hb => (HW.out.2.2.2.1.lt b hb).2
        have hat : OfAt w w8 P0 w3.heap.size bh k T last [.string N, .string PS, .bool u] u5 (i + 1) := by
          refine ⟨hbw7.trans (ho8.below hbw7.size (fun b hb e => by have := HW.out.1.size; omega)), ((H6.out.2.1.below hb7).only ho8 (fun e => by omega)), by rw [hdc]; exact hk8, ?_, fun e => by have := hlt8 _ e; omega, hPW⟩
          rw [hen]
          exact own_only (own_below H6.out.2.2.2.1 hb7) ho8 (fun b hb e => by have := hlt8 b hb; omega)
        have HAT := Lib.hid (And.intro hat hw8)
        clear hk7 hw8 hk8 ho8 hbw7 hPW hlt8 hat hb7 hdc y0 y1 y2 y3 y4 y5 z0
        go_wp2
        rw [HAT.out.2]
        clear s0 s1 s2 s3 s4 s5 r0 r1 r2 r3 r4 r5
        go_roundg (gk - 1)
        case rel => exact ⟨i + 1, w3.heap.size, by omega, rfl, rfl, HAT.out.1⟩
        case measure => omega
      | some xv =>
        have hen : entsOf k (T.take (i + 1)) = entsOf k (T.take i) ++ [(keyL xv, id)] := by rw [entsOf_take k T i hil, HT.out.2.2.1]; unfold entOf; rw [hr, HT.out.2.2.2.1]; simp
        obtain ⟨v4, w4, hrun, ho4, hg4, hat4⟩ := ent_append H3.out.2.2.2.1 (BA (keyL xv)) id (keyL xv, id) rfl (by have := entsOf_len k (T.take i); rw [List.length_take] at this; omega) (by have := H3.out.2.1.lt; omega)
        have hon : Only (fun b => u5.ownBlock = some b) w3 w4 := (Only.alloc _ w3 _).trans (Only.ofGrown hg4 (fun b hb => hb))
        have hlo : ∀ b, u5.ownBlock = some b → P0 + 1 ≤ b := fun b hb => (HA.out.own.lt b hb).1
        have HW := Lib.hid (And.intro (H3.out.1.trans (hon.below H3.out.1.size (fun b hb e => by have := hlo b e; have := H0.out.2.1; omega))) (And.intro (H3.out.2.1.only hon (fun e => by have := hlo _ e; omega)) (And.intro (H3.out.2.2.1.only hon (fun e => HA.out.ne e)) (And.intro ho4 hrun))))
        have b0 := H3.out.2.2.1.cell 0
        clear hrun ho4 hg4 hat4 hon hlo
        unfold OptK
        have y0 := HW.out.2.2.1.cell 0
        have y1 := HW.out.2.2.1.cell 1
        have y2 := HW.out.2.2.1.cell 2
        have y3 := HW.out.2.2.1.cell 3
        have y4 := HW.out.2.2.1.cell 4
        have y5 := HW.out.2.2.1.cell 5
        obtain ⟨B2, hB2⟩ : ∃ b, w4.heap.size = b := ⟨_, rfl⟩
        obtain ⟨w6, hw6⟩ : ∃ x, w4.alloc (.cells #[.int .i64 id, .int .i64 q0, .int .i64 q1, .string q2, .slice q3 q4 q5, .slice q6 q7 q8] 90) = x := ⟨_, rfl⟩
        have hb6 : Below w4.heap.size w4 w6 := by rw [← hw6]; exact (Below.refl _ _).alloc (Nat.le_refl _) _
        have hk6 : Blk w6 w4.heap.size 90 [.int .i64 id, .int .i64 q0, .int .i64 q1, .string q2, .slice q3 q4 q5, .slice q6 q7 q8] := by rw [← hw6]; exact heap_alloc_new w4 _
        have hbw6 := HW.out.1.trans (hb6.mono HW.out.1.size)
        have H6 := Lib.hid (And.intro hbw6 (And.intro (HW.out.2.1.below hb6) (And.intro hk6 (And.intro (own_below HW.out.2.2.2.1 hb6) (And.intro hB2 hw6)))))
        have z0 := hk6.cell 0
        clear hb6 hk6 hbw6 hB2
        go_wp2_with (at_builtin; refine wpList_append_run rfl (.tmp 31) (.tmp 36) 46 rfl u5 (.slice (some ⟨w3.heap.size, 0, none⟩) 1 1) rfl rfl v4 w4 HW.out.2.2.2.2 ?_)
        refine (show Calls _ _ _ _ _ from HT.out.2.1 w6 H6.out.1).mono ?_
        rintro e w7 ⟨rfl, hb7⟩
        obtain ⟨pi, p0, p1, p2, p3, p4, p5, p6, p7, p8, hdc⟩ := docCells_shape H0.out.2.2.2.2.2.2.2.2.2.1 (i + 1)
        rw [hdc]
        have hk7 := H6.out.2.2.1.below hb7
        have s0 := hk7.frozen 0
        have s1 := hk7.frozen 1
        have s2 := hk7.frozen 2
        have s3 := hk7.frozen 3
        have s4 := hk7.frozen 4
        have s5 := hk7.frozen 5
        have r0 := hk7.cell 0
        have r1 := hk7.cell 1
        have r2 := hk7.cell 2
        have r3 := hk7.cell 3
        have r4 := hk7.cell 4
        have r5 := hk7.cell 5
        obtain ⟨w8, hw8⟩ : ∃ x, ((((((w7.setCell ⟨w4.heap.size, 0, none⟩ (.int .i64 pi)).setCell ⟨w4.heap.size, 1, none⟩ (.int .i64 p0)).setCell ⟨w4.heap.size, 2, none⟩ (.int .i64 p1)).setCell ⟨w4.heap.size, 3, none⟩ (.string p2)).setCell ⟨w4.heap.size, 4, none⟩ (.slice p3 p4 p5)).setCell ⟨w4.heap.size, 5, none⟩ (.slice p6 p7 p8)) = x := ⟨_, rfl⟩
        obtain ⟨hk8, ho8⟩ := six_set hk7 hw8
        have hbw7 := H6.out.1.trans (hb7.mono H6.out.1.size)
        have hPW : P0 < w4.heap.size := HW.out.2.1.lt
        have hlt8 : ∀ b, (v4).ownBlock = some b → b < w4.heap.size := fun b hb => (HW.out.2.2.2.1.lt b hb).2
        have hat : OfAt w w8 P0 w4.heap.size bh k T last [.string N, .string PS, .bool u] v4 (i + 1) := by
          refine ⟨hbw7.trans (ho8.below hbw7.size (fun b hb e => by have := HW.out.1.size; omega)), ((H6.out.2.1.below hb7).only ho8 (fun e => by omega)), by rw [hdc]; exact hk8, ?_, fun e => by have := hlt8 _ e; omega, hPW⟩
          rw [hen]
          exact own_only (own_below H6.out.2.2.2.1 hb7) ho8 (fun b hb e => by have := hlt8 b hb; omega)
        have HAT := Lib.hid (And.intro hat hw8)
        clear hk7 hw8 hk8 ho8 hbw7 hPW hlt8 hat hb7 hdc y0 y1 y2 y3 y4 y5 z0
        go_wp2
        rw [HAT.out.2]
        clear s0 s1 s2 s3 s4 s5 r0 r1 r2 r3 r4 r5
        go_roundg (gk - 1)
        case rel => exact ⟨i + 1, w4.heap.size, by omega, rfl, rfl, HAT.out.1⟩
        case measure => omega
    · rw [show decide (i < n) = false from decide_eq_false hi]
      have hin : i = n := by omega
      have hown : wr.ownsRow (P0 + 1) 53 2 u5 (entsOf k T).length (entsC (entsOf k T)) := by
        have h := HA.out.own
        rw [List.take_of_length_le (by omega)] at h
        exact h
      have hsort := sort_ents (P0 + 1) u5 (entsOf k T) wr hown (by have := entsOf_len k T; omega)
      have HS := Lib.hid (And.intro hsort hown)
      clear hsort hown
      go_wp2_with fail
      refine (show Calls _ _ _ _ _ from HS.out.1).mono ?_
      rintro e w4 ⟨rfl, her, ho⟩
      have HR := Lib.hid (And.intro her (HA.out.below.trans (ho.below HA.out.below.size (fun b hb e => by have := (HS.out.2.lt b e).1; have := H0.out.2.1; omega))))
      clear her ho
      go_wp2
      go_ret
      exact ⟨_, rfl, HR.out.1, HR.out.2, fun b hb => by have := (HS.out.2.lt b hb).1; have := H0.out.2.1; omega⟩
end Go.Proofs.YtecnjifincahaaaGreatDoor
