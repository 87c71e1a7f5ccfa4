/- law08's With: entries in order, with one more, or without one. -/
import Derived.Test.YtecnjifincahaaaGreatDoorIyB
namespace Go.Proofs.YtecnjifincahaaaGreatDoor
open Go.Shelf Go.RowKit Go.Lib

def withStep (e : Ent) (s : List Ent × Bool × Bool) (x : Ent) : List Ent × Bool × Bool :=
  if x = e then (s.1, true, s.2.2) else if s.2.2 = false ∧ entLt e x = true then ((s.1 ++ [e]) ++ [x], s.2.1, true) else (s.1 ++ [x], s.2.1, s.2.2)
def withSt (e : Ent) (inn : Bool) (l : List Ent) : List Ent × Bool × Bool := l.foldl (withStep e) ([], false, !inn)
def withL (l : List Ent) (e : Ent) (inn : Bool) : List Ent := if (withSt e inn l).2.2 = false then (withSt e inn l).1 ++ [e] else (withSt e inn l).1
def withB (l : List Ent) (e : Ent) (inn : Bool) : Bool := (withSt e inn l).2.1 != inn
theorem withSt_take (e : Ent) (inn : Bool) (l : List Ent) (i : Nat) (h : i < l.length) : withSt e inn (l.take (i + 1)) = withStep e (withSt e inn (l.take i)) l[i] := by
  unfold withSt
  rw [List.take_succ_eq_append_getElem h, List.foldl_append]
  rfl
def withM (s : List Ent × Bool × Bool) : Nat := s.1.length + (if s.2.2 then 0 else 1)
theorem withStep_len (e : Ent) (s : List Ent × Bool × Bool) (x : Ent) : withM (withStep e s x) ≤ withM s + 1 := by
  unfold withStep withM
  split
  · exact Nat.le_succ _
  · split
    · rename_i h2
      rw [h2.1]
      simp
    · simp only [List.length_append, List.length_singleton]
      omega
theorem withFold_len (e : Ent) : ∀ (l : List Ent) (s : List Ent × Bool × Bool), withM (l.foldl (withStep e) s) ≤ withM s + l.length
  | [], s => by simp
  | x :: l, s => by
    have h1 := withFold_len e l (withStep e s x)
    have h2 := withStep_len e s x
    rw [List.foldl_cons, List.length_cons]
    omega
theorem withSt_len (e : Ent) (inn : Bool) (l : List Ent) : (withSt e inn l).1.length ≤ l.length + 1 := by
  have h := withFold_len e l ([], false, !inn)
  have h2 : withM ([], false, !inn) ≤ 1 := by unfold withM; cases inn <;> simp
  have h3 : (withSt e inn l).1.length ≤ withM (withSt e inn l) := by unfold withM; omega
  have h4 : withM (withSt e inn l) = withM (l.foldl (withStep e) ([], false, !inn)) := rfl
  omega

theorem own_below {w w2 : World} {B : Nat} {v : Value} {n : Nat} {xs : List Value} (h : w.ownsRow B 53 2 v n xs) (hb : Below w.heap.size w w2) : w2.ownsRow B 53 2 v n xs := by
  rcases h.2 with h1 | ⟨g, c, cur, h1, h2, h3, h4, h5, h6⟩
  · exact ⟨h.1, .inl h1⟩
  · exact ⟨h.1, .inr ⟨g, c, cur, h1, h2, (hb.block g (Array.getElem?_eq_some_iff.1 h3).1).trans h3, h4, h5, h6⟩⟩

set_option maxHeartbeats 8000000 in
set_option maxRecDepth 100000 in
theorem with_any (nb : Nat) (w : World) (sv : Value) (l : List Ent) (ek : BL) (ei : Int) (inn : Bool) (hnb : nb ≤ w.heap.size) (hl : l.length ≤ 100000) (h : ERead nb w sv l) :
    Calls Tryz.prog 24 #[sv, .agg #[.string (BA ek), .int .i64 ei], .bool inn] w fun r w' => ∃ v, r = .returned (.tuple #[v, .bool (withB l (ek, ei) inn)]) ∧ ERead w'.heap.size w' v (withL l (ek, ei) inn) ∧ Below w.heap.size w w' := by
  obtain ⟨W0, eW0⟩ : ∃ W, w.alloc (.cells #[.string (BA ek), .int .i64 ei] 53) = W := ⟨_, rfl⟩
  obtain ⟨P0, eP0⟩ : ∃ P, w.heap.size = P := ⟨_, rfl⟩
  have hb0 : Below w.heap.size w W0 := by rw [← eW0]; exact (Below.refl _ w).alloc (Nat.le_refl _) _
  have hk0 : Blk W0 P0 53 [.string (BA ek), .int .i64 ei] := by rw [← eW0, ← eP0]; exact heap_alloc_new w _
  obtain ⟨sa, cap, rfl, hcap, hx⟩ := h
  have hlt : ∀ (xk : BL) (xi : Int) (W : World), Calls Tryz.prog 50 #[.agg #[.string (BA ek), .int .i64 ei], .agg #[.string (BA xk), .int .i64 xi]] W fun r w' => r = .returned (.bool (entLt (ek, ei) (xk, xi))) ∧ Below W.heap.size W w' := fun xk xi W => below_any (ek, ei) (xk, xi) W
  have hap : ∀ (xk : BL) (xi : Int) (W : World) (v : Value) (o : List Ent), W.ownsRow (P0 + 1) 53 2 v o.length (entsC o) → o.length ≤ 1000000 → P0 + 1 ≤ W.heap.size → ∃ v' w', (∀ ty, (Builtin.append_ #[46, 46] ty #[v, .slice (some ⟨W.heap.size, 0, none⟩) 1 1]).run Tryz.prog (W.alloc (.cells #[.string (BA xk), .int .i64 xi] 53)) = .ok v' w') ∧ w'.ownsRow (P0 + 1) 53 2 v' (o ++ [(xk, xi)]).length (entsC (o ++ [(xk, xi)])) ∧ Only (fun k => v.ownBlock = some k) W w' ∧ (v'.ownBlock = v.ownBlock ∨ v'.ownBlock = some (W.heap.size + 1)) :=
    fun xk xi W v o ho hlen hb => by
      obtain ⟨v', w', hr, ho', hg, hat⟩ := ent_append ho (BA xk) xi (xk, xi) rfl hlen hb
      exact ⟨v', w', hr, ho', (Only.alloc _ W _).trans (Only.ofGrown hg (fun k hk => hk)), hat⟩
  obtain ⟨n, hn⟩ : ∃ n, l.length = n := ⟨_, rfl⟩
  rw [hn] at hl hcap ⊢
  have H0 := Lib.hid (And.intro eW0 (And.intro eP0 (And.intro hb0 (And.intro hk0 (And.intro hx (And.intro hn (And.intro hlt (And.intro hap hnb))))))))
  clear eW0 eP0 hb0 hk0 hx hn hlt hap hnb
  go_enter Tryz.func24, Tryz.ntmps24
  go_wp2_with fail
  rw [H0.out.1, H0.out.2.1]
  go_loopg [8, 9, 10, 17] n (fun gk ov bw bp iv wr => ∃ (i : Nat) (s : List Ent × Bool × Bool), gk + i = n ∧ iv = .int .i64 i ∧ bw = .bool s.2.1 ∧ bp = .bool s.2.2 ∧ s = withSt (ek, ei) inn (l.take i) ∧ wr.ownsRow (P0 + 1) 53 2 ov s.1.length (entsC s.1) ∧ Below w.heap.size w wr ∧ Blk wr P0 53 [.string (BA ek), .int .i64 ei])
  case atStart => exact ⟨0, ([], false, !inn), by omega, rfl, rfl, rfl, rfl, World.ownsRow_nil _ _ _ _, H0.out.2.2.1, H0.out.2.2.2.1⟩
  case round =>
    obtain ⟨i, s, hgi, rfl, rfl, rfl, hs, hown, hbw, hkr⟩ := hrel
    have HS := Lib.hid (And.intro hs (And.intro hown (And.intro hbw hkr)))
    clear hs hown hbw hkr
    by_cases hi : i < n
    · have hil : i < l.length := by rw [H0.out.2.2.2.2.2.1]; exact hi
      have hiz : (i : Int) < (n : Int) := by omega
      obtain ⟨b, off, rfl, hbn, hcells⟩ := H0.out.2.2.2.2.1 (by have := H0.out.2.2.2.2.2.1; omega)
      have hc := hcells i hil
      obtain ⟨⟨xk, xi⟩, hxd⟩ : ∃ x, l[i] = x := ⟨_, rfl⟩
      rw [hxd] at hc
      simp only at hc
      have hwK : IntKind.i64.wrap ((i : Int) + 1) = ((i + 1 : Nat) : Int) := by rw [IntWalk.i64_in _ (by omega)]; omega
      have hbw2 : Below nb w wr := HS.out.2.2.1.mono H0.out.2.2.2.2.2.2.2.2
      have f0 : wr.cell? ⟨b, off + i * 2, none⟩ = some (.string (BA xk)) := (World.cell?_of_block (hbw2.block b hbn)).trans hc.1
      have f1 : wr.cell? ⟨b, off + i * 2 + 1, none⟩ = some (.int .i64 xi) := (World.cell?_of_block (hbw2.block b hbn)).trans hc.2
      have hka := HS.out.2.2.2.alloc (.cells #[.string (BA xk), .int .i64 xi] 53)
      have e0 := hka.cell 0
      have e1 := hka.cell 1
      have HX := Lib.hid (And.intro hxd (And.intro hbn hcells))
      clear hc hbw2 hxd hcells hbn
      by_cases hxe : ((xk, xi) : Ent) = (ek, ei)
      · have h1 : xk = ek := congrArg Prod.fst hxe
        have h2 : xi = ei := congrArg Prod.snd hxe
        subst xk xi
        clear hxe
        obtain ⟨s0, sw, sp⟩ := s
        have hbx := HS.out.2.2.1.alloc (o := (.cells #[.string (BA ek), .int .i64 ei] 53)) HS.out.2.2.1.size
        have hok := HS.out.2.1.alloc (.cells #[.string (BA ek), .int .i64 ei] 53)
        have HB := Lib.hid (And.intro hbx (And.intro hok hka))
        clear hbx hok hka
        go_wp2
        go_roundg (gk - 1)
        case rel => exact ⟨i + 1, (s0, true, sp), by omega, rfl, rfl, rfl, by rw [withSt_take (ek, ei) inn l i hil, ← HS.out.1, HX.out.1]; unfold withStep; rw [if_pos rfl], HB.out.2.1, HB.out.1, HB.out.2.2⟩
        case measure => omega
      · have HNE := Lib.hid hxe
        by_cases hkk : xk = ek
        · have hii : ¬ xi = ei := fun h => HNE.out (by rw [hkk, h])
          subst xk
          clear hxe
          obtain ⟨s0, sw, sp⟩ := s
          have hbx := HS.out.2.2.1.alloc (o := (.cells #[.string (BA ek), .int .i64 xi] 53)) HS.out.2.2.1.size
          have hok := HS.out.2.1.alloc (.cells #[.string (BA ek), .int .i64 xi] 53)
          have hxb : Blk (wr.alloc (.cells #[.string (BA ek), .int .i64 xi] 53)) wr.heap.size 53 [.string (BA ek), .int .i64 xi] := heap_alloc_new wr _
          have hsz : (wr.alloc (.cells #[.string (BA ek), .int .i64 xi] 53)).heap.size = wr.heap.size + 1 := by simp
          have hP0 : P0 + 1 ≤ wr.heap.size := HS.out.2.2.2.lt
          have hs0 : s0.length ≤ 1000000 := by have h := withSt_len (ek, ei) inn (l.take i); rw [← HS.out.1, List.length_take] at h; simp only at h; omega
          have hown : ∀ k, u8.ownBlock = some k → P0 + 1 ≤ k ∧ k < wr.heap.size := fun k hk => HS.out.2.1.lt k hk
          cases sp with
          | true =>
            obtain ⟨v2, w3, hrun, ho2, hon, hat⟩ := H0.out.2.2.2.2.2.2.2.1 ek xi (wr.alloc (.cells #[.string (BA ek), .int .i64 xi] 53)) u8 s0 hok hs0 (by rw [hsz]; omega)
            rw [hsz] at hrun
            have hb3 := hbx.trans (hon.below hbx.size (fun k hk e => by have := hown k e; have := H0.out.2.1; omega))
            have hk3 := hka.only hon (fun e => by have := hown _ e; omega)
            have HR := Lib.hid (And.intro hrun (And.intro ho2 (And.intro hb3 hk3)))
            clear hrun ho2 hon hat hb3 hk3 hbx hok hsz hka hown hxb
            go_wp2_with (at_builtin; refine wpList_append_run rfl (.tmp 35) (.tmp 37) 46 rfl u8 (.slice (some ⟨wr.heap.size + 1, 0, none⟩) 1 1) rfl rfl v2 w3 HR.out.1 ?_)
            go_wp2
            go_roundg (gk - 1)
            case rel => exact ⟨i + 1, (s0 ++ [(ek, xi)], sw, true), by omega, rfl, rfl, rfl, by rw [withSt_take (ek, ei) inn l i hil, ← HS.out.1, HX.out.1]; unfold withStep; rw [if_neg HNE.out, if_neg (by simp)], HR.out.2.1, HR.out.2.2.1, HR.out.2.2.2⟩
            case measure => omega
          | false =>
            have hcall := H0.out.2.2.2.2.2.2.1 ek xi (wr.alloc (.cells #[.string (BA ek), .int .i64 xi] 53))
            obtain ⟨b2, hb2v⟩ : ∃ b, entLt (ek, ei) (ek, xi) = b := ⟨_, rfl⟩
            rw [hb2v] at hcall
            have HL := Lib.hid (And.intro hb2v hcall)
            clear hb2v hcall
            go_wp2_with fail
            refine (show Calls _ _ _ _ _ from HL.out.2).mono ?_
            rintro r w2 ⟨rfl, hb2⟩
            have hbw2 := hbx.trans (hb2.mono hbx.size)
            have hk2 := hka.below hb2
            have hx2 := hxb.below hb2
            have ho2 := own_below hok hb2
            have hs2 : wr.heap.size + 1 ≤ w2.heap.size := by have := hb2.size; rw [hsz] at this; exact this
            cases b2 with
            | true =>
              obtain ⟨v3, w3, hrun, ho3, hon, hat⟩ := H0.out.2.2.2.2.2.2.2.1 ek ei w2 u8 s0 ho2 hs0 (by omega)
              have hb3 := hbw2.trans (hon.below hbw2.size (fun k hk e => by have := hown k e; have := H0.out.2.1; omega))
              have hk3 := hk2.only hon (fun e => by have := hown _ e; omega)
              have hx3 := hx2.only hon (fun e => by have := hown _ e; omega)
              have hs3 := hon.size
              obtain ⟨v4, w4, hrun4, ho4, hon4, hat4⟩ := H0.out.2.2.2.2.2.2.2.1 ek xi w3 v3 (s0 ++ [(ek, ei)]) ho3 (by rw [List.length_append, List.length_singleton]; have h := withSt_len (ek, ei) inn (l.take i); rw [← HS.out.1, List.length_take] at h; simp only at h; omega) (by omega)
              have hown3 : ∀ k, v3.ownBlock = some k → P0 + 1 ≤ k := fun k hk => (ho3.lt k hk).1
              have hb4 := hb3.trans (hon4.below hb3.size (fun k hk e => by have := hown3 k e; have := H0.out.2.1; omega))
              have hk4 := hk3.only hon4 (fun e => by have := hown3 _ e; omega)
              have HR := Lib.hid (And.intro hrun (And.intro hrun4 (And.intro ho4 (And.intro hb4 hk4))))
              have e0 := hk2.cell 0
              have e1 := hk2.cell 1
              have x0 := hx3.cell 0
              have x1 := hx3.cell 1
              clear hrun ho3 hon hat hb3 hk3 hx3 hs3 hrun4 ho4 hon4 hat4 hown3 hb4 hk4 hbw2 hk2 hx2 ho2 hs2 hb2 hbx hok hsz hka hown hxb
              go_wp2_with (first | (at_builtin; refine wpList_append_run rfl (.tmp 31) (.tmp 33) 46 rfl u8 (.slice (some ⟨w2.heap.size, 0, none⟩) 1 1) rfl rfl v3 w3 HR.out.1 ?_) | (at_builtin; refine wpList_append_run rfl (.tmp 35) (.tmp 37) 46 rfl v3 (.slice (some ⟨w3.heap.size, 0, none⟩) 1 1) rfl rfl v4 w4 HR.out.2.1 ?_))
              go_wp2
              go_roundg (gk - 1)
              case rel => exact ⟨i + 1, (s0 ++ [(ek, ei)] ++ [(ek, xi)], sw, true), by omega, rfl, rfl, rfl, by rw [withSt_take (ek, ei) inn l i hil, ← HS.out.1, HX.out.1]; unfold withStep; rw [if_neg HNE.out, if_pos ⟨rfl, HL.out.1⟩], HR.out.2.2.1, HR.out.2.2.2.1, HR.out.2.2.2.2⟩
              case measure => omega
            | false =>
              obtain ⟨v3, w3, hrun, ho3, hon, hat⟩ := H0.out.2.2.2.2.2.2.2.1 ek xi w2 u8 s0 ho2 hs0 (by omega)
              have hb3 := hbw2.trans (hon.below hbw2.size (fun k hk e => by have := hown k e; have := H0.out.2.1; omega))
              have hk3 := hk2.only hon (fun e => by have := hown _ e; omega)
              have HR := Lib.hid (And.intro hrun (And.intro ho3 (And.intro hb3 hk3)))
              have x0 := hx2.cell 0
              have x1 := hx2.cell 1
              clear hrun ho3 hon hat hb3 hk3 hbw2 hk2 hx2 ho2 hs2 hb2 hbx hok hsz hka hown hxb
              go_wp2_with (at_builtin; refine wpList_append_run rfl (.tmp 35) (.tmp 37) 46 rfl u8 (.slice (some ⟨w2.heap.size, 0, none⟩) 1 1) rfl rfl v3 w3 HR.out.1 ?_)
              go_wp2
              go_roundg (gk - 1)
              case rel => exact ⟨i + 1, (s0 ++ [(ek, xi)], sw, false), by omega, rfl, rfl, rfl, by rw [withSt_take (ek, ei) inn l i hil, ← HS.out.1, HX.out.1]; unfold withStep; rw [if_neg HNE.out, if_neg (by rw [HL.out.1]; simp)], HR.out.2.1, HR.out.2.2.1, HR.out.2.2.2⟩
              case measure => omega
        · have hbb : ¬ BA xk = BA ek := fun h => hkk (by have := congrArg (fun z : ByteArray => z.data.toList) h; simpa [BA] using this)
          have hb3 : ((BA xk).toList == (BA ek).toList) = false := by rw [Lib.toList_data, Lib.toList_data]; simpa [BA] using hkk
          have hb4 : ¬ (BA xk).toList = (BA ek).toList := by rw [Lib.toList_data, Lib.toList_data]; simpa [BA] using hkk
          clear hxe
          obtain ⟨s0, sw, sp⟩ := s
          have hbx := HS.out.2.2.1.alloc (o := (.cells #[.string (BA xk), .int .i64 xi] 53)) HS.out.2.2.1.size
          have hok := HS.out.2.1.alloc (.cells #[.string (BA xk), .int .i64 xi] 53)
          have hxb : Blk (wr.alloc (.cells #[.string (BA xk), .int .i64 xi] 53)) wr.heap.size 53 [.string (BA xk), .int .i64 xi] := heap_alloc_new wr _
          have hsz : (wr.alloc (.cells #[.string (BA xk), .int .i64 xi] 53)).heap.size = wr.heap.size + 1 := by simp
          have hP0 : P0 + 1 ≤ wr.heap.size := HS.out.2.2.2.lt
          have hs0 : s0.length ≤ 1000000 := by have h := withSt_len (ek, ei) inn (l.take i); rw [← HS.out.1, List.length_take] at h; simp only at h; omega
          have hown : ∀ k, u8.ownBlock = some k → P0 + 1 ≤ k ∧ k < wr.heap.size := fun k hk => HS.out.2.1.lt k hk
          cases sp with
          | true =>
            obtain ⟨v2, w3, hrun, ho2, hon, hat⟩ := H0.out.2.2.2.2.2.2.2.1 xk xi (wr.alloc (.cells #[.string (BA xk), .int .i64 xi] 53)) u8 s0 hok hs0 (by rw [hsz]; omega)
            rw [hsz] at hrun
            have hb3 := hbx.trans (hon.below hbx.size (fun k hk e => by have := hown k e; have := H0.out.2.1; omega))
            have hk3 := hka.only hon (fun e => by have := hown _ e; omega)
            have HR := Lib.hid (And.intro hrun (And.intro ho2 (And.intro hb3 hk3)))
            clear hrun ho2 hon hat hb3 hk3 hbx hok hsz hka hown hxb
            go_wp2_with (at_builtin; refine wpList_append_run rfl (.tmp 35) (.tmp 37) 46 rfl u8 (.slice (some ⟨wr.heap.size + 1, 0, none⟩) 1 1) rfl rfl v2 w3 HR.out.1 ?_)
            go_wp2
            go_roundg (gk - 1)
            case rel => exact ⟨i + 1, (s0 ++ [(xk, xi)], sw, true), by omega, rfl, rfl, rfl, by rw [withSt_take (ek, ei) inn l i hil, ← HS.out.1, HX.out.1]; unfold withStep; rw [if_neg HNE.out, if_neg (by simp)], HR.out.2.1, HR.out.2.2.1, HR.out.2.2.2⟩
            case measure => omega
          | false =>
            have hcall := H0.out.2.2.2.2.2.2.1 xk xi (wr.alloc (.cells #[.string (BA xk), .int .i64 xi] 53))
            obtain ⟨b2, hb2v⟩ : ∃ b, entLt (ek, ei) (xk, xi) = b := ⟨_, rfl⟩
            rw [hb2v] at hcall
            have HL := Lib.hid (And.intro hb2v hcall)
            clear hb2v hcall
            go_wp2_with fail
            refine (show Calls _ _ _ _ _ from HL.out.2).mono ?_
            rintro r w2 ⟨rfl, hb2⟩
            have hbw2 := hbx.trans (hb2.mono hbx.size)
            have hk2 := hka.below hb2
            have hx2 := hxb.below hb2
            have ho2 := own_below hok hb2
            have hs2 : wr.heap.size + 1 ≤ w2.heap.size := by have := hb2.size; rw [hsz] at this; exact this
            cases b2 with
            | true =>
              obtain ⟨v3, w3, hrun, ho3, hon, hat⟩ := H0.out.2.2.2.2.2.2.2.1 ek ei w2 u8 s0 ho2 hs0 (by omega)
              have hb3 := hbw2.trans (hon.below hbw2.size (fun k hk e => by have := hown k e; have := H0.out.2.1; omega))
              have hk3 := hk2.only hon (fun e => by have := hown _ e; omega)
              have hx3 := hx2.only hon (fun e => by have := hown _ e; omega)
              have hs3 := hon.size
              obtain ⟨v4, w4, hrun4, ho4, hon4, hat4⟩ := H0.out.2.2.2.2.2.2.2.1 xk xi w3 v3 (s0 ++ [(ek, ei)]) ho3 (by rw [List.length_append, List.length_singleton]; have h := withSt_len (ek, ei) inn (l.take i); rw [← HS.out.1, List.length_take] at h; simp only at h; omega) (by omega)
              have hown3 : ∀ k, v3.ownBlock = some k → P0 + 1 ≤ k := fun k hk => (ho3.lt k hk).1
              have hb4 := hb3.trans (hon4.below hb3.size (fun k hk e => by have := hown3 k e; have := H0.out.2.1; omega))
              have hk4 := hk3.only hon4 (fun e => by have := hown3 _ e; omega)
              have HR := Lib.hid (And.intro hrun (And.intro hrun4 (And.intro ho4 (And.intro hb4 hk4))))
              have e0 := hk2.cell 0
              have e1 := hk2.cell 1
              have x0 := hx3.cell 0
              have x1 := hx3.cell 1
              clear hrun ho3 hon hat hb3 hk3 hx3 hs3 hrun4 ho4 hon4 hat4 hown3 hb4 hk4 hbw2 hk2 hx2 ho2 hs2 hb2 hbx hok hsz hka hown hxb
              go_wp2_with (first | (at_builtin; refine wpList_append_run rfl (.tmp 31) (.tmp 33) 46 rfl u8 (.slice (some ⟨w2.heap.size, 0, none⟩) 1 1) rfl rfl v3 w3 HR.out.1 ?_) | (at_builtin; refine wpList_append_run rfl (.tmp 35) (.tmp 37) 46 rfl v3 (.slice (some ⟨w3.heap.size, 0, none⟩) 1 1) rfl rfl v4 w4 HR.out.2.1 ?_))
              go_wp2
              go_roundg (gk - 1)
              case rel => exact ⟨i + 1, (s0 ++ [(ek, ei)] ++ [(xk, xi)], sw, true), by omega, rfl, rfl, rfl, by rw [withSt_take (ek, ei) inn l i hil, ← HS.out.1, HX.out.1]; unfold withStep; rw [if_neg HNE.out, if_pos ⟨rfl, HL.out.1⟩], HR.out.2.2.1, HR.out.2.2.2.1, HR.out.2.2.2.2⟩
              case measure => omega
            | false =>
              obtain ⟨v3, w3, hrun, ho3, hon, hat⟩ := H0.out.2.2.2.2.2.2.2.1 xk xi w2 u8 s0 ho2 hs0 (by omega)
              have hb3 := hbw2.trans (hon.below hbw2.size (fun k hk e => by have := hown k e; have := H0.out.2.1; omega))
              have hk3 := hk2.only hon (fun e => by have := hown _ e; omega)
              have HR := Lib.hid (And.intro hrun (And.intro ho3 (And.intro hb3 hk3)))
              have x0 := hx2.cell 0
              have x1 := hx2.cell 1
              clear hrun ho3 hon hat hb3 hk3 hbw2 hk2 hx2 ho2 hs2 hb2 hbx hok hsz hka hown hxb
              go_wp2_with (at_builtin; refine wpList_append_run rfl (.tmp 35) (.tmp 37) 46 rfl u8 (.slice (some ⟨w2.heap.size, 0, none⟩) 1 1) rfl rfl v3 w3 HR.out.1 ?_)
              go_wp2
              go_roundg (gk - 1)
              case rel => exact ⟨i + 1, (s0 ++ [(xk, xi)], sw, false), by omega, rfl, rfl, rfl, by rw [withSt_take (ek, ei) inn l i hil, ← HS.out.1, HX.out.1]; unfold withStep; rw [if_neg HNE.out, if_neg (by rw [HL.out.1]; simp)], HR.out.2.1, HR.out.2.2.1, HR.out.2.2.2⟩
              case measure => omega
    · have hiz : ¬ (i : Int) < (n : Int) := by omega
      have hsl : s = withSt (ek, ei) inn l := by rw [HS.out.1, List.take_of_length_le (by have := H0.out.2.2.2.2.2.1; omega)]
      obtain ⟨s0, sw, sp⟩ := s
      have hwl : withL l (ek, ei) inn = if sp = false then s0 ++ [(ek, ei)] else s0 := by unfold withL; rw [← hsl]
      have hwb : withB l (ek, ei) inn = (sw != inn) := by unfold withB; rw [← hsl]
      have hs0 : s0.length ≤ 1000000 := by have h := withSt_len (ek, ei) inn l; rw [← hsl] at h; simp only at h; have := H0.out.2.2.2.2.2.1; omega
      have HW := Lib.hid (And.intro hwl hwb)
      clear hwl hwb
      cases sp with
      | true =>
        have HR := Lib.hid (And.intro (eread_of_own HS.out.2.1) HS.out.2.2.1)
        go_wp2
        go_ret2
        rw [HW.out.1, HW.out.2]
        exact ⟨_, rfl, by simpa using HR.out.1, HR.out.2⟩
      | false =>
        have hown : ∀ k, u8.ownBlock = some k → P0 + 1 ≤ k := fun k hk => (HS.out.2.1.lt k hk).1
        obtain ⟨v3, w3, hrun, ho3, hon, hat⟩ := H0.out.2.2.2.2.2.2.2.1 ek ei wr u8 s0 HS.out.2.1 hs0 (by have := HS.out.2.2.2.lt; omega)
        have hb3 := HS.out.2.2.1.trans (hon.below HS.out.2.2.1.size (fun k hk e => by have := hown k e; have := H0.out.2.1; omega))
        have HR := Lib.hid (And.intro hrun (And.intro (eread_of_own ho3) hb3))
        have e0 := HS.out.2.2.2.cell 0
        have e1 := HS.out.2.2.2.cell 1
        clear hrun ho3 hon hat hb3 hown
        go_wp2_with (at_builtin; refine wpList_append_run rfl (.tmp 42) (.tmp 44) 46 rfl u8 (.slice (some ⟨wr.heap.size, 0, none⟩) 1 1) rfl rfl v3 w3 HR.out.1 ?_)
        go_ret2
        rw [HW.out.1, HW.out.2]
        exact ⟨_, rfl, by simpa using HR.out.2.1, HR.out.2.2⟩
end Go.Proofs.YtecnjifincahaaaGreatDoor
