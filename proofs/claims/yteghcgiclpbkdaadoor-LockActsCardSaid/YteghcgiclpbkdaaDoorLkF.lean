/- LockFair: the law's walk. -/
import Derived.Test.YteghcgiclpbkdaaDoorLkG
namespace Go.Proofs.YteghcgiclpbkdaaDoor
open Go.RowKit

theorem own_one (w : World) (x : Int) : (w.alloc (.cells #[.int .i64 x] 2)).ownsRow w.heap.size 2 1 (.slice (some ⟨w.heap.size, 0, none⟩) 1 1) [x].length (i64s [x]) :=
  ⟨by simp [i64s], .inr ⟨w.heap.size, 1, #[.int .i64 x], rfl, Nat.le_refl _, heap_alloc_new w _, Nat.le_refl _, by decide, by simp, by simp [i64s]⟩⟩
theorem own_le {w : World} {b b2 n size : Nat} {e : TypeId} {v : Value} {xs : List Value} (h : w.ownsRow b e size v n xs) (hb : b2 ≤ b) : w.ownsRow b2 e size v n xs := by
  obtain ⟨h1, h⟩ := h
  rcases h with h | ⟨g, cap, cur, h2, h3, h4⟩
  · exact ⟨h1, .inl h⟩
  · exact ⟨h1, .inr ⟨g, cap, cur, h2, by omega, h4⟩⟩
theorem fairN_some {s : QS} {g : Int × Int} (h : s.1[s.1.length / 2]? = some g) : fairS s = (freeS s g.1, (freeQ s.1 s.2 g.1).2.2) := by unfold fairS; rw [h]

structure FairAt (B : Nat) (w : World) (q : Nat) (s : QS) (uv : Value) (o : List Int) (wv : Value) (ws : List Int) : Prop where
  q : QRep (fun b => B ≤ b ∧ b < w.heap.size ∧ uv.ownBlock ≠ some b ∧ wv.ownBlock ≠ some b) w q s.1 s.2
  u : w.ownsRow B 2 1 uv o.length (i64s o)
  v : w.ownsRow B 2 1 wv ws.length (i64s ws)
  ne : ∀ g, uv.ownBlock = some g → wv.ownBlock ≠ some g
section
variable {B : Nat} {w : World} {q : Nat} {s : QS} {uv wv : Value} {o ws : List Int}
theorem FairAt.below {w2 : World} (h : FairAt B w q s uv o wv ws) (hb : Below w.heap.size w w2) : FairAt B w2 q s uv o wv ws :=
  ⟨(h.q.below hb).mono (fun _ _ hs => ⟨hs.1, Nat.lt_of_lt_of_le hs.2.1 hb.size, hs.2.2⟩), own_below h.u hb, own_below h.v hb, h.ne⟩
theorem FairAt.free {w5 w6 : World} {v5 v6 : Value} {s2 : QS} {o5 : List Int} (h : FairAt B w q s uv o wv ws)
    (hq5 : QRep (fun b => (B ≤ b ∧ b < w.heap.size ∧ uv.ownBlock ≠ some b ∧ wv.ownBlock ≠ some b) ∨ (w.heap.size ≤ b ∧ v5.ownBlock ≠ some b)) w5 q s2.1 s2.2)
    (ho : Only (fun b => B ≤ b ∧ b < w.heap.size ∧ uv.ownBlock ≠ some b ∧ wv.ownBlock ≠ some b) w w5) (hB : B ≤ w.heap.size)
    (hg : w5.grownBy w6 uv.ownBlock) (h6 : w6.ownsRow B 2 1 v6 (o ++ o5).length (i64s (o ++ o5))) (hat : v6.ownBlock = uv.ownBlock ∨ v6.ownBlock = some w5.heap.size) : FairAt B w6 q s2 v6 (o ++ o5) wv ws := by
  have hsz := ho.size
  have hsz6 := hg.size
  have hul : ∀ g, uv.ownBlock = some g → g < w.heap.size := fun g e => (h.u.lt g e).2
  have hvl : ∀ g, wv.ownBlock = some g → g < w.heap.size := fun g e => (h.v.lt g e).2
  have hq5' : QRep (fun b => B ≤ b ∧ b < w5.heap.size ∧ uv.ownBlock ≠ some b ∧ wv.ownBlock ≠ some b) w5 q s2.1 s2.2 := hq5.mono (fun b hb hs => by
    rcases hs with hs | ⟨hs, _⟩
    · exact ⟨hs.1, hb, hs.2.2⟩
    · exact ⟨by omega, hb, fun e => by have := hul b e; omega, fun e => by have := hvl b e; omega⟩)
  have hq6 := hq5'.only (Only.ofGrown (S := fun b => uv.ownBlock = some b) hg (fun k e => e)) (fun b hs e => hs.2.2.1 e)
  refine ⟨hq6.mono (fun _ hb hs => ⟨hs.1, hb, fun e => ?_, hs.2.2.2⟩), h6, ?_, fun g e => ?_⟩
  · rcases hat with h1 | h1
    · exact hs.2.2.1 (h1 ▸ e)
    · rw [h1] at e
      have := Option.some.inj e
      omega
  · have hv5 := own_only h.v ho (fun _ e hs => hs.2.2.2 e)
    exact own_only hv5 (Only.ofGrown (S := fun b => uv.ownBlock = some b) hg (fun k e => e)) (fun g e e2 => h.ne g e2 e)
  · intro e2
    rcases hat with h1 | h1
    · exact h.ne g (h1 ▸ e) e2
    · rw [h1] at e
      have := Option.some.inj e
      have := hvl g e2
      omega
end
theorem i64s_map (l : List (Int × Int)) (k : Nat) (h : k < l.length) : (l.take (k + 1)).map Prod.fst = (l.take k).map Prod.fst ++ [l[k].1] := by
  rw [List.take_succ_eq_append_getElem h, List.map_append]; rfl

set_option maxHeartbeats 4000000 in
theorem lfair_law (v : Value) (l : List LDeed) (w : World) (hv : LRead w v l) (hg : ErrT w) :
    Calls Tryd.prog 7 #[v] w fun e w' => e = .returned (.bool true) ∧ Below w.heap.size w w' := by
  have HV := Lib.hid hv
  have HG := Lib.hid hg
  clear hv hg
  go_enter Tryd.func7, Tryd.ntmps7
  go_wp2_with fail
  refine (lawake_any _ HG.out).mono ?_
  rintro e w1 ⟨rfl, hb⟩
  have HB := Lib.hid hb
  clear hb
  go_wp2_with fail
  refine (lplay_any v _ l w1 (HV.out.below HB.out) lfair_isC).mono ?_
  rintro e w2 ⟨q, rfl, hq, hr, hb2⟩
  obtain ⟨s, hs⟩ : ∃ s, s = runL (l.take 80) := ⟨_, rfl⟩
  rw [← hs] at hq hr
  have HI := Lib.hid (reachL_inv hr)
  have hlen := reachL_len hr
  have H2 := Lib.hid (And.intro hq hb2)
  clear hs hq hr hb2
  go_wp2_with fail
  refine (waits_any H2.out.1.1 (by omega)).mono ?_
  rintro e w3 ⟨vw, rfl, hvw, hb3⟩
  obtain ⟨M, hM⟩ : ∃ M, M = s.2 := ⟨_, rfl⟩
  rw [← hM] at hvw
  have HM := Lib.hid hM
  have hlm : M.length ≤ 12 := by rw [hM]; omega
  have HR := Lib.hid (gread_of_ownsRow hvw)
  obtain ⟨_, a3, c3, rfl, hc3⟩ := gread_of_ownsRow hvw
  have H3 := Lib.hid (And.intro (H2.out.1.below hb3) (H2.out.2.trans (hb3.mono H2.out.2.size)))
  have hs23 := hb3.size
  have HS23 := Lib.hid hs23
  clear hM hvw hb3 hs23
  go_wp2
  go_loopg [22, 5] M.length (fun m kv uv wr => ∃ k : Nat, kv = .int .i64 (k : Int) ∧ k + m = M.length ∧ wr.ownsRow w3.heap.size 2 1 uv ((M.take k).map Prod.fst).length (i64s ((M.take k).map Prod.fst)) ∧ Below w3.heap.size w3 wr)
  case atStart => exact ⟨0, rfl, by omega, World.ownsRow_nil _ _ _ _, Below.refl _ _⟩
  case round =>
    obtain ⟨k, rfl, hkm, hu, hbr⟩ := hrel
    have HU := Lib.hid (And.intro hu hbr)
    clear hu hbr
    cases gk with
    | zero =>
      have hkn : ¬ ((k : Int) < (M.length : Int)) := by omega
      have hws : (M.take k).map Prod.fst = M.map Prod.fst := by rw [List.take_of_length_le (by omega)]
      have HWS := Lib.hid hws
      clear hws
      have hs13 : w1.heap.size ≤ w3.heap.size := H3.out.2.size
      have hF : FairAt w1.heap.size wr q s (.slice none 0 0) [] u5 (M.map Prod.fst) :=
        ⟨(H3.out.1.below HU.out.2).1.mono (fun b hb hs => ⟨hs.1, hb, by simp [Value.ownBlock], fun e => by have := own_blk_ge HU.out.1 e; have := HS23.out; omega⟩), World.ownsRow_nil _ _ _ _, by rw [← HWS.out]; exact own_le HU.out.1 hs13, fun g e => by simp [Value.ownBlock] at e⟩
      have HF := Lib.hid (And.intro hF (H3.out.2.trans (HU.out.2.mono hs13)))
      clear hF hs13
      go_wp2
      go_loopg [32, 6] 30 (fun m kv uv wr2 => ∃ k : Nat, kv = .int .i64 (k : Int) ∧ k + m = 30 ∧ FairAt w1.heap.size wr2 q (fairN k s).1 uv (fairN k s).2 u5 (M.map Prod.fst) ∧ Below w1.heap.size w1 wr2)
      case atStart => exact ⟨0, rfl, rfl, HF.out⟩
      case round =>
        obtain ⟨j, rfl, hjm, hfa, hbj⟩ := hrel
        have hinv := fairN_inv HI.out j
        have hol := fairN_len HI.out j
        obtain ⟨s1, hs1⟩ : ∃ s1, s1 = (fairN j s).1 := ⟨_, rfl⟩
        obtain ⟨o1, ho1⟩ : ∃ o1, o1 = (fairN j s).2 := ⟨_, rfl⟩
        rw [← hs1, ← ho1] at hinv
        rw [← ho1] at hol
        rw [← hs1, ← ho1] at hfa
        have hl1 : s1.1.length + s1.2.length ≤ 12 := by
          rcases hinv.2.2 with h | h
          · omega
          · rw [h]; simp
        have HFA := Lib.hid (And.intro hfa hbj)
        have HSO := Lib.hid (And.intro hs1 ho1)
        clear hfa hbj hinv hs1 ho1
        cases gk with
        | zero =>
          have hjn : ¬ ((j : Int) < (30 : Int)) := by omega
          obtain ⟨e1, e2⟩ := fairL HI.out (n := j) (by omega)
          have es : s1 = ([], []) := by rw [HSO.out.1]; exact e1
          have eo : o1 = M.map Prod.fst := by rw [HSO.out.2, HM.out]; exact e2
          subst es
          subst eo
          clear e1 e2
          go_wp2_with fail
          refine (same_any _ _ _ _ wr (iread_of_own HFA.out.1.u) (iread_of_own HFA.out.1.v)).mono ?_
          rintro e w5 ⟨rfl, hb5⟩
          rw [decide_eq_true (rfl : M.map Prod.fst = M.map Prod.fst)]
          have H5 := Lib.hid (And.intro (HFA.out.1.below hb5) (HFA.out.2.trans (hb5.mono HFA.out.2.size)))
          clear hb5
          go_wp2_with fail
          refine (held_any H5.out.1.q (by decide)).mono ?_
          rintro e w6 ⟨v6, rfl, hv6, hb6⟩
          obtain ⟨_, a6, c6, rfl, _⟩ := gread_of_ownsRow hv6
          have H6 := Lib.hid (And.intro (H5.out.1.below hb6) (H5.out.2.trans (hb6.mono H5.out.2.size)))
          clear hv6 hb6
          simp only [List.length_nil]
          go_wp2_with fail
          refine (waits_any H6.out.1.q (by decide)).mono ?_
          rintro e w7 ⟨v7, rfl, hv7, hb7⟩
          obtain ⟨_, a7, c7, rfl, _⟩ := gread_of_ownsRow hv7
          have H7 := Lib.hid (H6.out.2.trans (hb7.mono H6.out.2.size))
          clear hv7 hb7
          simp only [List.length_nil]
          go_wp2
          go_ret
          exact ⟨rfl, HB.out.trans (H7.out.mono HB.out.size)⟩
        | succ m2 =>
          have hjn : (j : Int) < (30 : Int) := by omega
          have hj0 : (0 : Int) ≤ (j : Int) := by omega
          go_wp2_with fail
          refine (held_any HFA.out.1.q (by omega)).mono ?_
          rintro e w5 ⟨v5, rfl, hv5, hb5⟩
          obtain ⟨L, hL⟩ : ∃ L, L = s1.1 := ⟨_, rfl⟩
          rw [← hL] at hv5
          obtain ⟨_, a5, c5, rfl, hc5⟩ := gread_of_ownsRow hv5
          have H5 := Lib.hid (And.intro (HFA.out.1.below hb5) (HFA.out.2.trans (hb5.mono HFA.out.2.size)))
          have hlL : L.length ≤ 12 := by rw [hL]; omega
          have HL := Lib.hid hL
          clear hv5 hb5 hL
          cases he : L[L.length / 2]? with
          | none =>
            have h0 : L.length = 0 := by
              rw [List.getElem?_eq_none_iff] at he
              omega
            have hfs : fairS s1 = (s1, []) := by unfold fairS; rw [← HL.out, he]
            have hgt : ¬ ((L.length : Int) > 0) := by omega
            have HFS := Lib.hid hfs
            clear he hfs h0
            go_wp2
            go_roundg m2
            case measure => omega
            case rel => exact ⟨j + 1, by go_num, by omega, by
              show FairAt _ _ _ (fairS (fairN j s).1).1 _ ((fairN j s).2 ++ (fairS (fairN j s).1).2) _ _
              rw [← HSO.out.1, ← HSO.out.2, HFS.out, List.append_nil]; exact H5.out.1, H5.out.2⟩
          | some g =>
            have hlt : L.length / 2 < L.length := (List.getElem?_eq_some_iff.1 he).1
            have hgt : (L.length : Int) > 0 := by omega
            obtain ⟨b, o, rfl, hc⟩ := hc5 (by omega)
            have y0 : w5.cell? ⟨b, o + L.length / 2 * 2, none⟩ = some (.int .i64 L[L.length / 2].1) := (hc _ hlt).1
            have hg0 : L[L.length / 2] = g := (List.getElem?_eq_some_iff.1 he).2
            rw [hg0] at y0
            have hfs : fairS s1 = (freeS s1 g.1, (freeQ s1.1 s1.2 g.1).2.2) := by unfold fairS; rw [← HL.out, he]
            have HFS := Lib.hid hfs
            obtain ⟨n2, hn2⟩ : ∃ n2, n2 = L.length / 2 := ⟨_, rfl⟩
            rw [← hn2] at y0 hlt
            have t2 : (L.length : Int).tdiv 2 = (n2 : Int) := by rw [hn2, Int.tdiv_eq_ediv_of_nonneg (by omega)]; omega
            have u2 : IntKind.i64.wrap (n2 : Int) = (n2 : Int) := IntWalk.i64_in _ (by omega)
            have hn20 : (0 : Int) ≤ (n2 : Int) := by omega
            have hn2l : (n2 : Int) < (L.length : Int) := by omega
            obtain ⟨gi, hgi⟩ : ∃ gi, gi = g.1 := ⟨_, rfl⟩
            rw [← hgi] at y0
            have HGI := Lib.hid hgi
            clear hc hc5 he hg0 hfs hn2 hgi hlt
            go_wp2_with fail
            refine (free_any gi H5.out.1.q (by omega) (fun b hb => hb.2.1)).mono ?_
            rintro e w6 ⟨v6, rfl, hv6, hq6, ho6⟩
            rw [HGI.out] at hv6 hq6
            have hsz56 := ho6.size
            have hu6 := own_only H5.out.1.u ho6 (fun b e hs => hs.2.2.1 e)
            have hol2 : (freeQ s1.1 s1.2 g.1).2.2.length ≤ 12 := by
              have h1 := congrArg List.length (promote_out (stay g.1 s1.2) (stay g.1 s1.1))
              simp only [List.length_append, List.length_map] at h1
              have h3 : (stay g.1 s1.2).length ≤ s1.2.length := List.length_filter_le _ _
              show (promote (stay g.1 s1.1) (stay g.1 s1.2)).2.2.length ≤ 12
              omega
            have hB5 := H5.out.2.size
            obtain ⟨v7, w7, hrun, hv7, hg7, hat7⟩ := run_append_ints hu6 hv6 (by omega) (by omega)
            have hfa := H5.out.1.free (s2 := freeS s1 g.1) hq6 ho6 hB5 hg7 hv7 hat7
            have hb7 : Below w1.heap.size w1 w7 := H5.out.2.trans ((ho6.below hB5 (fun k hk hs => by omega)).trans ((Only.ofGrown (S := fun b => w1.heap.size ≤ b) hg7 (fun k e => own_blk_ge hu6 e)).below (by omega) (fun k hk e => by omega)))
            have H7 := Lib.hid (And.intro hfa hb7)
            clear hv6 hq6 ho6 hu6 hol2 hv7 hg7 hat7 hfa hb7 hB5 hsz56
            go_wp2_with (at_builtin; refine wpList_append_run rfl (.tmp 39) (.tmp 48) 44 rfl _ _ rfl rfl v7 w7 hrun ?_)
            go_wp2
            go_roundg m2
            case measure => omega
            case rel => exact ⟨j + 1, by go_num, by omega, by
              show FairAt _ _ _ (fairS (fairN j s).1).1 _ ((fairN j s).2 ++ (fairS (fairN j s).1).2) _ _
              rw [← HSO.out.1, ← HSO.out.2, HFS.out]; exact H7.out.1, H7.out.2⟩
    | succ m =>
      have hkn : (k : Int) < (M.length : Int) := by omega
      have hk0 : (0 : Int) ≤ (k : Int) := by omega
      have hkl : k < M.length := by omega
      obtain ⟨b, o, rfl, hc⟩ := hc3 (by omega)
      have y0 : wr.cell? ⟨b, o + k * 2, none⟩ = some (.int .i64 M[k].1) := bcell HU.out.2 (hc k hkl).1
      have y1 : wr.cell? ⟨b, o + k * 2 + 1, none⟩ = some (.int .i64 M[k].2) := bcell HU.out.2 (hc k hkl).2
      obtain ⟨mk, hmk⟩ : ∃ mk, mk = M[k].2 := ⟨_, rfl⟩
      obtain ⟨ik, hik⟩ : ∃ ik, ik = M[k].1 := ⟨_, rfl⟩
      rw [← hmk] at y1
      rw [← hik] at y0
      have HIK := Lib.hid hik
      obtain ⟨v5, w5, hrun, hv5, hg5, _⟩ := run_append_ints (w := (wr.alloc (.cells #[.int .i64 ik, .int .i64 mk] 34)).alloc (.cells #[.int .i64 ik] 2)) ((HU.out.1.alloc _).alloc _) (by exact own_one _ ik) (by have := HU.out.2.size; simp; omega) (by simp; omega)
      have hb5 : Below w3.heap.size w3 w5 := ((HU.out.2.alloc HU.out.2.size _).alloc (by have := HU.out.2.size; simp; omega) _).trans ((Only.ofGrown (S := fun b => w3.heap.size ≤ b) hg5 (fun k e => own_blk_ge HU.out.1 e)).below (by have := HU.out.2.size; simp; omega) (fun k hk e => by omega))
      rw [hik, ← i64s_map M k hkl] at hv5
      have H5 := Lib.hid (And.intro hv5 hb5)
      clear hmk hik hc hv5 hg5 hb5
      rw [show (wr.alloc (.cells #[.int .i64 ik, .int .i64 mk] 34)).heap.size = wr.heap.size + 1 by simp] at hrun
      go_wp2_with (at_builtin; refine wpList_append_run rfl (.tmp 26) (.tmp 29) 44 rfl _ _ rfl rfl v5 w5 hrun ?_)
      go_wp2
      go_roundg m
      case measure => omega
      case rel => exact ⟨k + 1, by go_num, by omega, H5.out⟩
end Go.Proofs.YteghcgiclpbkdaaDoor
