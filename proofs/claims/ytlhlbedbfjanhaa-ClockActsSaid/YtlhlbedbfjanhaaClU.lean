/- ClockOnce: the law's walk. -/
import Derived.Test.YtlhlbedbfjanhaaClT
namespace Go.Proofs.Ytlhlbedbfjanhaa
open Go.RowKit

/-- what holds at the heads of the law's two loops: the law's map holds the clock's deadlines. -/
structure OnceAt (w wr : World) (b mB n : Nat) (c : Clk) : Prop where
  st : CSt w wr b c n
  map : MapS i64V wr mB (atF c)
  low : b + 66 ≤ mB
  max : ∀ k t, c.at_ k = some t → t ≤ 255
  later : c.now = 0 ∨ ∀ k t, c.at_ k = some t → c.now < t
theorem once_when {c : Clk} (h : c.now = 0) (a : Int) (ha : 0 ≤ a ∧ a ≤ 255) : c.when a = a := by
  unfold Clk.when maxT; rw [h]; omega
theorem once_next {c : Clk} (h0 : 0 ≤ c.now) (h1 : c.now < 300) (s : Int) (hs : 1 ≤ s ∧ s ≤ 90) : c.next s = c.now + s := by
  unfold Clk.next maxK maxT; omega
theorem OnceAt.set {w wr w2 w3 : World} {b mB n : Nat} {c : Clk} (h : OnceAt w wr b mB n c) (h0 : c.now = 0) (id a : Int) (ha : 0 ≤ a ∧ a ≤ 255) (hm : MapS i64V w2 mB (fun k => if k = id then some (.int .i64 a) else atF c k)) (ho : Only (fun x => x = mB) wr w2)
    (hr : WRep w3 b (b + 1) b (c.set id a)) (ho2 : Only (InW b) w2 w3) : OnceAt w w3 b mB (n + 1) (c.set id a) := by
  have hlow := h.low
  have h2 : CSt w w2 b c n := ⟨h.st.rep.only ho (fun x hx e => by unfold InW at hx; omega), h.st.ok, h.st.few, h.st.bel.trans (ho.below h.st.bel.size (fun k hk e => by have := h.st.low; omega)), h.st.low⟩
  refine ⟨h2.set hr ho2, (hm.only ho2 (fun e => by unfold InW at e; omega)).congr (fun k => by rw [atF_set, once_when h0 a ha]), hlow, fun k t hk => ?_, .inl h0⟩
  unfold Clk.set at hk
  simp only at hk
  split at hk
  · cases hk
    rw [once_when h0 a ha]; exact ha.2
  · exact h.max k t hk
/-- the inner loop: j of those that are due are taken out of the law's map. -/
structure OnceIn (w wr : World) (b mB n : Nat) (c : Clk) (s : Int) (l : List Int) (base : Nat) (v : Value) (j : Nat) : Prop where
  st : CSt w wr b (c.tick s) n
  map : MapS i64V wr mB (fun k => if k ∈ l.take j then none else atF c k)
  low : b + 66 ≤ mB
  own : wr.ownsRow base 2 1 v l.length (i64s l)
  ml : mB < base
theorem OnceIn.step {w wr w2 : World} {b mB n base j : Nat} {c : Clk} {s : Int} {l : List Int} {v : Value} (h : OnceIn w wr b mB n c s l base v j) (hj : j < l.length)
    (hm : MapS i64V w2 mB (fun k => if k = l[j] then none else if k ∈ l.take j then none else atF c k)) (ho : Only (fun x => x = mB) wr w2) : OnceIn w w2 b mB n c s l base v (j + 1) := by
  have hlow := h.low
  have hml := h.ml
  refine ⟨⟨h.st.rep.only ho (fun x hx e => by unfold InW at hx; omega), h.st.ok, h.st.few, h.st.bel.trans (ho.below h.st.bel.size (fun k hk e => by have := h.st.low; omega)), h.st.low⟩, hm.congr fun k => ?_, hlow, own_only h.own ho (fun g hg e => by have := (own_lt h.own hg).1; omega), hml⟩
  rw [List.take_succ_eq_append_getElem hj]
  by_cases e : k = l[j]
  · rw [if_pos e, if_pos (by rw [List.mem_append, List.mem_singleton]; exact .inr e)]
  · rw [if_neg e]
    by_cases e2 : k ∈ l.take j
    · rw [if_pos e2, if_pos (by rw [List.mem_append]; exact .inl e2)]
    · rw [if_neg e2, if_neg (by rw [List.mem_append, List.mem_singleton]; rintro (h | h) <;> contradiction)]
theorem OnceIn.done {w wr : World} {b mB n base : Nat} {c : Clk} {s : Int} {l : List Int} {v : Value} (h : OnceIn w wr b mB n c s l base v l.length) (hd : DueL c.at_ (c.next s) l) (hx : ∀ k t, c.at_ k = some t → t ≤ 255) : OnceAt w wr b mB n (c.tick s) := by
  refine ⟨h.st, h.map.congr fun k => ?_, h.low, fun k t hk => ?_, .inr fun k t hk => ?_⟩
  · rw [List.take_length]
    unfold atF Clk.tick
    simp only
    by_cases e : k ∈ l
    · rw [if_pos e, if_pos ((hd.mem k).1 e)]; rfl
    · rw [if_neg e, if_neg (fun e2 => e ((hd.mem k).2 e2))]
  · unfold Clk.tick at hk
    simp only at hk
    split at hk
    · cases hk
    · exact hx k t hk
  · unfold Clk.tick at hk
    simp only at hk
    split at hk
    · cases hk
    · rename_i hn
      rw [hk] at hn
      show c.next s < t
      simp [isDue] at hn
      omega

set_option maxHeartbeats 8000000 in
set_option maxRecDepth 100000 in
theorem conce_law (v : Value) (l : List CDeed) (N : Int) (hN : 0 ≤ N ∧ N ≤ 255) (w : World) (hv : CRead w v l) :
    Calls Try.prog 4 #[v, .int .u8 N] w fun e w' => e = .returned (.bool true) ∧ Below w.heap.size w w' := by
  obtain ⟨s0, hs0⟩ : ∃ s : Int, Int.tmod N 90 = s := ⟨_, rfl⟩
  have hsb : 0 ≤ s0 ∧ s0 < 90 := by
    have h := Int.tmod_eq_emod_of_nonneg (b := 90) hN.1
    rw [hs0] at h
    omega
  have hws : IntKind.i64.wrap s0 = s0 := IntWalk.i64_in _ (by omega)
  obtain ⟨s, hs⟩ : ∃ s, 1 + s0 = s := ⟨_, rfl⟩
  have hws1 : IntKind.i64.wrap (1 + s0) = s := by rw [IntWalk.i64_in _ (by omega)]; exact hs
  have HSB := Lib.hid (show 1 ≤ s ∧ s ≤ 90 by omega)
  clear hsb hN hs
  have HV := Lib.hid hv
  obtain ⟨hm, _, a, cap, rfl, hcap, hcap2, _⟩ := hv
  obtain ⟨n, hn⟩ : ∃ n, n = min l.length 40 := ⟨_, rfl⟩
  have hn1 : n ≤ l.length := by omega
  have hn2 : n ≤ 40 := by omega
  have hmn : min (l.length : Int) 40 = (n : Int) := by omega
  have hmi : (if (40 : Int) < (l.length : Int) then (40 : Int) else (l.length : Int)) = (n : Int) := by split <;> omega
  have hz1 : (0 : Int) ≤ (n : Int) := by omega
  have hz2 : (n : Int) ≤ (cap : Int) := by omega
  have hz3 : n ≤ cap := by omega
  have HN := Lib.hid (And.intro hn1 hn2)
  clear hn hn1 hn2 hm hcap hcap2
  obtain ⟨len, hlen⟩ : ∃ len, l.length = len := ⟨_, rfl⟩
  rw [hlen] at HV hmn hmi ⊢
  have HLEN := Lib.hid hlen
  clear hlen
  have hmm := @run_makeMap Try.prog
  go_enter Try.func4, Try.ntmps4
  go_wp2_with fail
  refine (cawake_any _).mono ?_
  rintro e w0 ⟨rfl, hb0⟩
  have H0 := Lib.hid hb0
  clear hb0
  go_wp2_with fail
  refine (new_any _).mono ?_
  rintro e w1 ⟨rfl, hr1, hb1, hs1⟩
  have H1 := Lib.hid (CSt.made H0.out hr1 hb1)
  obtain ⟨b, hbe⟩ : ∃ b, w0.heap.size = b := ⟨_, rfl⟩
  rw [hbe] at H1 hs1
  try rw [hbe]
  clear hr1 hb1 hbe
  obtain ⟨mB, hmB⟩ : ∃ m, w1.heap.size = m := ⟨_, rfl⟩
  have hst : OnceAt w (w1.alloc (.map #[] 0)) b mB 0 Clk.new := by
    refine ⟨H1.out.later ((Below.refl _ w1).alloc (Nat.le_refl _) _), ?_, by omega, fun k t h => (by cases h), .inl rfl⟩
    have h := MapS.made (inj := i64V) w1
    rw [hmB] at h
    exact h.congr (fun _ => rfl)
  have HST := Lib.hid hst
  clear hst hs1
  go_wp2_with fail
  try rw [hmB]
  clear hmB hmn hmi hz1 hz2 hz3 hmm
  go_loopg [27] n (fun gk iv wr => ∃ (i : Nat) (c : Clk), gk + i = n ∧ iv = .int .i64 i ∧ Hid (OnceAt w wr b mB i c ∧ c.now = 0))
  case atStart => exact ⟨0, Clk.new, by omega, rfl, Lib.hid ⟨HST.out, rfl⟩⟩
  case round =>
    obtain ⟨i, c, hg, rfl, HC⟩ := hrel
    by_cases hi : i < n
    · have hiz : (i : Int) < (n : Int) := by omega
      have hwK : IntKind.i64.wrap ((i : Int) + 1) = ((i + 1 : Nat) : Int) := by rw [IntWalk.i64_in _ (by have := HN.out.2; omega)]; omega
      obtain ⟨bb, off, rfl, e0, e1, e2, hdo⟩ := (HV.out.below HC.out.1.st.bel).at i (by have := HN.out.1; omega)
      obtain ⟨dk, hdk⟩ : ∃ x, (l[i]'(by have := HN.out.1; have := HLEN.out; omega)).k = x := ⟨_, rfl⟩
      obtain ⟨di, hdi⟩ : ∃ x, (l[i]'(by have := HN.out.1; have := HLEN.out; omega)).i = x := ⟨_, rfl⟩
      obtain ⟨dn, hdn⟩ : ∃ x, (l[i]'(by have := HN.out.1; have := HLEN.out; omega)).n = x := ⟨_, rfl⟩
      rw [hdk] at e0
      rw [hdi] at e1
      rw [hdn] at e2
      have hir := hdo.i
      rw [hdi] at hir
      have hwi : IntKind.i64.wrap di = di := IntWalk.i64_in _ (by omega)
      obtain ⟨W3, hW3⟩ : ∃ W, wr.alloc (.cells #[.int .u8 dk, .int .u8 di, .int .i64 dn] 28) = W := ⟨_, rfl⟩
      have hb3 : Below wr.heap.size wr W3 := by rw [← hW3]; exact (Below.refl _ wr).alloc (Nat.le_refl _) _
      have hbk : Blk W3 wr.heap.size 28 [.int .u8 dk, .int .u8 di, .int .i64 dn] := by rw [← hW3]; exact heap_alloc_new wr _
      obtain ⟨P, hP⟩ : ∃ P, wr.heap.size = P := ⟨_, rfl⟩
      rw [hP] at hbk
      have hm3 := HC.out.1.map.only (Only.ofBelow hb3 NoneS) (fun e => e)
      obtain ⟨W4, hup, hm4, ho4, _⟩ := hm3.update keyI64 Try.underlying35 (i : Int) (.int .i64 di)
      have hmP : mB ≠ P := by have := HC.out.1.map.lt; omega
      have hbk4 := hbk.only ho4 (fun e => hmP e.symm)
      have H3 := Lib.hid (show OnceAt w W3 b mB i c from ⟨HC.out.1.st.later hb3, hm3, HC.out.1.low, HC.out.1.max, HC.out.1.later⟩)
      have H4 := Lib.hid (And.intro hm4 (And.intro ho4 (And.intro hW3 (And.intro hP (And.intro hir hbk4)))))
      have q1 := hbk4.cell 1
      rw [← hP] at q1
      simp only [i64V] at hup
      clear hdo hdk hdi hdn hir hb3 hP hm3 hm4 ho4 hmP hbk4 hbk
      rw [← hW3] at hup
      clear hW3
      go_wp2_with fail
      (try rw [H4.out.2.2.2.1])
      have hrep4 : WRep W4 b (b + 1) b c := H3.out.st.rep.only H4.out.2.1 (fun x hx e => by have := H3.out.low; unfold InW at hx; omega)
      have hcall := set_any b (b + 1) b c (i : Int) di _ hrep4
      refine hcall.mono ?_
      rintro e w5 ⟨rfl, hr5, ho5, _⟩
      have H5 := Lib.hid (And.intro (H3.out.set HC.out.2 (i : Int) di H4.out.2.2.2.2.1 H4.out.1 H4.out.2.1 hr5 ho5) (show (c.set (i : Int) di).now = 0 from HC.out.2))
      clear hcall hr5 ho5 hrep4 q1 e0 e1 e2 hup
      go_wp2
      go_roundg (gk - 1)
      case rel => exact ⟨i + 1, _, by omega, rfl, H5⟩
      case measure => omega
    · have hiz : ¬ (i : Int) < (n : Int) := by omega
      have HI := Lib.hid (show i ≤ 40 by have := HN.out.2; omega)
      go_wp2_with fail
      clear hiz hs0 hws
      go_loopg [10] 400 (fun gk ov wr => ∃ (c : Clk), (gk : Int) + c.now = 400 ∧ c.now < 390 ∧ Hid (OnceAt w wr b mB i c))
      case atStart => exact ⟨c, by rw [HC.out.2]; rfl, by rw [HC.out.2]; omega, Lib.hid HC.out.1⟩
      case round =>
        obtain ⟨d, hg2, hd3, HO⟩ := hrel
        have hcn := now_any b (b + 1) b d _ HO.out.st.rep
        have HCN := Lib.hid hcn
        clear hcn
        have hlo := HO.out.st.ok.lo
        by_cases h300 : d.now < 300
        · obtain ⟨was, hwas⟩ : ∃ x, d.now = x := ⟨_, rfl⟩
          rw [hwas] at h300 hg2 hd3 HCN hlo
          have HWAS := Lib.hid hwas
          have hnx : d.next s = was + s := by rw [← hwas]; exact once_next (by rw [hwas]; exact hlo) (by rw [hwas]; exact h300) s HSB.out
          have HNX := Lib.hid hnx
          have hww : IntKind.i64.wrap (was + s) = was + s := IntWalk.i64_in _ (by have := HSB.out; omega)
          have HWB := Lib.hid (And.intro hlo h300)
          obtain ⟨GK, hGK⟩ : ∃ x, gk = x := ⟨_, rfl⟩
          have HGK := Lib.hid hGK
          rw [hGK] at hg2
          clear hGK
          clear hwas hnx hlo
          go_wp2_with fail
          refine HCN.out.mono ?_
          rintro e wq ⟨rfl, rfl⟩
          go_wp2_with fail
          refine HCN.out.mono ?_
          rintro e wq ⟨rfl, rfl⟩
          go_wp2_with fail
          have hcall := tick_law HO.out.st (by have := HI.out; omega) s
          refine hcall.mono ?_
          rintro e w5 ⟨a5, c5, l5, rfl, _, hd5, h5, ho5, hown5, hl5, hsz5⟩
          obtain ⟨base, hbase⟩ : ∃ x, wr.heap.size + 1 = x := ⟨_, rfl⟩
          rw [hbase] at hown5
          obtain ⟨m5, hm5⟩ : ∃ m, l5.length = m := ⟨_, rfl⟩
          have hin : OnceIn w w5 b mB i d s l5 base (.slice a5 l5.length c5) 0 := ⟨h5, (HO.out.map.only ho5 (fun e => by have := HO.out.low; unfold InW at e; omega)).congr (fun k => by simp), HO.out.low, hown5, by have := HO.out.map.lt; omega⟩
          have hnd : l5.Nodup := hd5.order.imp fun {x y} hxy e => by rw [e] at hxy; exact ahead_irrefl _ _ hxy
          rw [hm5] at hin
          try rw [hm5]
          have H5 := Lib.hid (And.intro hin (And.intro hd5 (And.intro hm5 (And.intro hnd (show m5 ≤ 40 by have := HI.out; omega)))))
          clear hcall hd5 h5 ho5 hown5 hl5 hsz5 hbase hin hnd hm5
          go_wp2_with fail
          go_loopg [57] m5 (fun gj jv wj => ∃ (j : Nat), gj + j = m5 ∧ jv = .int .i64 j ∧ Hid (OnceIn w wj b mB i d s l5 base (.slice a5 m5 c5) j))
          case atStart => exact ⟨0, by omega, rfl, Lib.hid H5.out.1⟩
          case round =>
            obtain ⟨j, hgj, rfl, HJ⟩ := hrel
            by_cases hj : j < m5
            · have hjz : (j : Int) < (m5 : Int) := by omega
              have hwK : IntKind.i64.wrap ((j : Int) + 1) = ((j + 1 : Nat) : Int) := by rw [IntWalk.i64_in _ (by have := H5.out.2.2.2.2; omega)]; omega
              have hj2 : j < l5.length := by rw [H5.out.2.2.1]; exact hj
              have hro := HJ.out.own
              rw [H5.out.2.2.1] at hro
              rcases ownsRow_form hro with ⟨hv0, h00⟩ | ⟨g, cap5, hvg⟩
              · omega
              obtain ⟨rfl, _, rfl⟩ := (Value.slice.injEq ..).mp hvg
              have q1 := (hro.cellAt j (by omega)).trans (i64s_at l5 j hj2)
              obtain ⟨id, hid⟩ : ∃ id, l5[j] = id := ⟨_, rfl⟩
              rw [hid] at q1
              have hidm : id ∈ l5 := by rw [← hid]; exact List.getElem_mem hj2
              have hdue := (H5.out.2.1.mem id).1 hidm
              obtain ⟨t, ht⟩ : ∃ t, d.at_ id = some t := by
                cases hq : d.at_ id with
                | none => rw [hq] at hdue; cases hdue
                | some t => exact ⟨t, rfl⟩
              rw [ht] at hdue
              have htn : t ≤ was + s := by rw [← HNX.out]; simpa [isDue] using hdue
              have hnt : id ∉ l5.take j := by
                rw [← hid]
                intro hmem
                obtain ⟨q, hq, e⟩ := List.mem_iff_getElem.1 hmem
                rw [List.getElem_take] at e
                have hq2 : q < j := by rw [List.length_take] at hq; omega
                exact (List.pairwise_iff_getElem.1 H5.out.2.2.2.1) q j (by omega) hj2 hq2 e
              have hlk := HJ.out.map.rep.lookup_ok keyI64 Try.underlying35 (zeroInt wr) id
              obtain ⟨w6, hdel, hm6, ho6, _⟩ := HJ.out.map.delete (ut := 2) (ty := 0) keyI64 Try.underlying35 id
              rw [if_neg hnt, atF_get, atF_is, ht] at hlk
              simp only [i64V, Option.getD_some, Option.isSome_some] at hlk hdel
              have H6 := Lib.hid (HJ.out.step hj2 (by rw [hid]; exact hm6) ho6)
              have hcn2 := now_any b (b + 1) b _ _ HJ.out.st.rep
              rw [show (d.tick s).now = was + s from HNX.out] at hcn2
              have HC2 := Lib.hid hcn2
              have hgt : ¬ was + s < t := by omega
              have hlt := HO.out.later
              rw [HWAS.out] at hlt
              clear hid hidm hdue hnt hm6 ho6 hcn2 hro hvg htn
              by_cases htw : t ≤ was
              · have hw0 : was = 0 := by
                  rcases hlt with h | h
                  · exact h
                  · have := h id t ht; omega
                subst hw0
                clear ht hlt
                go_wp2_with fail
                refine HC2.out.mono ?_
                rintro e wq ⟨rfl, rfl⟩
                clear hlk
                go_wp2
                go_roundg (gk - 1)
                case rel => exact ⟨j + 1, by omega, rfl, H6⟩
                case measure => omega
              · clear ht hlt
                go_wp2_with fail
                refine HC2.out.mono ?_
                rintro e wq ⟨rfl, rfl⟩
                clear hlk
                go_wp2
                go_roundg (gk - 1)
                case rel => exact ⟨j + 1, by omega, rfl, H6⟩
                case measure => omega
            · have hjz : ¬ (j : Int) < (m5 : Int) := by omega
              have hje : j = l5.length := by rw [H5.out.2.2.1]; omega
              have hin := HJ.out
              rw [hje] at hin
              have hdn := hin.done H5.out.2.1 HO.out.max
              have HDN := Lib.hid hdn
              have hcn2 := now_any b (b + 1) b _ _ HJ.out.st.rep
              rw [show (d.tick s).now = was + s from HNX.out] at hcn2
              have HC2 := Lib.hid hcn2
              clear hje hin hdn hcn2
              go_wp2_with fail
              refine HC2.out.mono ?_
              rintro e wq ⟨rfl, rfl⟩
              go_wp2
              go_roundg (GK - s.toNat)
              case rel => exact ⟨_, by rw [show (d.tick s).now = was + s from HNX.out]; have := HSB.out; omega, by rw [show (d.tick s).now = was + s from HNX.out]; have := HSB.out; omega, HDN⟩
              case measure => have := HSB.out; have := HGK.out; omega
        · have hnone : ∀ k, d.at_ k = none := fun k => by
            cases hq : d.at_ k with
            | none => rfl
            | some t =>
              have h1 := HO.out.max k t hq
              rcases HO.out.later with h | h
              · omega
              · have := h k t hq; omega
          have hln : ∀ ty, (Builtin.len_ #[35] ty #[.map (some mB)]).run Try.prog wr = .ok (.int .i64 0) wr := fun ty => by
            have h := HO.out.map.rep.len (P := Try.prog) (t := 35) (ty := ty) (by kernel_rfl) (L := []) List.nodup_nil (fun k => by unfold atF; rw [hnone k]; simp)
            exact h
          clear hnone hlo
          go_wp2_with fail
          refine HCN.out.mono ?_
          rintro e wq ⟨rfl, rfl⟩
          go_wp2
          go_ret
          exact ⟨by first | rfl | simp, HO.out.st.bel⟩
end Go.Proofs.Ytlhlbedbfjanhaa
