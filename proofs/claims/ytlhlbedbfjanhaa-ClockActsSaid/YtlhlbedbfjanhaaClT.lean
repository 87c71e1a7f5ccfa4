/- ClockParts: the law's walk. -/
import Derived.Test.YtlhlbedbfjanhaaClS
import Derived.Test.YtlhlbedbfjanhaaClR
import Derived.Laws.OwnMore
namespace Go.Proofs.Ytlhlbedbfjanhaa
open Go.RowKit

theorem wpList_append_run {P : Program} {ops : Array Oper} {rest : List Oper} {o : Oper} {a : Act} {w : World} {Q : Exit → Act → World → Prop}
    (hg : o.guard = none) (s x : Operand) (t : TypeId) (hop : o.op = Op.call { callee := Callee.builtin Builtin.append, args := #[s, x], argTypes := #[t, t] })
    (v u : Value) (hs : a.eval s = v) (hx : a.eval x = u) (v2 : Value) (w2 : World) (hrun : ∀ ty, (Builtin.append_ #[t, t] ty #[v, u]).run P w = .ok v2 w2)
    (hK : wpList P ops Q rest (a.put o.dst v2) w2) : wpList P ops Q (o :: rest) a w := by
  refine wpList_plain hg fun K hK' => ?_
  unfold Oper.wp
  simp [execOp, hop, resolve, invoke, builtin, hs, hx, hrun, Result.andThen]
  exact hK' _ _ hK

theorem ints_one {l : List Int} : ∀ u ∈ i64s l, u.oneCell' = true := by
  intro u hu
  unfold i64s at hu
  obtain ⟨x, _, rfl⟩ := List.mem_map.1 hu
  rfl
theorem run_append_ints {b1 b2 : Nat} {w : World} {v1 v2 : Value} {l1 l2 : List Int} (h1 : w.ownsRow b1 2 1 v1 l1.length (i64s l1)) (h2 : w.ownsRow b2 2 1 v2 l2.length (i64s l2))
    (hb : b1 ≤ w.heap.size) (hl : l1.length + l2.length ≤ 4000000) :
    ∃ v w', (∀ ty, (Builtin.append_ #[30, 30] ty #[v1, v2]).run Try.prog w = .ok v w') ∧ w'.ownsRow b1 2 1 v (l1 ++ l2).length (i64s (l1 ++ l2)) ∧ w.grownBy w' v1.ownBlock ∧ (v.ownBlock = v1.ownBlock ∨ v.ownBlock = some w.heap.size) := by
  obtain ⟨i, hi, hii⟩ := Option.map_eq_some_iff.1 infoI64
  simp only [Prod.mk.injEq] at hii
  obtain ⟨i1, i2, i3⟩ := hii
  rcases ownsRow_cases h2 with ⟨rfl, h0, hx⟩ | ⟨g, cap, rfl⟩
  · have : l2 = [] := List.eq_nil_of_length_eq_zero h0
    subst this
    refine ⟨v1, w, fun ty => run_append_owned_none w b1 _ ty _ i 1 Try.underlying30 hi v1 _ _ h1, by simpa using h1, ⟨rfl, rfl, rfl, Nat.le_refl _, fun _ _ _ => rfl⟩, .inl rfl⟩
  · have key := fun ty => run_append_own_at (P := Try.prog) w b1 30 ty 2 i (.int .i64 0) 1 8 Try.underlying30 hi i1 i2 i3 rfl (by decide) v1 l1.length (i64s l1) h1
      ⟨g, 0, none⟩ l2.length cap (i64s l2) (by simp [i64s]) (h2.cells rfl) ints_one (by unfold maxLen; omega) (by omega) hb
    obtain ⟨v, w', hr, ho, hg, _, hat⟩ := key 0
    refine ⟨v, w', fun ty => hr, ?_, hg, hat⟩
    rw [List.length_append, show i64s (l1 ++ l2) = i64s l1 ++ i64s l2 by simp [i64s]]; exact ho

theorem CSt.other {w wr w2 : World} {b1 b2 n n1 : Nat} {c c1 : Clk} (h : CSt w wr b2 c n) (h1 : CSt w w2 b1 c1 n1) (ho : Only (InW b1) wr w2) (hd : b1 + 66 ≤ b2 ∨ b2 + 66 ≤ b1) : CSt w w2 b2 c n :=
  ⟨h.rep.only ho (fun x hx e => by unfold InW at hx e; omega), h.ok, h.few, h1.bel, h.low⟩
theorem CSt.grown {w wr w2 : World} {b n : Nat} {c : Clk} {g : Option Nat} (h : CSt w wr b c n) (hg : wr.grownBy w2 g) (hb : ∀ x, g = some x → b + 66 ≤ x) : CSt w w2 b c n := by
  have ho : Only (fun x => g = some x) wr w2 := Only.ofGrown hg (fun k hk => hk)
  exact ⟨h.rep.only ho (fun x hx e => by have := hb x e; unfold InW at hx; omega), h.ok, h.few, h.bel.trans (ho.below (by have := h.bel.size; omega) (fun k hk e => by have := hb k e; have := h.low; omega)), h.low⟩
/-- deed i, read where the law's loop stands. -/
theorem CRead.at {w : World} {a : Option Addr} {len cap : Nat} {l : List CDeed} (h : CRead w (.slice a len cap) l) (i : Nat) (hi : i < l.length) : ∃ b off, a = some ⟨b, off, none⟩ ∧ w.cell? ⟨b, off + i * 3, none⟩ = some (.int .u8 l[i].k) ∧ w.cell? ⟨b, off + i * 3 + 1, none⟩ = some (.int .u8 l[i].i) ∧ w.cell? ⟨b, off + i * 3 + 2, none⟩ = some (.int .i64 l[i].n) ∧ l[i].OK := by
  obtain ⟨_, hok, a2, cap2, hv, _, _, hc⟩ := h
  obtain ⟨rfl, _, rfl⟩ := (Value.slice.injEq ..).mp hv
  obtain ⟨b, off, rfl, hcc⟩ := hc (by omega)
  exact ⟨b, off, rfl, (hcc i hi).1, (hcc i hi).2.1, (hcc i hi).2.2, hok _ (List.getElem_mem hi)⟩
theorem parts_next {c : Clk} (h : c.now = 0) (x : Int) (hx : 0 ≤ x ∧ x ≤ 131070) : c.next x = x := by
  unfold Clk.next maxK maxT; rw [h]; omega
theorem parts_next2 {c : Clk} (h : c.now = 0) (x y : Int) (hx : 0 ≤ x ∧ x ≤ 65535) (hy : 0 ≤ y ∧ y ≤ 65535) : (c.tick x).next y = x + y := by
  have e : (c.tick x).now = x := parts_next h x (by omega)
  unfold Clk.next maxK maxT; rw [e]; omega

set_option maxHeartbeats 8000000 in
set_option maxRecDepth 100000 in
theorem cparts_law (v : Value) (l : List CDeed) (A B : Int) (hA : 0 ≤ A ∧ A ≤ 65535) (hB : 0 ≤ B ∧ B ≤ 65535) (w : World) (hv : CRead w v l) :
    Calls Try.prog 3 #[v, .int .u16 A, .int .u16 B] w fun e w' => e = .returned (.bool true) ∧ Below w.heap.size w w' := by
  have HR := Lib.hid (And.intro hA hB)
  have hwA : IntKind.i64.wrap A = A := IntWalk.i64_in _ (by omega)
  have hwB : IntKind.i64.wrap B = B := IntWalk.i64_in _ (by omega)
  have hwAB : IntKind.i64.wrap (A + B) = A + B := IntWalk.i64_in _ (by omega)
  clear hA hB
  have HV := Lib.hid hv
  obtain ⟨hm, _, a, cap, rfl, hcap, hcap2, _⟩ := hv
  obtain ⟨n, hn⟩ : ∃ n, n = min l.length 40 := ⟨_, rfl⟩
  have hn1 : n ≤ l.length := by omega
  have hn2 : n ≤ 40 := by omega
  have hmn : min (l.length : Int) 40 = (n : Int) := by omega
  have hmi : (if (40 : Int) < (l.length : Int) then (40 : Int) else (l.length : Int)) = (n : Int) := by split <;> omega
  have hz1 : (0 : Int) ≤ (n : Int) := by omega
  have hz2 : (n : Int) ≤ (cap : Int) := by omega
  have hz3 : n ≤ cap := by omega
  have HN := Lib.hid (And.intro hn1 hn2)
  clear hn hn1 hn2 hm hcap hcap2
  obtain ⟨len, hlen⟩ : ∃ len, l.length = len := ⟨_, rfl⟩
  rw [hlen] at HV hmn hmi ⊢
  have HLEN := Lib.hid hlen
  clear hlen
  go_enter Try.func3, Try.ntmps3
  go_wp2_with fail
  refine (cawake_any _).mono ?_
  rintro e w0 ⟨rfl, hb0⟩
  have H0 := Lib.hid hb0
  clear hb0
  go_wp2_with fail
  refine (new_any _).mono ?_
  rintro e w1 ⟨rfl, hr1, hb1, hs1⟩
  have H1 := Lib.hid (CSt.made H0.out hr1 hb1)
  obtain ⟨b1, hbe⟩ : ∃ b, w0.heap.size = b := ⟨_, rfl⟩
  rw [hbe] at H1 hs1
  try rw [hbe]
  clear hr1 hb1 hbe
  go_wp2_with fail
  refine (new_any _).mono ?_
  rintro e w2 ⟨rfl, hr2, hb2, hs2⟩
  have HU := H1.out.later hb2
  have HW := CSt.made H1.out.bel hr2 hb2
  obtain ⟨b2, hbe⟩ : ∃ b, w1.heap.size = b := ⟨_, rfl⟩
  rw [hbe] at HW
  try rw [hbe]
  have hgap : b1 + 66 ≤ b2 := by omega
  have H2 := Lib.hid (And.intro HU (And.intro HW hgap))
  clear hr2 hb2 hbe HU HW hgap hs1 hs2
  go_wp2_with fail
  clear hmn hmi hz1 hz2 hz3
  go_loopg [28] n (fun gk iv wr => ∃ (i : Nat) (c : Clk), gk + i = n ∧ iv = .int .i64 i ∧ Hid (CSt w wr b1 c i ∧ CSt w wr b2 c i ∧ c.now = 0))
  case atStart => exact ⟨0, Clk.new, by omega, rfl, Lib.hid ⟨H2.out.1, H2.out.2.1, rfl⟩⟩
  case round =>
    obtain ⟨i, c, hg, rfl, HC⟩ := hrel
    by_cases hi : i < n
    · have hiz : (i : Int) < (n : Int) := by omega
      have hwK : IntKind.i64.wrap ((i : Int) + 1) = ((i + 1 : Nat) : Int) := by rw [IntWalk.i64_in _ (by have := HN.out.2; omega)]; omega
      obtain ⟨bb, off, rfl, e0, e1, e2, hdo⟩ := (HV.out.below HC.out.1.bel).at i (by have := HN.out.1; omega)
      obtain ⟨dk, hdk⟩ : ∃ x, (l[i]'(by have := HN.out.1; have := HLEN.out; omega)).k = x := ⟨_, rfl⟩
      obtain ⟨di, hdi⟩ : ∃ x, (l[i]'(by have := HN.out.1; have := HLEN.out; omega)).i = x := ⟨_, rfl⟩
      obtain ⟨dn, hdn⟩ : ∃ x, (l[i]'(by have := HN.out.1; have := HLEN.out; omega)).n = x := ⟨_, rfl⟩
      rw [hdk] at e0
      rw [hdi] at e1
      rw [hdn] at e2
      have hir := hdo.i
      rw [hdi] at hir
      have hwi : IntKind.i64.wrap di = di := IntWalk.i64_in _ (by omega)
      obtain ⟨r, hr⟩ : ∃ r, Int.tmod dn 5000 = r := ⟨_, rfl⟩
      obtain ⟨W3, hW3⟩ : ∃ W, wr.alloc (.cells #[.int .u8 dk, .int .u8 di, .int .i64 dn] 28) = W := ⟨_, rfl⟩
      have hb3 : Below wr.heap.size wr W3 := by rw [← hW3]; exact (Below.refl _ wr).alloc (Nat.le_refl _) _
      have hbk : Blk W3 wr.heap.size 28 [.int .u8 dk, .int .u8 di, .int .i64 dn] := by rw [← hW3]; exact heap_alloc_new wr _
      obtain ⟨P, hP⟩ : ∃ P, wr.heap.size = P := ⟨_, rfl⟩
      rw [hP] at hbk
      have H3 := Lib.hid (And.intro (HC.out.1.later hb3) (And.intro (HC.out.2.1.later hb3) (And.intro hW3 (And.intro hbk hP))))
      clear hdo hdk hdi hdn hir hb3 hbk hW3 hP
      go_wp2_with fail
      (try rw [H3.out.2.2.1]); (try rw [H3.out.2.2.2.2])
      have hcall := set_any b1 (b1 + 1) b1 c di r _ H3.out.1.rep
      refine hcall.mono ?_
      rintro e w4 ⟨rfl, hr4, ho4, _⟩
      have hu := H3.out.1.set hr4 ho4
      have hv2 := H3.out.2.1.other hu ho4 (.inl H2.out.2.2)
      have hpt : b2 + 66 ≤ P := by have h1 := HC.out.2.1.rep.top; have := H3.out.2.2.2.2; omega
      have hbk4 := H3.out.2.2.2.1.only ho4 (fun e => by unfold InW at e; have := H2.out.2.2; omega)
      have q1 := hbk4.cell 1
      have q2 := hbk4.cell 2
      have H4 := Lib.hid (And.intro hu hv2)
      clear hcall hr4 ho4 hu hv2 hpt hbk4 e0 e1 e2
      go_wp2_with fail
      have hcall := set_any b2 (b2 + 1) b2 c di r _ H4.out.2.rep
      refine hcall.mono ?_
      rintro e w5 ⟨rfl, hr5, ho5, _⟩
      have hv5 := H4.out.2.set hr5 ho5
      have hu5 := H4.out.1.other hv5 ho5 (.inr H2.out.2.2)
      have H5 := Lib.hid (And.intro hu5 (And.intro hv5 (show (c.set di r).now = 0 from HC.out.2.2)))
      clear hcall hr5 ho5 hv5 hu5 q1 q2
      go_wp2
      go_roundg (gk - 1)
      case rel => exact ⟨i + 1, _, by omega, rfl, H5⟩
      case measure => omega
    · have hiz : ¬ (i : Int) < (n : Int) := by omega
      have hi40 : i ≤ 40 := by have := HN.out.2; omega
      have HI := Lib.hid hi40
      clear hi40
      go_wp2_with fail
      have hcall := tick_law HC.out.1 (by have := HI.out; omega) A
      refine hcall.mono ?_
      rintro e w4 ⟨a1, c1, l1, rfl, _, hd1, h4, ho4, hown4, hl4, hsz4⟩
      rw [parts_next HC.out.2.2 A (by have := HR.out; omega)] at hd1
      have H4 := Lib.hid (And.intro h4 (And.intro (HC.out.2.1.other h4 ho4 (.inl H2.out.2.2)) (And.intro (show OwnL w4 b2 (wr.heap.size + 1) (.slice a1 l1.length c1) l1 from ⟨hown4, by have := HC.out.2.1.rep.top; omega⟩) hl4)))
      have HD1 := Lib.hid hd1
      clear hcall hd1 h4 ho4 hown4 hl4
      obtain ⟨m1, hm1⟩ : ∃ m, l1.length = m := ⟨_, rfl⟩
      rw [hm1] at H4
      try rw [hm1]
      have HM1 := Lib.hid hm1
      clear hm1
      go_wp2_with fail
      have hcall := tick_law H4.out.1 (by have := HI.out; omega) B
      refine hcall.mono ?_
      rintro e w5 ⟨a2, c2, l2, rfl, _, hd2, h5, ho5, hown5, hl5, hsz5⟩
      rw [parts_next2 HC.out.2.2 A B HR.out.1 HR.out.2] at hd2
      have hu5 := H4.out.2.1.other h5 ho5 (.inl H2.out.2.2)
      have hL1 : w5.ownsRow (wr.heap.size + 1) 2 1 (.slice a1 m1 c1) l1.length (i64s l1) := own_only H4.out.2.2.1.own ho5 (fun g hg e => by have := (own_lt H4.out.2.2.1.own hg).1; have := H4.out.2.2.1.low; have := H2.out.2.2; unfold InW at e; omega)
      have hb5 : wr.heap.size + 1 ≤ w5.heap.size := Nat.le_trans hsz4 ho5.size
      have hll : l1.length + l2.length ≤ 1000 := by have := HI.out; have := HM1.out; have := H4.out.2.2.2; omega
      obtain ⟨v3, w6, hrun, hown6, hgr6, hat6⟩ := run_append_ints hL1 hown5 hb5 (by omega)
      have hg6 : ∀ x, Value.ownBlock (.slice a1 m1 c1) = some x → b2 + 66 ≤ x := fun x hx => by have := (own_lt hL1 hx).1; have := H4.out.2.2.1.low; omega
      have hu6 := h5.grown hgr6 (fun x hx => by have := hg6 x hx; have := H2.out.2.2; omega)
      have hv6 := hu5.grown hgr6 hg6
      have hdp := HD1.out.parts (by have := HR.out; omega) (b := A + B) (r := l2) (by
        have e := parts_next HC.out.2.2 A (by have := HR.out; omega)
        have h : DueL (fun k => if isDue (c.next A) (c.at_ k) then none else c.at_ k) (A + B) l2 := hd2
        rw [e] at h
        exact h)
      have H6 := Lib.hid (And.intro hu6 (And.intro hv6 (And.intro (show OwnL w6 b2 (wr.heap.size + 1) v3 (l1 ++ l2) from ⟨hown6, H4.out.2.2.1.low⟩) (And.intro hdp hll))))
      obtain ⟨m2, hm2⟩ : ∃ m, l2.length = m := ⟨_, rfl⟩
      rw [hm2] at hrun
      try rw [hm2]
      clear hcall hd2 h5 ho5 hown5 hl5 hu5 hL1 hb5 hll hown6 hgr6 hat6 hg6 hu6 hv6 hdp hm2 hsz4 hsz5
      go_wp2_with (at_builtin; refine wpList_append_run rfl _ _ _ rfl _ _ rfl rfl v3 w6 hrun ?_)
      clear hrun
      have hcall := tick_law H6.out.2.1 (by have := HI.out; omega) (A + B)
      refine hcall.mono ?_
      rintro e w7 ⟨a7, c7, l7, rfl, hl7, hd7, h7, ho7, _, _, _⟩
      rw [parts_next HC.out.2.2 (A + B) (by have := HR.out; omega)] at hd7
      have heq : l1 ++ l2 = l7 := H6.out.2.2.2.1.unique hd7
      have hu7 := H6.out.1.other h7 ho7 (.inr H2.out.2.2)
      have hL7 := (H6.out.2.2.1.only ho7).read (by have := H6.out.2.2.2.2; rw [List.length_append]; omega)
      rw [heq] at hL7
      have H7 := Lib.hid (And.intro hu7 (And.intro h7 (And.intro hL7 hl7)))
      clear hcall hd7 h7 ho7 heq hu7 hL7 hl7
      obtain ⟨m7, hm7⟩ : ∃ m, l7.length = m := ⟨_, rfl⟩
      rw [hm7] at H7
      try rw [hm7]
      clear hm7
      go_wp2_with fail
      have hcall := csame_any _ _ _ _ _ H7.out.2.2.1 H7.out.2.2.2
      refine hcall.mono ?_
      rintro e w8 ⟨rfl, q, rfl⟩
      rw [show decide (l7 = l7) = true by simp]
      have H8 := Lib.hid (And.intro (H7.out.1.rep.only (Only.drewN NoneS w7 q) (fun _ _ h => h)) (H7.out.2.1.rep.only (Only.drewN NoneS w7 q) (fun _ _ h => h)))
      clear hcall
      go_wp2_with fail
      have hcall := now_any b1 (b1 + 1) b1 _ _ H8.out.1
      rw [show ((c.tick A).tick B).now = A + B from parts_next2 HC.out.2.2 A B HR.out.1 HR.out.2] at hcall
      refine hcall.mono ?_
      rintro e w9 ⟨rfl, rfl⟩
      clear hcall
      go_wp2_with fail
      have hcall := now_any b2 (b2 + 1) b2 _ _ H8.out.2
      rw [show (c.tick (A + B)).now = A + B from parts_next HC.out.2.2 (A + B) (by have := HR.out; omega)] at hcall
      refine hcall.mono ?_
      rintro e w9 ⟨rfl, rfl⟩
      clear hcall
      go_wp2
      go_ret
      exact ⟨by first | rfl | simp, (H7.out.1.bel).trans ((Only.drewN NoneS w7 q).below H7.out.1.bel.size (fun _ _ h => h))⟩
end Go.Proofs.Ytlhlbedbfjanhaa
