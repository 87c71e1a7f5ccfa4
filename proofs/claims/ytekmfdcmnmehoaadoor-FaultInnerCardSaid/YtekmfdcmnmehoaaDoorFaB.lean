/- Errors in errors: slices of texts; nest; FaultCode. -/
import Derived.Test.YtekmfdcmnmehoaaDoorFaA
namespace Go.Proofs.YtekmfdcmnmehoaaDoor
open Go.RowKit

def SRead (w : World) (v : Value) (ss : List ByteArray) : Prop :=
  ss.length ≤ 9223372036854775807 ∧ ∃ a cap, v = .slice a ss.length cap ∧ ss.length ≤ cap ∧ cap ≤ 9223372036854775807 ∧ (∀ s ∈ ss, s.size ≤ 9223372036854775807) ∧ (0 < ss.length → ∃ b off, a = some ⟨b, off, none⟩ ∧ ∀ i (h : i < ss.length), w.cell? ⟨b, off + i, none⟩ = some (.string ss[i]))
theorem SRead.below {w w2 : World} {v : Value} {ss : List ByteArray} (h : SRead w v ss) (hb : Below w.heap.size w w2) : SRead w2 v ss := by
  obtain ⟨hm, a, cap, rfl, h1, h2, h3, h⟩ := h
  refine ⟨hm, a, cap, rfl, h1, h2, h3, fun hl => ?_⟩
  obtain ⟨b, off, rfl, hc⟩ := h hl
  exact ⟨b, off, rfl, fun i hi => bcell hb (hc i hi)⟩
theorem SRead.take {w : World} {a : Option Addr} {n cap : Nat} {ss : List ByteArray} (h : SRead w (.slice a n cap) ss) (k : Nat) (hk : k ≤ n) : SRead w (.slice a k cap) (ss.take k) := by
  obtain ⟨h1, a2, c2, e, h3, h4, h5, h6⟩ := h
  injection e with e1 e2 e3
  subst e1 e2 e3
  have hl : (ss.take k).length = k := by simp; omega
  refine ⟨by omega, a, cap, by rw [hl], by omega, h4, fun s hs => h5 s (List.mem_of_mem_take hs), fun hp => ?_⟩
  obtain ⟨b, off, e, hc⟩ := h6 (by omega)
  exact ⟨b, off, e, fun i hi => by rw [List.getElem_take]; exact hc i (by omega)⟩

/-- v is an error of code c, met at the places ps, the outermost first. -/
def PC (w : World) : List ByteArray → Value → Int → Prop
  | [], v, c => v = .iface 27 (.int .i64 c)
  | p :: ps, v, c => ∃ b u, v = .iface 34 (.pointer (some ⟨b, 0, none⟩)) ∧ Blk w b 36 [.string p, u] ∧ PC w ps u c
theorem PC.below {w w2 : World} (hb : Below w.heap.size w w2) : ∀ {ps : List ByteArray} {v : Value} {c : Int}, PC w ps v c → PC w2 ps v c := by
  intro ps
  induction ps with
  | nil => intro v c h; exact h
  | cons p ps ih =>
    intro v c h
    obtain ⟨b, u, rfl, h1, h2⟩ := h
    exact ⟨b, u, rfl, h1.below hb, ih h2⟩
theorem PC.chain {w : World} : ∀ {ps : List ByteArray} {v : Value} {c : Int}, PC w ps v c → Chain w ps.length v c := by
  intro ps
  induction ps with
  | nil => intro v c h; exact h
  | cons p ps ih =>
    intro v c h
    obtain ⟨b, u, rfl, h1, h2⟩ := h
    exact ⟨b, p, u, rfl, h1, ih h2⟩
theorem PC.ne_nil {w : World} {ps : List ByteArray} {v : Value} {c : Int} (h : PC w ps v c) : ∃ t u, v = .iface t u := h.chain.ne_nil

set_option maxHeartbeats 1000000 in
theorem nest_nil (v : Value) (ss : List ByteArray) (w : World) (hv : SRead w v ss) : Calls Tryd.prog 10 #[.int .i64 0, v] w fun e w' => e = .returned .nilIface ∧ w' = w := by
  obtain ⟨hm, a, cap, rfl, hcap, hcap2, _, hc0⟩ := hv
  go_enter Tryd.func10, Tryd.ntmps10
  go_wp2_with fail
  refine (faultNew_nil _ _).mono ?_
  rintro e w2 ⟨rfl, rfl⟩
  go_wp2
  go_loopg [12, 5] ss.length (fun m kv ev wr => ∃ k : Nat, kv = .int .i64 (k : Int) ∧ k + m = ss.length ∧ ev = .nilIface ∧ wr = w2)
  case atStart => exact ⟨0, rfl, by omega, rfl, rfl⟩
  case round =>
    obtain ⟨k, rfl, hkm, rfl, rfl⟩ := hrel
    cases gk with
    | zero =>
      have hkn : ¬ ((k : Int) < (ss.length : Int)) := by omega
      go_wp2
      go_ret
      exact ⟨rfl, rfl⟩
    | succ m =>
      have hkn : (k : Int) < (ss.length : Int) := by omega
      have hk0 : (0 : Int) ≤ (k : Int) := by omega
      obtain ⟨b, o, rfl, hc⟩ := hc0 (by omega)
      have x0 := hc k (by omega)
      clear hc hc0
      go_wp2_with fail
      refine (wrap_nil _ _).mono ?_
      rintro e w3 ⟨rfl, rfl⟩
      go_wp2
      go_roundg m
      case measure => omega
      case rel => exact ⟨k + 1, by go_num, by omega, rfl, rfl⟩

set_option maxHeartbeats 1000000 in
theorem nest_some (c : Int) (v : Value) (ss : List ByteArray) (w : World) (hc : (c == 0) = false) (hv : SRead w v ss) : Calls Tryd.prog 10 #[.int .i64 c, v] w fun e w' => ∃ u, e = .returned u ∧ PC w' (ss.reverse ++ [⟨#[]⟩]) u c ∧ Below w.heap.size w w' := by
  have HC := Lib.hid hc
  obtain ⟨hm, a, cap, rfl, hcap, hcap2, _, hc0⟩ := hv
  clear hc
  go_enter Tryd.func10, Tryd.ntmps10
  go_wp2_with fail
  refine (faultNew_some c _ w HC.out).mono ?_
  rintro e w2 ⟨rfl, hw2⟩
  have hb2 : Below w.heap.size w w2 := by rw [hw2]; exact (Below.refl _ _).alloc (Nat.le_refl _) _
  have hp2 : PC w2 [⟨#[]⟩] (.iface 34 (.pointer (some ⟨w.heap.size, 0, none⟩))) c := ⟨_, _, rfl, by rw [hw2]; exact heap_alloc_new w _, rfl⟩
  have H2 := Lib.hid (And.intro hp2 hb2)
  clear hw2 hp2 hb2
  go_wp2
  go_loopg [12, 5] ss.length (fun m kv ev wr => ∃ k : Nat, kv = .int .i64 (k : Int) ∧ k + m = ss.length ∧ PC wr ((ss.take k).reverse ++ [⟨#[]⟩]) ev c ∧ Below w.heap.size w wr)
  case atStart => exact ⟨0, rfl, by omega, H2.out.1, H2.out.2⟩
  case round =>
    obtain ⟨k, rfl, hkm, hp, hbr⟩ := hrel
    obtain ⟨t5, y5, rfl⟩ := hp.ne_nil
    have HP := Lib.hid (And.intro hp hbr)
    clear hp hbr
    cases gk with
    | zero =>
      have hkn : ¬ ((k : Int) < (ss.length : Int)) := by omega
      have htk : ss.take k = ss := List.take_of_length_le (by omega)
      have HTK := Lib.hid htk
      clear htk
      go_wp2
      go_ret
      exact ⟨_, rfl, by have := HP.out.1; rw [HTK.out] at this; exact this, HP.out.2⟩
    | succ m =>
      have hkn : (k : Int) < (ss.length : Int) := by omega
      have hk0 : (0 : Int) ≤ (k : Int) := by omega
      obtain ⟨b, o, rfl, hcc⟩ := hc0 (by omega)
      obtain ⟨s, hs⟩ : ∃ s, s = ss[k]'(by omega) := ⟨_, rfl⟩
      have x0 : wr.cell? ⟨b, o + k, none⟩ = some (.string s) := by rw [hs]; exact bcell HP.out.2 (hcc k (by omega))
      have htk : ss.take (k + 1) = ss.take k ++ [s] := by rw [hs]; exact List.take_succ_eq_append_getElem (by omega)
      have HTK := Lib.hid htk
      clear hcc hs htk
      go_wp2_with fail
      refine (wrap_some _ _ s wr).mono ?_
      rintro e w3 ⟨rfl, hw3⟩
      have hb3 : Below wr.heap.size wr w3 := by rw [hw3]; exact (Below.refl _ _).alloc (Nat.le_refl _) _
      have hB3 : Blk w3 wr.heap.size 36 [.string s, .iface t5 y5] := by rw [hw3]; exact heap_alloc_new wr _
      have H3 : Hid (PC w3 ((ss.take (k + 1)).reverse ++ [⟨#[]⟩]) (.iface 34 (.pointer (some ⟨wr.heap.size, 0, none⟩))) c ∧ Below w.heap.size w w3) := Lib.hid ⟨by
        rw [HTK.out, List.reverse_append]
        exact ⟨_, _, rfl, hB3, HP.out.1.below hb3⟩, HP.out.2.trans (hb3.mono HP.out.2.size)⟩
      clear hw3 hb3 hB3
      go_wp2
      go_roundg m
      case measure => omega
      case rel => exact ⟨k + 1, by go_num, by omega, H3.out⟩

end Go.Proofs.YtekmfdcmnmehoaaDoor
