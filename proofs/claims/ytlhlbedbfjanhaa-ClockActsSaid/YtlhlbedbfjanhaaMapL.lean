/- How many entries a map has. -/
import Derived.Test.YtlhlbedbfjanhaaMap
namespace Go.Proofs.Ytlhlbedbfjanhaa
open Go.RowKit

theorem look_some {κ : Type} [DecidableEq κ] {k : κ} : ∀ {ks : List (κ × Value)}, (look ks k).isSome = true ↔ k ∈ ks.map Prod.fst
  | [] => by simp [look, fnd]
  | p :: ks => by
    rw [look_cons]
    by_cases e : k = p.1
    · simp [e]
    · simp only [e, if_false, List.map_cons, List.mem_cons, false_or]
      exact look_some
theorem MapRep.len {κ : Type} [DecidableEq κ] {inj : κ → Value} {P : Program} {t ty : TypeId} {w : World} {b : Nat} {m : κ → Option Value} (h : MapRep inj w b m) (ht : P.underlying t = some (.map (P.mapKeyOf t) (P.mapElemOf t)))
    {L : List κ} (hL : L.Nodup) (hm : ∀ k, k ∈ L ↔ (m k).isSome = true) : (Builtin.len_ #[t] ty #[.map (some b)]).run P w = .ok (.int .i64 (L.length : Int)) w := by
  obtain ⟨es, clock, ks, hb, hes, hnd, hk⟩ := h
  rw [run_len_map w t ty b es clock ht hb]
  have hp : (ks.map Prod.fst).Perm L := (List.perm_ext_iff_of_nodup hnd hL).2 (fun k => by rw [hm k, hk k, look_some])
  have h1 := hp.length_eq
  have h2 := congrArg List.length hes
  simp only [List.length_map, Array.length_toList] at h1 h2
  rw [h2, h1]; rfl
end Go.Proofs.Ytlhlbedbfjanhaa
