/- The key reader's parts, at any bytes: take, is, text, number. -/
import Derived.Test.YthlioinmeimhoaaDoorKpB
namespace Go.Proofs.YthlioinmeimhoaaDoor
open Go.Shelf Go.RowKit Go.Lib

/-- a reader that has so many bytes left; or one that has gone bad. -/
def RS (w : World) (rb : Nat) : Option BL → Prop
  | some s => Blk w rb 78 [.string (BA s), .bool false]
  | none => ∃ t, Blk w rb 78 [.string t, .bool true]
theorem RS.lt {w : World} {rb : Nat} {o : Option BL} (h : RS w rb o) : rb < w.heap.size := by
  cases o with
  | some s => exact Blk.lt h
  | none => exact Blk.lt h.choose_spec
theorem RS.below {w w2 : World} {rb : Nat} {o : Option BL} (h : RS w rb o) (hb : Below w.heap.size w w2) : RS w2 rb o := by
  cases o with
  | some s => exact Blk.below h hb
  | none => exact ⟨_, Blk.below h.choose_spec hb⟩
theorem RS.alloc {w : World} {rb : Nat} {o : Option BL} (h : RS w rb o) (b : Obj) : RS (w.alloc b) rb o := h.below ((Below.refl _ _).alloc (Nat.le_refl _) _)
theorem RS.only {S : Nat → Prop} {w w2 : World} {rb : Nat} {o : Option BL} (h : RS w rb o) (hb : Only S w w2) (hs : ¬ S rb) : RS w2 rb o := by
  cases o with
  | some s => exact Blk.only h hb hs
  | none => exact ⟨_, Blk.only h.choose_spec hb hs⟩

theorem ba_tlx (l : BL) : (BA l).toList = l := by rw [Lib.toList_data]
theorem ba_take (s : BL) (n : Nat) : (BA s).extract 0 n = BA (s.take n) := by
  apply ByteArray.ext
  simp
theorem ba_drop (s : BL) (n : Nat) : (BA s).extract n (BA s).size = BA (s.drop n) := by
  apply ByteArray.ext
  simp [ba_size]
  rw [List.take_of_length_le (by simp)]
theorem take_some (rb n : Nat) (s : BL) (w : World) (hB : RS w rb (some s)) (hn : n ≤ s.length) :
    Calls Tryd.prog 60 #[.pointer (some ⟨rb, 0, none⟩), .int .i64 n] w fun e w' => e = .returned (.string (BA (s.take n))) ∧ RS w' rb (some (s.drop n)) ∧ Only (· = rb) w w' := by
  refine (take_ok rb n (BA s) w hB (by rw [ba_size]; exact hn)).mono ?_
  rintro e w' ⟨rfl, h, ho⟩
  rw [ba_drop] at h
  exact ⟨by rw [ba_take], h, ho⟩
theorem take_short (rb n : Nat) (s : BL) (w : World) (hB : RS w rb (some s)) (hn : s.length < n) :
    Calls Tryd.prog 60 #[.pointer (some ⟨rb, 0, none⟩), .int .i64 n] w fun e w' => e = .returned (.string ⟨#[]⟩) ∧ RS w' rb none ∧ Only (· = rb) w w' := by
  refine (take_no rb n (BA s) w hB (by rw [ba_size]; exact hn)).mono ?_
  rintro e w' ⟨rfl, h, ho⟩
  exact ⟨rfl, ⟨_, h⟩, ho⟩
set_option maxHeartbeats 2000000 in
set_option maxRecDepth 100000 in
theorem take_bad (rb n : Nat) (w : World) (hB : RS w rb none) :
    Calls Tryd.prog 60 #[.pointer (some ⟨rb, 0, none⟩), .int .i64 n] w fun e w' => e = .returned (.string ⟨#[]⟩) ∧ RS w' rb none ∧ Only (· = rb) w w' := by
  obtain ⟨t, hB⟩ := hB
  have c1 := hB.cell 1
  have f1 := hB.frozen 1
  have H := Lib.hid hB
  clear hB
  go_enter Tryd.func60, Tryd.ntmps60
  go_wp2
  go_ret
  exact ⟨rfl, ⟨t, H.out.set 1 _⟩, Only.set1 _ _ _ _⟩

set_option maxHeartbeats 2000000 in
set_option maxRecDepth 100000 in
theorem is_yes (rb : Nat) (p : ByteArray) (l r : BL) (w : World) (hp : p.data.toList = l) (hB : RS w rb (some (l ++ r))) :
    Calls Tryd.prog 66 #[.pointer (some ⟨rb, 0, none⟩), .string p] w fun e w' => e = .returned (.bool true) ∧ RS w' rb (some r) ∧ Only (· = rb) w w' := by
  have hps : p.size = l.length := by rw [← hp, Array.length_toList]; rfl
  have hdr : (BA (l ++ r)).extract p.size (BA (l ++ r)).size = BA r := by rw [hps, ba_drop]; simp
  obtain ⟨s, hs⟩ : ∃ s, BA (l ++ r) = s := ⟨_, rfl⟩
  have hB' : Blk w rb 78 [.string s, .bool false] := by rw [← hs]; exact hB
  have hpre : Lib.hasPrefix s.data.toList p.data.toList = true := by rw [← hs, hp, show (BA (l ++ r)).data.toList = l ++ r from rfl]; exact List.isPrefixOf_iff_prefix.mpr (List.prefix_append l r)
  have hle : p.size ≤ s.size := by rw [hps, ← hs, ba_size]; simp
  have hex : s.extract p.size s.size = BA r := by rw [← hs]; exact hdr
  have cP := Tryd.strings_HasPrefix s p w
  rw [hpre] at cP
  have c0 := hB'.cell 0
  have c1 := hB'.cell 1
  have f0 := hB'.frozen 0
  have H := Lib.hid (And.intro hB' (And.intro cP hex))
  clear hB hB' hp hps hdr hs hpre cP hex
  have hlz : (p.size : Int) ≤ (s.size : Int) := by omega
  go_enter Tryd.func66, Tryd.ntmps66
  go_wp2_with fail
  refine H.out.2.1.mono ?_
  rintro e w2 ⟨rfl, rfl⟩
  go_wp2
  go_ret
  rw [H.out.2.2]
  exact ⟨rfl, H.out.1.set 0 _, Only.set1 _ _ _ _⟩
set_option maxHeartbeats 2000000 in
set_option maxRecDepth 100000 in
theorem is_no (rb : Nat) (p : ByteArray) (s0 : BL) (w : World) (hp : Lib.hasPrefix s0 p.data.toList = false) (hB : RS w rb (some s0)) :
    Calls Tryd.prog 66 #[.pointer (some ⟨rb, 0, none⟩), .string p] w fun e w' => e = .returned (.bool false) ∧ w' = w := by
  have cP := Tryd.strings_HasPrefix (BA s0) p w
  rw [show (BA s0).data.toList = s0 from rfl, hp] at cP
  have hB' : Blk w rb 78 [.string (BA s0), .bool false] := hB
  obtain ⟨s, hs⟩ : ∃ s, BA s0 = s := ⟨_, rfl⟩
  rw [hs] at cP hB'
  have c0 := hB'.cell 0
  have c1 := hB'.cell 1
  have H := Lib.hid (And.intro hB' cP)
  clear hB hB' hp hs cP
  go_enter Tryd.func66, Tryd.ntmps66
  go_wp2_with fail
  refine H.out.2.mono ?_
  rintro e w2 ⟨rfl, rfl⟩
  go_wp2
  go_ret
  exact ⟨rfl, rfl⟩
set_option maxHeartbeats 2000000 in
set_option maxRecDepth 100000 in
theorem is_bad (rb : Nat) (p : ByteArray) (w : World) (hB : RS w rb none) :
    Calls Tryd.prog 66 #[.pointer (some ⟨rb, 0, none⟩), .string p] w fun e w' => e = .returned (.bool false) ∧ w' = w := by
  obtain ⟨t, hB⟩ := hB
  have c1 := hB.cell 1
  clear hB
  go_enter Tryd.func66, Tryd.ntmps66
  go_wp2
  go_ret
  exact ⟨rfl, rfl⟩
end Go.Proofs.YthlioinmeimhoaaDoor
