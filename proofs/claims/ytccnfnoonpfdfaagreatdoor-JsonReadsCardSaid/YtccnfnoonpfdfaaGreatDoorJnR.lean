/- json.Print (printed by wip/gen_jnr.py). -/
import Derived.Test.YtccnfnoonpfdfaaGreatDoorJnO
namespace Go.Proofs.YtccnfnoonpfdfaaGreatDoor
open Go.Shelf Go.RowKit Go.Lib

def EG (w : World) : Prop := Env w ∧ 11 ≤ w.heap.size
theorem EG.below {w w2 : World} (h : EG w) (hb : Below w.heap.size w w2) : EG w2 := ⟨h.1.below h.2 hb, Nat.le_trans h.2 hb.size⟩
def PrC (f : FuncId) (w : World) (v : V) (c : List Value) : Prop := Calls Tryz.prog f #[.agg c.toArray] w fun e w' => e = .returned (.string (BA (printV v))) ∧ Below w.heap.size w w'
def PrH (f : FuncId) (x : V) : Prop := ∀ (S : Nat → Prop) (w : World) (c : List Value), VAt S w x c → EG w → (printV x).length ≤ 1000000 → PrC f w x c
theorem decDigits_eq (n : Nat) : Lib.decDigits n = digN n := by
  induction n using Nat.strongRecOn with
  | _ n ih =>
    rw [Lib.decDigits, digN]
    by_cases h : n < 10
    · rw [dif_pos h, if_pos h]
    · rw [dif_neg h, if_neg h, ih (n / 10) (by omega)]
theorem itoa_eq (n : Int) : Lib.itoa n = intL n := by
  unfold Lib.itoa intL
  by_cases h : n < 0
  · rw [if_pos h, if_pos h, decDigits_eq, show n.natAbs = (-n).toNat by omega]
  · rw [if_neg h, if_neg h, decDigits_eq]
theorem grow_belowJ (w : World) (k : Nat) (os : Array Obj) : Below w.heap.size w (Go.Sort.grow (w.drewN k) os) :=
  ⟨rfl, rfl, rfl, by simp [Go.Sort.grow], fun i hi => by
    show ((w.drewN k).heap ++ os)[i]? = _
    rw [Array.getElem?_append_left (by show i < w.heap.size; omega)]
    rfl⟩
def strC (xs : List BL) : List Value := xs.map fun x => .string (BA x)
theorem infoS : (Tryz.prog.info? 9).map (fun i => (i.zero, i.size, i.bytes)) = some (some (.string ⟨#[]⟩), 1, 16) := by kernel_rfl
theorem str_append {base : Nat} {w : World} {op : Option Addr} {cnt oc : Nat} {xs : List BL} (h : w.ownsRow base 9 1 (.slice op cnt oc) cnt (strC xs)) (k : ByteArray) (x : BL) (hk : BA x = k) (hn : cnt ≤ 1000000) (hb : base ≤ w.heap.size) :
    ∃ p2 cc w', (∀ ty, (Builtin.append_ #[36, 36] ty #[.slice op cnt oc, .slice (some ⟨w.heap.size, 0, none⟩) 1 1]).run Tryz.prog (w.alloc (.cells #[.string k] 9)) = .ok (.slice p2 (cnt + 1) cc) w') ∧ w'.ownsRow base 9 1 (.slice p2 (cnt + 1) cc) (cnt + 1) (strC (xs ++ [x])) ∧
      Only (fun k => some k = (Value.slice op cnt oc).ownBlock) w w' := by
  obtain ⟨inf, hi, hii⟩ := Option.map_eq_some_iff.1 infoS
  simp only [Prod.mk.injEq] at hii
  obtain ⟨i1, i2, i3⟩ := hii
  have hnew : Blk (w.alloc (.cells #[.string k] 9)) w.heap.size 9 [.string k] := heap_alloc_new w _
  obtain ⟨v', w', hr, ho, hg, _, hat⟩ := (fun ty => run_append_own_at (P := Tryz.prog) (w.alloc (.cells #[.string k] 9)) base 36 ty 9 inf _ 1 16 Tryz.underlying36 hi i1 i2 i3 rfl (by decide) (.slice op cnt oc) cnt (strC xs) (h.alloc _)
    ⟨w.heap.size, 0, none⟩ 1 1 [.string k] rfl (fun j u hu => by rw [add_at, hnew.cell j]; exact hu) (fun u hu => by simp at hu; rw [hu]; rfl) (by unfold maxLen; omega) (by omega) (by simp; omega)) 0
  obtain ⟨p2, cc, rfl⟩ := slice_of_own ho
  refine ⟨p2, cc, w', fun ty => hr, ?_, (Only.alloc _ w _).trans (Only.ofGrown hg (fun k e => e.symm))⟩
  rw [← hk] at ho
  unfold strC at ho ⊢
  rw [List.map_append]
  exact ho
theorem join_own {B : Nat} {w : World} {p : Option Addr} {n c : Nat} {xs : List BL} (h : w.ownsRow B 9 1 (.slice p n c) n (strC xs)) (hn : n ≤ 1000000) (hlen : (Lib.join xs [44]).length ≤ 1000000) :
    Calls Tryz.prog 27 #[.slice p n c, .string ⟨#[44]⟩] w fun e w' => e = .returned (.string (BA (Lib.join xs [44]))) ∧ Below w.heap.size w w' := by
  have hxl : xs.length = n := by have := h.1; unfold strC at this; rw [List.length_map] at this; omega
  rcases ownsRow_cases h with ⟨hv, h0, _⟩ | ⟨g, c2, hv⟩
  · injection hv with h1 h2 h3
    subst h1 h2 h3
    have : xs = [] := List.eq_nil_of_length_eq_zero hxl
    subst this
    refine (Tryz.strings_Join_none none 0 ⟨#[44]⟩ w).mono ?_
    rintro e w' ⟨rfl, rfl⟩
    exact ⟨rfl, Below.refl _ _⟩
  · injection hv with h1 h2 h3
    subst h1 h3
    obtain ⟨_, _, _, _, hle, _⟩ := blk_of_ownsRow h
    have hj := Tryz.strings_Join g 0 c (xs.map fun x => BA x) ⟨#[44]⟩ w (fun j x hx => by
      rw [Nat.zero_add, h.cellAt j (by have := (List.getElem?_eq_some_iff.1 hx).1; rw [List.length_map] at this; omega)]
      unfold strC
      rw [List.getElem?_map] at hx ⊢
      obtain ⟨y, hy, rfl⟩ := Option.map_eq_some_iff.1 hx
      rw [hy]; rfl) (h.lt g rfl).2 (by rw [List.length_map]; omega) (by rw [List.length_map]; omega) (by
      rw [List.map_map, show (fun x : ByteArray => x.data.toList) ∘ (fun x : BL => BA x) = id by funext x; rfl, List.map_id]
      show (Lib.join xs [44]).length ≤ _
      omega)
    rw [List.length_map, hxl, List.map_map, show (fun x : ByteArray => x.data.toList) ∘ (fun x : BL => BA x) = id by funext x; rfl, List.map_id] at hj
    exact hj
theorem tail_join : ∀ (l : List V), Lib.joinTail [44] (l.map printV) = tailV l
  | [] => by rw [tailV]; rfl
  | v :: l => by
    have ih := tail_join l
    unfold Lib.joinTail at ih ⊢
    rw [tailV, List.map_cons, List.map_cons, List.flatten_cons, ih]
    rfl
theorem join_list (l : List V) : Lib.join (l.map printV) [44] = joinV l := by
  cases l with
  | nil => rw [joinV]; rfl
  | cons v l => rw [List.map_cons, Lib.join_cons, tail_join, joinV]
theorem tail_joinF : ∀ (l : List (BL × V)), Lib.joinTail [44] (l.map printF) = tailF l
  | [] => by rw [tailF]; rfl
  | v :: l => by
    have ih := tail_joinF l
    unfold Lib.joinTail at ih ⊢
    rw [tailF, List.map_cons, List.map_cons, List.flatten_cons, ih]
    rfl
theorem join_listF (l : List (BL × V)) : Lib.join (l.map printF) [44] = joinF l := by
  cases l with
  | nil => rw [joinF]; rfl
  | cons v l => rw [List.map_cons, Lib.join_cons, tail_joinF, joinF]
theorem tailV_mem {l : List V} {x : V} (h : x ∈ l) : (printV x).length ≤ (tailV l).length := by
  induction l with
  | nil => cases h
  | cons v l ih =>
    rw [tailV]
    rcases List.mem_cons.1 h with rfl | h
    · simp only [List.length_cons, List.length_append]; omega
    · have := ih h; simp only [List.length_cons, List.length_append]; omega
theorem joinV_mem {l : List V} {x : V} (h : x ∈ l) : (printV x).length ≤ (joinV l).length := by
  cases l with
  | nil => cases h
  | cons v l =>
    rw [joinV]
    rcases List.mem_cons.1 h with rfl | h
    · simp only [List.length_append]; omega
    · have := tailV_mem h; simp only [List.length_append]; omega
theorem tailF_mem {l : List (BL × V)} {x : BL × V} (h : x ∈ l) : (printF x).length ≤ (tailF l).length := by
  induction l with
  | nil => cases h
  | cons v l ih =>
    rw [tailF]
    rcases List.mem_cons.1 h with rfl | h
    · simp only [List.length_cons, List.length_append]; omega
    · have := ih h; simp only [List.length_cons, List.length_append]; omega
theorem joinF_mem {l : List (BL × V)} {x : BL × V} (h : x ∈ l) : (printF x).length ≤ (joinF l).length := by
  cases l with
  | nil => cases h
  | cons v l =>
    rw [joinF]
    rcases List.mem_cons.1 h with rfl | h
    · simp only [List.length_append]; omega
    · have := tailF_mem h; simp only [List.length_append]; omega
theorem tailV_long (l : List V) : l.length ≤ (tailV l).length := by
  induction l with
  | nil => exact Nat.zero_le _
  | cons v l ih => rw [tailV]; simp only [List.length_cons, List.length_append]; omega
theorem tailF_long (l : List (BL × V)) : l.length ≤ (tailF l).length := by
  induction l with
  | nil => exact Nat.zero_le _
  | cons v l ih => rw [tailF]; simp only [List.length_cons, List.length_append]; omega
theorem joinV_long (l : List V) : l.length ≤ (joinV l).length + 1 := by
  cases l with
  | nil => exact Nat.zero_le _
  | cons v l => have := tailV_long l; rw [joinV]; simp only [List.length_cons, List.length_append]; omega
theorem joinF_long (l : List (BL × V)) : l.length ≤ (joinF l).length + 1 := by
  cases l with
  | nil => exact Nat.zero_le _
  | cons v l => have := tailF_long l; rw [joinF]; simp only [List.length_cons, List.length_append]; omega
theorem decodeN_four (n b0 b1 b2 b3 : Nat) : (decodeN n b0 b1 b2 b3).2 ≤ 4 := by
  unfold decodeN
  repeat' split
  all_goals (simp only; omega)
theorem decodeL_four (l : BL) : (decodeL l).2 ≤ 4 := by
  unfold decodeL
  rw [decode_at]
  exact decodeN_four _ _ _ _ _
theorem chunks_long (s : BL) : s.length ≤ (chunks s).length * 4 := by
  induction s using by_chars with
  | h0 => simp [chunks_nil]
  | h1 l hne ih =>
    have h1 := (chunkL_length l hne).2
    have hw := decodeL_four l
    rw [chunks_step l hne, List.length_append]
    rw [List.length_drop] at ih
    omega
theorem quote_long (s : BL) : (quoteL s).length ≤ 1000000 → s.length ≤ 1099511627776 := by
  intro h
  have := chunks_long s
  rw [quote_head] at h
  simp only [List.length_cons, List.length_append] at h
  omega

set_option maxHeartbeats 8000000 in
set_option maxRecDepth 100000 in
theorem print_null (w : World) : PrC 12 w .null [.int .i64 0, .int .i64 0, .string ⟨#[]⟩, .slice none 0 0, .slice none 0 0] := by
  unfold PrC
  rw [printV]
  go_enter Tryz.func12, Tryz.ntmps12
  go_wp2
  go_ret
  exact ⟨rfl, (Below.refl _ w).alloc (Nat.le_refl _) _⟩

set_option maxHeartbeats 8000000 in
set_option maxRecDepth 100000 in
theorem print_bool1 (n : Int) (hn : n = 1) (w : World) : PrC 12 w (.bool n) [.int .i64 1, .int .i64 n, .string ⟨#[]⟩, .slice none 0 0, .slice none 0 0] := by
  unfold PrC
  rw [printV, if_pos hn]
  have hq : (n == 1) = true := by rw [hn]; rfl
  have HW := Lib.hid (show Below w.heap.size w (w.alloc (.cells #[.int .i64 1, .int .i64 n, .string ⟨#[]⟩, .slice none 0 0, .slice none 0 0] 28)) from (Below.refl _ w).alloc (Nat.le_refl _) _)
  subst hn
  go_enter Tryz.func12, Tryz.ntmps12
  go_wp2_with fail
  refine (Tryz.strconv_FormatBool true _).mono ?_
  rintro e w2 ⟨rfl, rfl⟩
  go_wp2
  go_ret
  exact ⟨rfl, HW.out⟩

set_option maxHeartbeats 8000000 in
set_option maxRecDepth 100000 in
theorem print_bool0 (n : Int) (hn : ¬ n = 1) (w : World) : PrC 12 w (.bool n) [.int .i64 1, .int .i64 n, .string ⟨#[]⟩, .slice none 0 0, .slice none 0 0] := by
  unfold PrC
  rw [printV, if_neg hn]
  have hq : (n == 1) = false := by exact beq_eq_false_iff_ne.2 hn
  have HW := Lib.hid (show Below w.heap.size w (w.alloc (.cells #[.int .i64 1, .int .i64 n, .string ⟨#[]⟩, .slice none 0 0, .slice none 0 0] 28)) from (Below.refl _ w).alloc (Nat.le_refl _) _)

  go_enter Tryz.func12, Tryz.ntmps12
  go_wp2_with fail
  refine (Tryz.strconv_FormatBool false _).mono ?_
  rintro e w2 ⟨rfl, rfl⟩
  go_wp2
  go_ret
  exact ⟨rfl, HW.out⟩

set_option maxHeartbeats 8000000 in
set_option maxRecDepth 100000 in
theorem print_int (n : Int) (hn : -9223372036854775808 ≤ n ∧ n ≤ 9223372036854775807) (w : World) (hE : EG w) : PrC 12 w (.int n) [.int .i64 2, .int .i64 n, .string ⟨#[]⟩, .slice none 0 0, .slice none 0 0] := by
  unfold PrC
  rw [printV]
  obtain ⟨W1, hW1⟩ : ∃ W, w.alloc (.cells #[.int .i64 2, .int .i64 n, .string ⟨#[]⟩, .slice none 0 0, .slice none 0 0] 28) = W := ⟨_, rfl⟩
  have hb1 : Below w.heap.size w W1 := by rw [← hW1]; exact (Below.refl _ w).alloc (Nat.le_refl _) _
  have hcall := Tryz.strconv_FormatInt_10 n hn.1 hn.2 W1 (hE.below hb1).1.pow
  rw [itoa_eq] at hcall
  have H := Lib.hid (And.intro hW1 (And.intro hcall hb1))
  clear hW1 hcall hb1 hE
  go_enter Tryz.func12, Tryz.ntmps12
  go_wp2_with fail
  rw [H.out.1]
  refine (show Calls _ _ _ _ _ from H.out.2.1).mono ?_
  rintro e w2 ⟨rfl, k, os, rfl⟩
  have HF := Lib.hid (H.out.2.2.trans ((grow_belowJ _ k os).mono H.out.2.2.size))
  go_wp2
  go_ret
  exact ⟨rfl, HF.out⟩

set_option maxHeartbeats 8000000 in
set_option maxRecDepth 100000 in
theorem print_text (s : BL) (hs : s.length ≤ 1099511627776) (w : World) (hE : EG w) : PrC 12 w (.text s) [.int .i64 3, .int .i64 0, .string (BA s), .slice none 0 0, .slice none 0 0] := by
  unfold PrC
  rw [printV]
  obtain ⟨W1, hW1⟩ : ∃ W, w.alloc (.cells #[.int .i64 3, .int .i64 0, .string (BA s), .slice none 0 0, .slice none 0 0] 28) = W := ⟨_, rfl⟩
  have hb1 : Below w.heap.size w W1 := by rw [← hW1]; exact (Below.refl _ w).alloc (Nat.le_refl _) _
  have hcall := quote_any (BA s) W1 (by rw [ba_size]; exact hs) (hE.below hb1).1.tabs
  have H := Lib.hid (And.intro hW1 (And.intro hcall hb1))
  clear hW1 hcall hb1 hE
  go_enter Tryz.func12, Tryz.ntmps12
  go_wp2_with fail
  rw [H.out.1]
  refine (show Calls _ _ _ _ _ from H.out.2.1).mono ?_
  rintro e w2 ⟨rfl, hb2⟩
  have HF := Lib.hid (H.out.2.2.trans (hb2.mono H.out.2.2.size))
  clear hb2
  go_wp2
  go_ret
  exact ⟨rfl, HF.out⟩

set_option maxHeartbeats 8000000 in
set_option maxRecDepth 100000 in
theorem print_list (l : List V) (cs : List Value) (p : Option Addr) (cap : Nat) (S : Nat → Prop) (w : World) (hV : VsAt S w l cs) (hr : 0 < l.length → ∃ b, p = some ⟨b, 0, none⟩ ∧ ∀ k u, cs[k]? = some u → w.cell? ⟨b, k, none⟩ = some u) (hE : EG w)
    (hlen : (joinV l).length + 2 ≤ 1000000) (ih : ∀ x ∈ l, PrH 12 x) : PrC 12 w (.list l) [.int .i64 4, .int .i64 0, .string ⟨#[]⟩, .slice p l.length cap, .slice none 0 0] := by
  have hln := joinV_long l
  obtain ⟨n, hn⟩ : ∃ n, l.length = n := ⟨_, rfl⟩
  have HV := Lib.hid (And.intro hV (And.intro hr (And.intro hE (And.intro hlen (And.intro ih hn)))))
  rw [hn] at hln ⊢
  have hnn : n ≤ 1000000 := by omega
  clear hV hr hE hlen ih hln hn
  unfold PrC
  rw [printV]
  obtain ⟨P, hP⟩ : ∃ P, w.heap.size = P := ⟨_, rfl⟩
  obtain ⟨W0, hW0⟩ : ∃ W, w.alloc (.cells #[.int .i64 4, .int .i64 0, .string ⟨#[]⟩, .slice p n cap, .slice none 0 0] 28) = W := ⟨_, rfl⟩
  have hb0 : Below w.heap.size w W0 := by rw [← hW0]; exact (Below.refl _ w).alloc (Nat.le_refl _) _
  have hs0 : P + 1 ≤ W0.heap.size := by rw [← hW0, ← hP]; simp
  have H0 := Lib.hid (And.intro hW0 (And.intro hb0 (And.intro hP hs0)))
  clear hb0 hW0 hs0
  go_enter Tryz.func12, Tryz.ntmps12
  go_wp2_with fail
  rw [H0.out.1]
  clear hP
  go_loopg [3, 31] n (fun gk lv sv wr => ∃ (i : Nat) (p3 : Option Addr) (c3 : Nat), gk + i = n ∧ sv = .int .i64 i ∧ lv = .slice p3 i c3 ∧ Hid (wr.ownsRow (P + 1) 9 1 (.slice p3 i c3) i (strC ((l.take i).map printV)) ∧ Below w.heap.size w wr ∧ P + 1 ≤ wr.heap.size))
  case atStart => exact ⟨0, none, 0, by omega, rfl, rfl, Lib.hid ⟨⟨rfl, .inl ⟨rfl, rfl⟩⟩, H0.out.2.1, H0.out.2.2.2⟩⟩
  case round =>
    obtain ⟨i, p3, c3, hg, rfl, rfl, HI⟩ := hrel
    by_cases hi : i < n
    · have hiz : (i : Int) < (n : Int) := by omega
      have hwK : IntKind.i64.wrap ((i : Int) + 1) = ((i + 1 : Nat) : Int) := by rw [IntWalk.i64_in _ (by omega)]; omega
      have hil : i < l.length := by have := HV.out.2.2.2.2.2; omega
      obtain ⟨b, hpe, hrb⟩ := HV.out.2.1 (by omega)
      subst hpe
      obtain ⟨d0, d1, d2, d3, d4, hx, e0, e1, e2, e3, e4⟩ := HV.out.1.get i hil
      obtain ⟨q0, q1, q2, q3, q4, q5, q6, q7, q8, hq⟩ := hx.shape
      simp only [List.cons.injEq, and_true] at hq
      obtain ⟨rfl, rfl, rfl, rfl, rfl⟩ := hq
      have k0 := bcell HI.out.2.1 (hrb _ _ e0)
      have k1 := bcell HI.out.2.1 (hrb _ _ e1)
      have k2 := bcell HI.out.2.1 (hrb _ _ e2)
      have k3 := bcell HI.out.2.1 (hrb _ _ e3)
      have k4 := bcell HI.out.2.1 (hrb _ _ e4)
      obtain ⟨x, hxe⟩ : ∃ x, l[i] = x := ⟨_, rfl⟩
      rw [hxe] at hx
      have hmem : x ∈ l := by rw [← hxe]; exact List.getElem_mem hil
      have hxl := joinV_mem hmem
      have hih := HV.out.2.2.2.2.1 x hmem
      have htk : (l.take (i + 1)).map printV = (l.take i).map printV ++ [printV x] := by rw [List.take_succ_eq_append_getElem hil, List.map_append, hxe]; rfl
      obtain ⟨W3, hW3⟩ : ∃ W3, wr.alloc (.cells #[.int .i64 q0, .int .i64 q1, .string q2, .slice q3 q4 q5, .slice q6 q7 q8] 28) = W3 := ⟨_, rfl⟩
      have hb3 : Below wr.heap.size wr W3 := by rw [← hW3]; exact (Below.refl _ wr).alloc (Nat.le_refl _) _
      have hbw3 := HI.out.2.1.trans (hb3.mono HI.out.2.1.size)
      have hcall := hih S W3 [.int .i64 q0, .int .i64 q1, .string q2, .slice q3 q4 q5, .slice q6 q7 q8] (hx.later hbw3) (HV.out.2.2.1.below hbw3) (by have := HV.out.2.2.2.1; omega)
      unfold PrC at hcall
      have hown3 := own_below' HI.out.1 hb3
      have HX := Lib.hid (And.intro hW3 (And.intro hcall (And.intro htk (And.intro hbw3 (And.intro hown3 hb3)))))
      clear hx e0 e1 e2 e3 e4 hxe hmem hxl hih htk hW3 hb3 hbw3 hcall hown3 hrb
      go_wp2_with fail
      rw [HX.out.1]
      refine (show Calls _ _ _ _ _ from HX.out.2.1).mono ?_
      rintro e w4 ⟨rfl, hb4⟩
      obtain ⟨K, hK⟩ : ∃ K, BA (printV x) = K := ⟨_, rfl⟩
      rw [hK]
      have hown4 := own_below' HX.out.2.2.2.2.1 hb4
      have hsz4 : P + 1 ≤ w4.heap.size := by have := HX.out.2.2.2.2.2.size; have := hb4.size; have := HI.out.2.2; omega
      obtain ⟨p5, c5, w5, hrun, hown5, ho5⟩ := str_append hown4 K (printV x) hK (by omega) hsz4
      have hbw5 : Below w.heap.size w w5 := (HX.out.2.2.2.1.trans (hb4.mono HX.out.2.2.2.1.size)).trans (ho5.below (by have := HX.out.2.2.2.1.size; have := hb4.size; omega) (fun k hk e => by have := (hown4.lt k e.symm).1; have := H0.out.2.2.1; omega))
      rw [← HX.out.2.2.1] at hown5
      have HF := Lib.hid (And.intro hown5 (And.intro hbw5 (show P + 1 ≤ w5.heap.size by have := ho5.size; omega)))
      have HR := Lib.hid hrun
      clear hown4 hsz4 hrun hown5 ho5 hbw5 hK hb4 k0 k1 k2 k3 k4
      go_wp2_with (at_builtin; refine wpList_append_run rfl (.tmp 35) (.tmp 38) 36 rfl (.slice p3 i c3) (.slice (some ⟨w4.heap.size, 0, none⟩) 1 1) rfl rfl (.slice p5 (i + 1) c5) w5 HR.out ?_)
      go_roundg (gk - 1)
      case rel => exact ⟨i + 1, p5, c5, by omega, rfl, rfl, HF⟩
      case measure => omega
    · have hiz : ¬ (i : Int) < (n : Int) := by omega
      have hie : i = n := by omega
      subst hie
      have htl : l.take i = l := List.take_of_length_le (by have := HV.out.2.2.2.2.2; omega)
      have hown := HI.out.1
      rw [htl] at hown
      have hjl : Lib.join (l.map printV) [44] = joinV l := join_list l
      have hj := join_own hown hnn (by rw [hjl]; have := HV.out.2.2.2.1; omega)
      rw [hjl] at hj
      obtain ⟨K, hK⟩ : ∃ K, BA (joinV l) = K := ⟨_, rfl⟩
      rw [hK] at hj
      have hKs : K.size = (joinV l).length := by rw [← hK, ba_size]
      have g0 : ¬ 9223372036854775807 < 1 + K.size := by have := HV.out.2.2.2.1; omega
      have g1 : ¬ 9223372036854775807 < 1 + K.size + 1 := by have := HV.out.2.2.2.1; omega
      have HJ := Lib.hid (And.intro hj hK)
      clear hown hjl hj hK hKs htl
      go_wp2_with fail
      refine (show Calls _ _ _ _ _ from HJ.out.1).mono ?_
      rintro e w4 ⟨rfl, hb4⟩
      have HF := Lib.hid (HI.out.2.1.trans (hb4.mono HI.out.2.1.size))
      clear hb4
      go_wp2
      go_ret
      refine ⟨?_, HF.out⟩
      have hfin : (⟨#[91]⟩ : ByteArray) ++ K ++ ⟨#[93]⟩ = BA (91 :: (joinV l ++ [93])) := by
        rw [← HJ.out.2, show (⟨#[91]⟩ : ByteArray) = BA [91] from rfl, show (⟨#[93]⟩ : ByteArray) = BA [93] from rfl, ba_add, ba_add]
        rfl
      rw [← hfin]
      rfl

set_option maxHeartbeats 8000000 in
set_option maxRecDepth 100000 in
theorem print_obj (l : List (BL × V)) (cs : List Value) (p : Option Addr) (cap : Nat) (S : Nat → Prop) (w : World) (hV : FsAt S w l cs) (hr : 0 < l.length → ∃ b, p = some ⟨b, 0, none⟩ ∧ ∀ k u, cs[k]? = some u → w.cell? ⟨b, k, none⟩ = some u) (hE : EG w)
    (hlen : (joinF l).length + 2 ≤ 1000000) (ih : ∀ x ∈ l, PrH 12 x.2) : PrC 12 w (.obj l) [.int .i64 5, .int .i64 0, .string ⟨#[]⟩, .slice none 0 0, .slice p l.length cap] := by
  have hln := joinF_long l
  obtain ⟨n, hn⟩ : ∃ n, l.length = n := ⟨_, rfl⟩
  have HV := Lib.hid (And.intro hV (And.intro hr (And.intro hE (And.intro hlen (And.intro ih hn)))))
  rw [hn] at hln ⊢
  have hnn : n ≤ 1000000 := by omega
  clear hV hr hE hlen ih hln hn
  unfold PrC
  rw [printV]
  obtain ⟨P, hP⟩ : ∃ P, w.heap.size = P := ⟨_, rfl⟩
  obtain ⟨W0, hW0⟩ : ∃ W, w.alloc (.cells #[.int .i64 5, .int .i64 0, .string ⟨#[]⟩, .slice none 0 0, .slice p n cap] 28) = W := ⟨_, rfl⟩
  have hb0 : Below w.heap.size w W0 := by rw [← hW0]; exact (Below.refl _ w).alloc (Nat.le_refl _) _
  have hs0 : P + 1 ≤ W0.heap.size := by rw [← hW0, ← hP]; simp
  have H0 := Lib.hid (And.intro hW0 (And.intro hb0 (And.intro hP hs0)))
  clear hb0 hW0 hs0
  go_enter Tryz.func12, Tryz.ntmps12
  go_wp2_with fail
  rw [H0.out.1]
  clear hP
  go_loopg [3, 50] n (fun gk lv sv wr => ∃ (i : Nat) (p3 : Option Addr) (c3 : Nat), gk + i = n ∧ sv = .int .i64 i ∧ lv = .slice p3 i c3 ∧ Hid (wr.ownsRow (P + 1) 9 1 (.slice p3 i c3) i (strC ((l.take i).map printF)) ∧ Below w.heap.size w wr ∧ P + 1 ≤ wr.heap.size))
  case atStart => exact ⟨0, none, 0, by omega, rfl, rfl, Lib.hid ⟨⟨rfl, .inl ⟨rfl, rfl⟩⟩, H0.out.2.1, H0.out.2.2.2⟩⟩
  case round =>
    obtain ⟨i, p3, c3, hg, rfl, rfl, HI⟩ := hrel
    by_cases hi : i < n
    · have hiz : (i : Int) < (n : Int) := by omega
      have hwK : IntKind.i64.wrap ((i : Int) + 1) = ((i + 1 : Nat) : Int) := by rw [IntWalk.i64_in _ (by omega)]; omega
      have hil : i < l.length := by have := HV.out.2.2.2.2.2; omega
      obtain ⟨b, hpe, hrb⟩ := HV.out.2.1 (by omega)
      subst hpe
      obtain ⟨d0, d1, d2, d3, d4, hx, e5, e0, e1, e2, e3, e4⟩ := HV.out.1.get i hil
      obtain ⟨q0, q1, q2, q3, q4, q5, q6, q7, q8, hq⟩ := hx.shape
      simp only [List.cons.injEq, and_true] at hq
      obtain ⟨rfl, rfl, rfl, rfl, rfl⟩ := hq
      have k0 := bcell HI.out.2.1 (hrb _ _ e0)
      have k1 := bcell HI.out.2.1 (hrb _ _ e1)
      have k2 := bcell HI.out.2.1 (hrb _ _ e2)
      have k3 := bcell HI.out.2.1 (hrb _ _ e3)
      have k4 := bcell HI.out.2.1 (hrb _ _ e4)
      have k5 := bcell HI.out.2.1 (hrb _ _ e5)
      obtain ⟨nm, hnm⟩ : ∃ nm, l[i].1 = nm := ⟨_, rfl⟩
      obtain ⟨NM, hNM⟩ : ∃ N, BA nm = N := ⟨_, rfl⟩
      rw [hnm, hNM] at k5
      obtain ⟨x, hxe⟩ : ∃ x, l[i].2 = x := ⟨_, rfl⟩
      rw [hxe] at hx
      have hli : l[i] = (nm, x) := by rw [← hnm, ← hxe]
      have hmem : (nm, x) ∈ l := by rw [← hli]; exact List.getElem_mem hil
      have hxl := joinF_mem hmem
      have hpf : printF (nm, x) = quoteL nm ++ 58 :: printV x := by rw [printF]
      rw [hpf, List.length_append, List.length_cons] at hxl
      have hih := HV.out.2.2.2.2.1 (nm, x) hmem
      have htk : (l.take (i + 1)).map printF = (l.take i).map printF ++ [quoteL nm ++ 58 :: printV x] := by rw [List.take_succ_eq_append_getElem hil, List.map_append, hli, ← hpf]; rfl
      obtain ⟨W3, hW3⟩ : ∃ W3, wr.alloc (.cells #[.string NM, .int .i64 q0, .int .i64 q1, .string q2, .slice q3 q4 q5, .slice q6 q7 q8] 51) = W3 := ⟨_, rfl⟩
      obtain ⟨N, hN⟩ : ∃ N, wr.heap.size = N := ⟨_, rfl⟩
      have hb3 : Below wr.heap.size wr W3 := by rw [← hW3]; exact (Below.refl _ wr).alloc (Nat.le_refl _) _
      have kF : Blk W3 N 51 [.string NM, .int .i64 q0, .int .i64 q1, .string q2, .slice q3 q4 q5, .slice q6 q7 q8] := by rw [← hW3, ← hN]; exact heap_alloc_new wr _
      have hbw3 : Below w.heap.size w W3.drew := (HI.out.2.1.trans (hb3.mono HI.out.2.1.size)).drew
      have hqc := quote_any NM W3.drew (by rw [← hNM, ba_size]; exact quote_long nm (by have := HV.out.2.2.2.1; omega)) (HV.out.2.2.1.below hbw3).1.tabs
      rw [show NM.data.toList = nm by rw [← hNM]] at hqc
      obtain ⟨QN, hQN⟩ : ∃ N, BA (quoteL nm) = N := ⟨_, rfl⟩
      rw [hQN] at hqc
      have hQs : QN.size = (quoteL nm).length := by rw [← hQN, ba_size]
      have hown3 : W3.ownsRow (P + 1) 9 1 (.slice p3 i c3) i (strC ((l.take i).map printF)) := own_below' HI.out.1 hb3
      have HX := Lib.hid (And.intro hW3 (And.intro hqc (And.intro htk (And.intro hbw3 (And.intro hown3 (And.intro hb3 (And.intro kF (And.intro hih (And.intro (hx.later hbw3) (And.intro (show (printV x).length ≤ 1000000 by have := HV.out.2.2.2.1; omega) (And.intro hQN (And.intro hQs (And.intro hN (show (quoteL nm).length + (printV x).length + 1 ≤ 1000000 by have := HV.out.2.2.2.1; omega))))))))))))))
      clear hx e5 e0 e1 e2 e3 e4 hxe hnm hmem hxl hih htk hW3 hb3 hbw3 hqc hown3 hrb kF hli hpf hNM hQN hQs
      have g0 : ¬ 9223372036854775807 < QN.size + 1 := by have := HX.out.2.2.2.2.2.2.2.2.2.2.2.1; have := HX.out.2.2.2.2.2.2.2.2.2.2.2.2.2; omega
      go_wp2_with fail
      rw [HX.out.1]
      (try rw [hN])
      clear k0 k1 k2 k3 k4 k5 hN
      refine AnyP.begin (J := fun j => Nat.ble j 6) (S := fun W => Blk W N 51 [.string NM, .int .i64 q0, .int .i64 q1, .string q2, .slice q3 q4 q5, .slice q6 q7 q8]) (by kernel_rfl) rfl rfl ?_
      refine AnyP.takeP (i := 0) (v := .slice p3 i c3) rfl rfl (by kernel_rfl) (by kernel_rfl) (by kernel_rfl) (fun _ _ _ h => h) (by rfl) ?_ ?_
      · intro W
        go_simp
        try (with_reducible rfl)
      simp only [Act.put, List.setIfInBounds_toArray, List.set_cons_zero, List.set_cons_succ]
      refine AnyP.takeP (i := 1) (v := .pointer (some ⟨N, 0, none⟩)) rfl rfl (by kernel_rfl) (by kernel_rfl) (by kernel_rfl) (fun _ _ _ h => h) (by rfl) ?_ ?_
      · intro W
        go_simp
        try (with_reducible rfl)
      simp only [Act.put, List.setIfInBounds_toArray, List.set_cons_zero, List.set_cons_succ]
      refine AnyP.takeT [5, 6] (by rfl) (i := 2) (v := .string NM) rfl rfl (by kernel_rfl) (by kernel_rfl) (by kernel_rfl) (by kernel_rfl) (fun _ _ _ h => h) (by rfl) ?_ HX.out.2.2.2.2.2.2.1.drew ?_
      · intro W hW
        have n0 := hW.cell 0
        go_simp
        try (with_reducible rfl)
      simp only [Act.put, List.setIfInBounds_toArray, List.set_cons_zero, List.set_cons_succ]
      refine AnyP.takeP (i := 5) (v := .pointer (some ⟨N, 1, none⟩)) rfl rfl (by kernel_rfl) (by kernel_rfl) (by kernel_rfl) (fun _ _ _ h => h) (by rfl) ?_ ?_
      · intro W
        go_simp
        try (with_reducible rfl)
      simp only [Act.put, List.setIfInBounds_toArray, List.set_cons_zero, List.set_cons_succ]
      refine AnyP.takeT [3, 4] (by rfl) (i := 6) (v := .agg #[.int .i64 q0, .int .i64 q1, .string q2, .slice q3 q4 q5, .slice q6 q7 q8]) rfl rfl (by kernel_rfl) (by kernel_rfl) (by kernel_rfl) (by kernel_rfl) (fun _ _ _ h => h) (by rfl) ?_ HX.out.2.2.2.2.2.2.1.drew ?_
      · intro W hW
        have n1 := hW.cell 1
        have n2 := hW.cell 2
        have n3 := hW.cell 3
        have n4 := hW.cell 4
        have n5 := hW.cell 5
        go_simp
        try (with_reducible rfl)
      simp only [Act.put, List.setIfInBounds_toArray, List.set_cons_zero, List.set_cons_succ]
      refine AnyP.oneL (i := 3) (by kernel_rfl) rfl (fun K hK => ?_)
      go_simp
      go_at_call 26
      refine (show Calls _ _ _ _ _ from HX.out.2.1).mono ?_
      rintro e w4 ⟨rfl, hb4⟩
      refine hK.out _ _ (fun _ h => h.below hb4) ?_
      clear hK K
      (try simp only [Act.put, List.setIfInBounds_toArray, List.set_cons_zero, List.set_cons_succ])
      have hbw4 : Below w.heap.size w w4 := HX.out.2.2.2.1.trans (hb4.mono HX.out.2.2.2.1.size)
      have hcall := HX.out.2.2.2.2.2.2.2.1 S w4 [.int .i64 q0, .int .i64 q1, .string q2, .slice q3 q4 q5, .slice q6 q7 q8] (HX.out.2.2.2.2.2.2.2.2.1.later hb4) (HV.out.2.2.1.below hbw4) HX.out.2.2.2.2.2.2.2.2.2.1
      unfold PrC at hcall
      obtain ⟨K, hK⟩ : ∃ K, BA (printV x) = K := ⟨_, rfl⟩
      rw [show BA (printV (nm, x).2) = K from hK] at hcall
      have hKs : K.size = (printV x).length := by rw [← hK, ba_size]
      have hown4 : w4.ownsRow (P + 1) 9 1 (.slice p3 i c3) i (strC ((l.take i).map printF)) := own_below' (w := W3.drew) HX.out.2.2.2.2.1 hb4
      have H4 := Lib.hid (And.intro hbw4 (And.intro hcall (And.intro hK hown4)))
      have hs4 : P + 1 ≤ w4.heap.size := by have h1 := HX.out.2.2.2.2.2.1.size; have h2 := hb4.size; have h3 := HI.out.2.2; have h4 : W3.drew.heap.size = W3.heap.size := rfl; omega
      have HS4 := Lib.hid hs4
      have g1 : ¬ 9223372036854775807 < QN.size + 1 + K.size := by have := HX.out.2.2.2.2.2.2.2.2.2.2.2.1; have := HX.out.2.2.2.2.2.2.2.2.2.2.2.2.2; omega
      clear hb4 hbw4 hcall hK hown4 hKs hs4
      refine AnyP.takeP (i := 4) (v := .string (QN ++ ⟨#[58]⟩)) rfl rfl (by kernel_rfl) (by kernel_rfl) (by kernel_rfl) (fun _ _ _ h => h) (by rfl) ?_ ?_
      · intro W
        go_simp
        try (with_reducible rfl)
      simp only [Act.put, List.setIfInBounds_toArray, List.set_cons_zero, List.set_cons_succ]
      refine AnyP.oneL (i := 7) (by kernel_rfl) rfl (fun K hK => ?_)
      go_simp
      go_at_call 12
      refine (show Calls _ _ _ _ _ from H4.out.2.1).mono ?_
      rintro e w5 ⟨rfl, hb5⟩
      refine hK.out _ _ (fun h => by cases h) ?_
      clear hK K
      (try simp only [Act.put, List.setIfInBounds_toArray, List.set_cons_zero, List.set_cons_succ])
      obtain ⟨T, hT⟩ : ∃ T, QN ++ ⟨#[58]⟩ ++ K = T := ⟨_, rfl⟩
      have hTb : BA (quoteL nm ++ 58 :: printV x) = T := by rw [← hT, ← HX.out.2.2.2.2.2.2.2.2.2.2.1, ← H4.out.2.2.1, show (⟨#[58]⟩ : ByteArray) = BA [58] from rfl, ba_add, ba_add, List.append_assoc]; rfl
      have hown5 := own_below' H4.out.2.2.2 hb5
      have hs5 : P + 1 ≤ w5.heap.size := by have := HS4.out; have := hb5.size; omega
      obtain ⟨p6, c6, w6, hrun, hown6, ho6⟩ := str_append hown5 T _ hTb (by omega) hs5
      have hbw6 : Below w.heap.size w w6 := (H4.out.1.trans (hb5.mono H4.out.1.size)).trans (ho6.below (by have := H4.out.1.size; have := hb5.size; omega) (fun k hk e => by have := (hown5.lt k e.symm).1; have := H0.out.2.2.1; omega))
      rw [← HX.out.2.2.1] at hown6
      have HF := Lib.hid (And.intro hown6 (And.intro hbw6 (show P + 1 ≤ w6.heap.size by have := ho6.size; omega)))
      have HR := Lib.hid hrun
      clear hown5 hs5 hrun hown6 ho6 hbw6 hb5 hTb
      refine AnyP.takeP (i := 8) (v := .string T) rfl rfl (by kernel_rfl) (by kernel_rfl) (by kernel_rfl) (fun _ _ _ h => h) (by rfl) ?_ ?_
      · intro W
        go_simp
        try (with_reducible rfl)
      simp only [Act.put, List.setIfInBounds_toArray, List.set_cons_zero, List.set_cons_succ]
      refine AnyP.oneL (i := 9) (by kernel_rfl) rfl (fun K hK => ?_)
      go_simp
      refine hK.out _ _ (fun h => by cases h) ?_
      clear hK K
      (try simp only [Act.put, List.setIfInBounds_toArray, List.set_cons_zero, List.set_cons_succ])
      refine AnyP.oneL (i := 10) (by kernel_rfl) rfl (fun K2 hK => ?_)
      refine step_append_run rfl (.tmp 54) (.tmp 63) 36 rfl (.slice p3 i c3) (.slice (some ⟨w5.heap.size, 0, none⟩) 1 1) rfl rfl (.slice p6 (i + 1) c6) w6 HR.out ?_
      refine hK.out _ _ (fun h => by cases h) ?_
      clear hK K2
      (try simp only [Act.put, List.setIfInBounds_toArray, List.set_cons_zero, List.set_cons_succ])
      refine AnyP.takeP (i := 11) (v := .slice p6 (i + 1) c6) rfl rfl (by kernel_rfl) (by kernel_rfl) (by kernel_rfl) (fun _ _ _ h => h) (by rfl) ?_ ?_
      · intro W
        go_simp
        try (with_reducible rfl)
      simp only [Act.put, List.setIfInBounds_toArray, List.set_cons_zero, List.set_cons_succ]
      refine AnyP.done (by kernel_rfl) ?_
      go_wp2_with fail
      go_roundg (gk - 1)
      case rel => exact ⟨i + 1, p6, c6, by omega, rfl, rfl, HF⟩
      case measure => omega
    · have hiz : ¬ (i : Int) < (n : Int) := by omega
      have hie : i = n := by omega
      subst hie
      have htl : l.take i = l := List.take_of_length_le (by have := HV.out.2.2.2.2.2; omega)
      have hown := HI.out.1
      rw [htl] at hown
      have hjl : Lib.join (l.map printF) [44] = joinF l := join_listF l
      have hj := join_own hown hnn (by rw [hjl]; have := HV.out.2.2.2.1; omega)
      rw [hjl] at hj
      obtain ⟨K, hK⟩ : ∃ K, BA (joinF l) = K := ⟨_, rfl⟩
      rw [hK] at hj
      have hKs : K.size = (joinF l).length := by rw [← hK, ba_size]
      have g0 : ¬ 9223372036854775807 < 1 + K.size := by have := HV.out.2.2.2.1; omega
      have g1 : ¬ 9223372036854775807 < 1 + K.size + 1 := by have := HV.out.2.2.2.1; omega
      have HJ := Lib.hid (And.intro hj hK)
      clear hown hjl hj hK hKs htl
      go_wp2_with fail
      refine (show Calls _ _ _ _ _ from HJ.out.1).mono ?_
      rintro e w4 ⟨rfl, hb4⟩
      have HF := Lib.hid (HI.out.2.1.trans (hb4.mono HI.out.2.1.size))
      clear hb4
      go_wp2
      go_ret
      refine ⟨?_, HF.out⟩
      have hfin : (⟨#[123]⟩ : ByteArray) ++ K ++ ⟨#[125]⟩ = BA (123 :: (joinF l ++ [125])) := by
        rw [← HJ.out.2, show (⟨#[123]⟩ : ByteArray) = BA [123] from rfl, show (⟨#[125]⟩ : ByteArray) = BA [125] from rfl, ba_add, ba_add]
        rfl
      rw [← hfin]
      rfl

theorem print_any (v : V) : PrH 12 v := by
  refine V_kids ?_ ?_ ?_ ?_ ?_ ?_ v
  · intro l ih S w c hv hE hlen
    cases hv with
    | list l cs sl hV hr =>
      obtain ⟨p, cap, rfl, hp⟩ := row_form hr
      rw [printV] at hlen
      simp only [List.length_cons, List.length_append, List.length_nil] at hlen
      exact print_list l cs p cap S w hV hp hE (by omega) ih
  · intro l ih S w c hv hE hlen
    cases hv with
    | obj l cs sl hV hr =>
      obtain ⟨p, cap, rfl, hp⟩ := row_form hr
      rw [printV] at hlen
      simp only [List.length_cons, List.length_append, List.length_nil] at hlen
      exact print_obj l cs p cap S w hV hp hE (by omega) ih
  · intro S w c hv hE hlen
    cases hv
    exact print_null w
  · intro n S w c hv hE hlen
    cases hv with
    | bool n h =>
      by_cases hn : n = 1
      · exact print_bool1 n hn w
      · exact print_bool0 n hn w
  · intro n S w c hv hE hlen
    cases hv with
    | int n h => exact print_int n h w hE
  · intro s S w c hv hE hlen
    cases hv
    rw [printV] at hlen
    exact print_text s (quote_long s hlen) w hE
end Go.Proofs.YtccnfnoonpfdfaaGreatDoor
