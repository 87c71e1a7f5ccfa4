/- Deeds over towers, and what can come of them. -/
import Derived.Test.YteghcgiclpbkdaaDoorPureT
namespace Go.Proofs.YteghcgiclpbkdaaDoor

def dS : ByteArray := ⟨#[100]⟩
def eS : ByteArray := ⟨#[101]⟩
def cS : ByteArray := ⟨#[99]⟩
def kS : ByteArray := ⟨#[107]⟩
def thingsL : List (List ByteArray) := [[], [dS], [eS], [dS, cS], [dS, kS], [eS, cS]]

structure Deed where
  k : Int
  i : Int
  n : Int
  m : Int
structure Deed.OK (a : Deed) : Prop where
  k : 0 ≤ a.k ∧ a.k ≤ 255
  i : 0 ≤ a.i ∧ a.i ≤ 255
  n : 0 ≤ a.n ∧ a.n ≤ 255
  m : 0 ≤ a.m ∧ a.m ≤ 255
def Deed.id (a : Deed) : Int := a.i % 12
def Deed.names (a : Deed) : List ByteArray := thingsL.getD (a.n % 6).toNat []
def Deed.mode (a : Deed) : Int := a.m % 4 + 1

def TS.there (σ : TS) (i : Int) : Bool := (σ.who i).isSome
def TS.wholeB (σ : TS) (i : Int) : Bool := match σ.who i with | none => false | some c => c.whole
def TS.heldL (σ : TS) (x : Thing) : List (Int × Int) := (σ.getQ x).1
def TS.waitL (σ : TS) (x : Thing) : List (Int × Int) := (σ.getQ x).2

def stepD (σ : TS) (a : Deed) : TS :=
  if a.k < 150 then (if σ.there a.id then σ else (startT σ a.id a.names a.mode).1) else (freeT σ a.id).1
def runD (l : List Deed) : TS := l.foldl stepD TS.empty
def Reach (σ : TS) : Prop := ∃ l : List Deed, (∀ a ∈ l, a.OK) ∧ σ = runD l
def I12 : List Int := [0, 1, 2, 3, 4, 5, 6, 7, 8, 9, 10, 11]
theorem Reach.empty : Reach TS.empty := ⟨[], by simp, rfl⟩
theorem Reach.step {σ : TS} (h : Reach σ) {a : Deed} (ha : a.OK) : Reach (stepD σ a) := by
  obtain ⟨l, h1, rfl⟩ := h
  exact ⟨l ++ [a], fun b hb => by rcases List.mem_append.1 hb with h | h; exact h1 b h; simp at h; exact h ▸ ha, by simp [runD]⟩
theorem Deed.id_mem {a : Deed} (ha : a.OK) : a.id ∈ I12 := by
  have := ha.i
  unfold Deed.id I12
  have h : a.i % 12 = 0 ∨ a.i % 12 = 1 ∨ a.i % 12 = 2 ∨ a.i % 12 = 3 ∨ a.i % 12 = 4 ∨ a.i % 12 = 5 ∨ a.i % 12 = 6 ∨ a.i % 12 = 7 ∨ a.i % 12 = 8 ∨ a.i % 12 = 9 ∨ a.i % 12 = 10 ∨ a.i % 12 = 11 := by omega
  rcases h with h | h | h | h | h | h | h | h | h | h | h | h <;> simp [h]
theorem Deed.names_mem {a : Deed} (ha : a.OK) : a.names ∈ thingsL := by
  have := ha.n
  unfold Deed.names
  have h : a.n % 6 = 0 ∨ a.n % 6 = 1 ∨ a.n % 6 = 2 ∨ a.n % 6 = 3 ∨ a.n % 6 = 4 ∨ a.n % 6 = 5 := by omega
  rcases h with h | h | h | h | h | h <;> simp [h, thingsL]
theorem things_len {ss : List ByteArray} (h : ss ∈ thingsL) : ss.length ≤ 2 := by
  simp [thingsL] at h
  rcases h with rfl | rfl | rfl | rfl | rfl | rfl <;> simp
theorem Deed.mode_ok {a : Deed} : 1 ≤ a.mode ∧ a.mode ≤ 4 := by unfold Deed.mode; omega
theorem intentI_ok {m : Int} (h : 1 ≤ m ∧ m ≤ 4) : intentI m ≠ 0 := by
  unfold intentI
  have : m = 1 ∨ m = 2 ∨ m = 3 ∨ m = 4 := by omega
  rcases this with rfl | rfl | rfl | rfl <;> simp
end Go.Proofs.YteghcgiclpbkdaaDoor
