/- What locks and towers are, without Go: queues of grants, and things in things. -/
namespace Go.Proofs.YteghcgiclpbkdaaDoor

def intentI (m : Int) : Int := if m = 1 ∨ m = 3 then 1 else if m = 2 ∨ m = 4 then 2 else 0
def fitsB (a b : Int) : Bool :=
  if a == 1 then (b == 2 || b == 3) || (b == a || b == 1) else if a == 2 || a == 3 then b == a || b == 1 else false
def mayB (h : List (Int × Int)) (m : Int) : Bool := h.all fun g => fitsB g.2 m
def thereB (h l : List (Int × Int)) (id : Int) : Bool := h.any (fun g => g.1 == id) || l.any (fun g => g.1 == id)
/-- Who waits has locks, as long as they go with what is had. -/
def promote (h : List (Int × Int)) : List (Int × Int) → List (Int × Int) × List (Int × Int) × List Int
  | [] => (h, [], [])
  | g :: l => if mayB h g.2 then ((promote (h ++ [g]) l).1, (promote (h ++ [g]) l).2.1, g.1 :: (promote (h ++ [g]) l).2.2) else (h, g :: l, [])
def stay (id : Int) (l : List (Int × Int)) : List (Int × Int) := l.filter fun g => !(g.1 == id)
def freeQ (h l : List (Int × Int)) (id : Int) : List (Int × Int) × List (Int × Int) × List Int := promote (stay id h) (stay id l)
/-- Behind one who asks: whether it has the lock, and the queue. -/
def askQ (h l : List (Int × Int)) (id m : Int) : Bool × List (Int × Int) × List (Int × Int) :=
  if intentI m = 0 ∨ thereB h l id = true then (false, h, l)
  else if l = [] ∧ mayB h m = true then (true, h ++ [(id, m)], l) else (false, h, l ++ [(id, m)])

/-! ### towers -/
structure Thing where
  n : Int
  a : ByteArray
  b : ByteArray
  deriving DecidableEq
def thingOf (ss : List ByteArray) : Thing := ⟨ss.length, ss.getD 0 ⟨#[]⟩, ss.getD 1 ⟨#[]⟩⟩
structure Climb where
  way : List Thing
  mode : Int
  asked : Nat
  whole : Bool
structure TS where
  queue : Thing → Option (List (Int × Int) × List (Int × Int))
  who : Int → Option Climb
def TS.empty : TS := ⟨fun _ => none, fun _ => none⟩
def TS.getQ (σ : TS) (x : Thing) : List (Int × Int) × List (Int × Int) := (σ.queue x).getD ([], [])
def TS.setQ (σ : TS) (x : Thing) (q : List (Int × Int) × List (Int × Int)) : TS := { σ with queue := fun y => if y = x then some q else σ.queue y }
def TS.setC (σ : TS) (i : Int) (c : Option Climb) : TS := { σ with who := fun j => if j = i then c else σ.who j }
def nothing : Thing := ⟨0, ⟨#[]⟩, ⟨#[]⟩⟩
def modeAt (c : Climb) : Int := if c.asked + 1 = c.way.length then c.mode else intentI c.mode
/-- One asks for the next thing on its way. -/
def askT (σ : TS) (id : Int) (c : Climb) : TS × Bool :=
  let x := c.way.getD c.asked nothing
  let r := askQ (σ.getQ x).1 (σ.getQ x).2 id (modeAt c)
  ((σ.setQ x r.2).setC id (some { c with asked := c.asked + 1 }), r.1)
def onN : Nat → TS → Int → TS × Bool
  | 0, σ, id => match σ.who id with
    | none => (σ, true)
    | some c => (σ.setC id (some { c with whole := true }), true)
  | n + 1, σ, id => match σ.who id with
    | none => (σ, true)
    | some c => if (askT σ id c).2 then onN n (askT σ id c).1 id else ((askT σ id c).1, false)
def onT (σ : TS) (id : Int) : TS × Bool := match σ.who id with
  | none => (σ, true)
  | some c => onN (c.way.length - c.asked) σ id
def onAll : List Int → TS → TS × List Int
  | [], σ => (σ, [])
  | x :: xs, σ => ((onAll xs (onT σ x).1).1, (if (onT σ x).2 then [x] else []) ++ (onAll xs (onT σ x).1).2)
/-- One leaves the first k things of its way, the last one first. -/
def freeN (id : Int) (way : List Thing) : Nat → TS → TS × List Int
  | 0, σ => (σ, [])
  | k + 1, σ =>
    let x := way.getD k nothing
    let r := freeQ (σ.getQ x).1 (σ.getQ x).2 id
    let a := onAll r.2.2 (σ.setQ x (r.1, r.2.1))
    ((freeN id way k a.1).1, a.2 ++ (freeN id way k a.1).2)
def freeT (σ : TS) (id : Int) : TS × List Int := match σ.who id with
  | none => (σ, [])
  | some c => freeN id c.way c.asked (σ.setC id none)
def wayOf (ss : List ByteArray) : List Thing := (List.range (ss.length + 1)).map fun k => thingOf (ss.take k)
/-- Behind one who asks for a thing, if nothing is wrong with that. -/
def startT (σ : TS) (id : Int) (ss : List ByteArray) (m : Int) : TS × Bool := onT (σ.setC id (some ⟨wayOf ss, m, 0, false⟩)) id
end Go.Proofs.YteghcgiclpbkdaaDoor
