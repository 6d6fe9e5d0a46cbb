/-
  The plain functions of the pipes' layer: sets of tags, labels, pipes by their numbers. No program and no memory here.
-/
namespace Go.Proofs.Ytihkanbkcnonoaa
namespace Pi

/-- is a number a tag? -/
def tagB (n : Int) : Bool := decide (1 ≤ n) && decide (n ≤ 2147483647)

/-- tags, each greater than the one ahead of it ('last': the one ahead, if there is one). -/
def risesFrom : Option Int → List Int → Bool
  | _, [] => true
  | o, x :: r => tagB x && (match o with | none => true | some y => decide (y < x)) && risesFrom (some x) r

def setB (l : List Int) : Bool := risesFrom none l && decide (l.length ≤ 16)

def subB (a b : List Int) : Bool := a.all fun x => b.contains x

/-- a label: the two sets. -/
structure Lab where
  S : List Int
  I : List Int
  deriving DecidableEq

def mayB (l : Lab) : Bool := setB l.S && setB l.I
def flowsB (a b : Lab) : Bool := subB a.S b.S && subB b.I a.I
def sameB (a b : Lab) : Bool := subB a.S b.S && subB b.S a.S && (subB a.I b.I && subB b.I a.I)

/-- a pipe: its label, the bytes on their way, how many hold its ends. -/
structure Pp where
  lab : Lab
  b : List UInt8
  readers : Int
  heirs : Int

/-- pipes by their numbers, and the next number. -/
structure Tb where
  ps : List (Int × Pp)
  next : Int

def find (l : List (Int × Pp)) (id : Int) : Option Pp := (l.find? fun x => x.1 == id).map (·.2)
def put (l : List (Int × Pp)) (id : Int) (p : Pp) : List (Int × Pp) := l.map fun x => if x.1 == id then (id, p) else x
def del (l : List (Int × Pp)) (id : Int) : List (Int × Pp) := l.filter fun x => !(x.1 == id)

def new : Tb := ⟨[], 1⟩

def make (t : Tb) (l : Lab) : (Int × Int) × Tb :=
  if mayB l then ((t.next, 0), ⟨t.ps ++ [(t.next, ⟨l, [], 1, 1⟩)], t.next + 1⟩) else ((0, 1), t)

def hold (t : Tb) (id : Int) (write : Bool) : Int × Tb :=
  match find t.ps id with
  | none => (61, t)
  | some p => (0, { t with ps := put t.ps id (if write then { p with heirs := p.heirs + 1 } else { p with readers := p.readers + 1 }) })

def drop (t : Tb) (id : Int) (write : Bool) : Int × Tb :=
  match find t.ps id with
  | none => (61, t)
  | some p =>
    if (if write then p.heirs else p.readers) = 0 then (61, t) else
    let q := if write then { p with heirs := p.heirs - 1 } else { p with readers := p.readers - 1 }
    if q.readers = 0 ∧ q.heirs = 0 then (0, { t with ps := del t.ps id }) else (0, { t with ps := put t.ps id q })

/-- how many bytes a pipe takes. -/
def room (p : Pp) (n : Nat) : Nat := min n (256 - p.b.length)

def write (t : Tb) (w : Lab) (id : Int) (b : List UInt8) : (Int × Int) × Tb :=
  match find t.ps id with
  | none => ((0, 61), t)
  | some p =>
    if mayB w = false then ((0, 1), t) else
    if flowsB w p.lab = false then ((0, 70), t) else
    if sameB w p.lab = false then
      (((b.length : Int), 0), if 0 < p.readers then { t with ps := put t.ps id { p with b := p.b ++ b.take (room p b.length) } } else t)
    else if p.readers = 0 then ((0, 75), t)
    else if 0 < b.length ∧ room p b.length = 0 then ((0, 63), t)
    else (((room p b.length : Int), 0), { t with ps := put t.ps id { p with b := p.b ++ b.take (room p b.length) } })

def read (t : Tb) (w : Lab) (id : Int) (n : Int) : (List UInt8 × Int) × Tb :=
  match find t.ps id with
  | none => (([], 61), t)
  | some p =>
    if mayB w = false ∨ n < 0 then (([], 1), t) else
    if sameB w p.lab = false then (([], 70), t) else
    if p.b = [] ∧ 0 < n ∧ 0 < p.heirs then (([], 63), t) else
    ((p.b.take n.toNat, 0), { t with ps := put t.ps id { p with b := p.b.drop n.toNat } })

end Pi
end Go.Proofs.Ytihkanbkcnonoaa
