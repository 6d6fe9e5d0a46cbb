/-
  The plain functions of the words' layer: names, signs, pieces, words, tokens, on lists of bytes. No program and no memory here.
-/
import GoSem.Core.Utf8
namespace Go.Proofs.YtfgbbmnmblchiaaDoor
namespace Lx

/-- a piece of a word. -/
structure Part where
  kind : Int
  text : List UInt8
  deriving DecidableEq

/-- a token. -/
structure Tok where
  kind : Int
  text : List UInt8
  parts : List Part
  pos : Nat
  deriving DecidableEq

/-- what a reading gives: wrong at a place, or something. -/
inductive Res (α : Type) where
  | bad (at_ : Nat)
  | ok (a : α)
  deriving DecidableEq

def firstB (c : UInt8) : Bool := (decide (97 ≤ c.toNat) && decide (c.toNat ≤ 122)) || (decide (65 ≤ c.toNat) && decide (c.toNat ≤ 90)) || c.toNat == 95
def laterB (c : UInt8) : Bool := firstB c || (decide (48 ≤ c.toNat) && decide (c.toNat ≤ 57))

/-- how many bytes at a text's beginning are a name: 32 at most. -/
def nameLen : List UInt8 → Nat
  | [] => 0
  | c :: t => if firstB c then min 32 (1 + (t.takeWhile laterB).length) else 0

def isName (r : List UInt8) : Bool := decide (r ≠ []) && decide (nameLen r = r.length)

/-- the size of the character at a text's beginning. -/
def wid (r : List UInt8) : Nat := (Utf8.decode ⟨r.toArray⟩ 0).2
def rune (r : List UInt8) : Nat := (Utf8.decode ⟨r.toArray⟩ 0).1

/-- is what stands at a text's beginning not to be? -/
def wrongB (u n : Nat) : Bool := (decide (u < 32) && !(u == 10) && !(u == 9)) || u == 127 || (u == 65533 && n == 1)

/-- the first place that may not be. -/
def badP : Nat → List UInt8 → Nat → Option Nat
  | 0, _, _ => none
  | f + 1, r, p => if r = [] then none else if wrongB (rune r) (wid r) then some p else badP f (r.drop (wid r)) (p + wid r)

def signs : List (List UInt8) := [[38, 38], [124, 124], [62, 62], [124], [60], [62], [40], [41]]
/-- the sign at a text's beginning. -/
def signOf (r : List UInt8) : List UInt8 := (signs.find? fun x => x.isPrefixOf r).getD []

/-- a piece behind others. -/
def addP (l : List Part) (k : Int) (t : List UInt8) : List Part :=
  match l.getLast? with
  | some p => if k = 1 ∧ p.kind = 1 then l.dropLast ++ [⟨p.kind, p.text ++ t⟩] else if k = 1 ∧ t = [] then l else l ++ [⟨k, t⟩]
  | none => if k = 1 ∧ t = [] then l else l ++ [⟨k, t⟩]

/-- what stands behind a dollar: its text, how many bytes with the dollar; below 0: it is wrong. -/
def dollarP (r : List UInt8) : List UInt8 × Int :=
  if r.head? = some 63 then ([63], 2)
  else if r.head? = some 123 then
    if nameLen (r.drop 1) = 0 ∨ (r.drop 1)[nameLen (r.drop 1)]? ≠ some 125 then ([], -1) else ((r.drop 1).take (nameLen (r.drop 1)), (nameLen (r.drop 1) : Int) + 3)
  else (r.take (nameLen r), (nameLen r : Int) + 1)

/-- a dollar into a word's pieces. -/
def varP (l : List Part) (k : Int) (r : List UInt8) : Option (List Part × Nat) :=
  if (dollarP r).2 < 0 then none else some (if (dollarP r).1 = [] then addP l 1 [36] else addP l k (dollarP r).1, (dollarP r).2.toNat)

def escB (t : List UInt8) : Bool := match t with | d :: _ => d == 34 || d == 92 || d == 36 | [] => false

/-- up to the second quote. -/
def quotP (from_ : Nat) : Nat → List UInt8 → Nat → List Part → Res (List Part × Nat)
  | 0, _, _, _ => .bad from_
  | f + 1, r, p, l =>
    match r with
    | [] => .bad from_
    | c :: t =>
      if c = 34 then .ok (l, p + 1)
      else if c = 36 then (match varP l 3 t with | none => .bad p | some (l', n) => quotP from_ f (r.drop n) (p + n) l')
      else if c = 92 ∧ escB t = true then quotP from_ f (t.drop 1) (p + 2) (addP l 1 (t.take 1))
      else quotP from_ f t (p + 1) (addP l 1 [c])

def endB (c : UInt8) : Bool := [32, 9, 10, 59, 38, 124, 60, 62, 40, 41].contains c
def specB (c : UInt8) : Bool := [32, 9, 10, 59, 38, 124, 60, 62, 40, 41, 39, 34, 92, 36].contains c

/-- the place of a byte. -/
def idx (c : UInt8) (r : List UInt8) : Option Nat := r.findIdx? (· == c)

/-- a word. -/
def wordP : Nat → List UInt8 → Nat → List Part → Res (List Part × Nat)
  | 0, _, p, l => .ok (l, p)
  | f + 1, r, p, l =>
    match r with
    | [] => .ok (l, p)
    | c :: t =>
      if endB c = true then .ok (l, p)
      else if c = 39 then (match idx 39 t with | none => .bad p | some k => wordP f (t.drop (k + 1)) (p + k + 2) (addP l 1 (t.take k)))
      else if c = 34 then (match quotP p (t.length + 1) t (p + 1) l with | .bad e => .bad e | .ok (l', p') => wordP f (r.drop (p' - p)) p' l')
      else if c = 36 then (match varP l 2 t with | none => .bad p | some (l', n) => wordP f (r.drop n) (p + n) l')
      else if c = 92 then (if t = [] then .bad p else wordP f (t.drop (wid t)) (p + 1 + wid t) (if t.head? = some 10 then l else addP l 1 (t.take (wid t))))
      else wordP f t (p + 1) (addP l 1 [c])

/-- how many bytes up to the line's end. -/
def noteLen (r : List UInt8) : Nat := (r.takeWhile (fun c => !(c == 10))).length

/-- the tokens. -/
def tokP : Nat → List UInt8 → Nat → List Tok → Res (List Tok)
  | 0, _, _, acc => .ok acc
  | f + 1, r, p, acc =>
    match r with
    | [] => .ok acc
    | c :: t =>
      if c = 32 ∨ c = 9 then tokP f t (p + 1) acc
      else if c = 35 then tokP f (r.drop (noteLen r)) (p + noteLen r) acc
      else if c = 59 ∨ c = 10 then tokP f t (p + 1) (acc ++ [⟨3, [59], [], p⟩])
      else if signOf r ≠ [] then tokP f (r.drop (signOf r).length) (p + (signOf r).length) (acc ++ [⟨2, signOf r, [], p⟩])
      else if c = 38 then .bad p
      else (match wordP (r.length + 1) r p [] with | .bad e => .bad e | .ok (l, p') => tokP f (r.drop (p' - p)) p' (acc ++ [⟨1, r.take (p' - p), l, p⟩]))

/-- all of it: the error, the place, the tokens. -/
def tokens (l : List UInt8) : Int × Nat × List Tok :=
  if 2048 < l.length then (2, 0, [])
  else match badP (l.length + 1) l 0 with
    | some i => (10, i, [])
    | none => match tokP (l.length + 1) l 0 [] with
      | .bad e => (10, e, [])
      | .ok ts => (0, 0, ts)

end Lx
end Go.Proofs.YtfgbbmnmblchiaaDoor
