/-
  The plain functions of the commands' layer: a reader of commands over a list of tokens. No program and no memory here.
-/
import Derived.Test.YtfgbbmnmblchiaaDoorLx
namespace Go.Proofs.YtfgbbmnmblchiaaDoor
namespace Ps
open Lx (Tok Part)

structure SetP where
  name : List UInt8
  word : List Part
  deriving DecidableEq
structure RedP where
  kind : Int
  word : List Part
  deriving DecidableEq
inductive Node where
  | mk (kind : Int) (kids : List Node) (name : List UInt8) (words : List (List Part)) (sets : List SetP) (reds : List RedP)

def Node.kind : Node → Int | .mk k _ _ _ _ _ => k
def Node.kids : Node → List Node | .mk _ k _ _ _ _ => k
def Node.name : Node → List UInt8 | .mk _ _ k _ _ _ => k
def Node.words : Node → List (List Part) | .mk _ _ _ k _ _ => k
def Node.sets : Node → List SetP | .mk _ _ _ _ k _ => k
def Node.reds : Node → List RedP | .mk _ _ _ _ _ k => k

/-- a node of kids alone. -/
def node (k : Int) (l : List Node) : Node := .mk k l [] [] [] []

/-- what a reading gives: an error at a token, or something and the place behind. -/
inductive Res (α : Type) where
  | bad (e : Int) (at_ : Nat)
  | ok (a : α) (at_ : Nat)

/-- is the token at a place of a kind, with a text (empty: any)? -/
def isT (ts : List Tok) (at_ : Nat) (kind : Int) (text : List UInt8) : Bool :=
  match ts[at_]? with
  | none => false
  | some t => t.kind == kind && (text.isEmpty || t.text == text)

/-- the place behind any number of ends. -/
def endsP (ts : List Tok) (at_ : Nat) : Nat := at_ + ((ts.drop at_).takeWhile fun t => t.kind == 3).length

def kwThen : List UInt8 := [116, 104, 101, 110]
def kwElse : List UInt8 := [101, 108, 115, 101]
def kwFi : List UInt8 := [102, 105]
def kwDo : List UInt8 := [100, 111]
def kwDone : List UInt8 := [100, 111, 110, 101]
def kwIf : List UInt8 := [105, 102]
def kwWhile : List UInt8 := [119, 104, 105, 108, 101]
def kwFor : List UInt8 := [102, 111, 114]
def kwIn : List UInt8 := [105, 110]
def closers : List (List UInt8) := [kwThen, kwElse, kwFi, kwDo, kwDone]

/-- does a list end here? -/
def closing (ts : List Tok) (at_ : Nat) : Bool :=
  match ts[at_]? with
  | none => true
  | some t => (t.kind == 2 && t.text == [41]) || (t.kind == 1 && closers.contains t.text)

/-- which command begins with a word: 0: a simple one. -/
def readK (text : List UInt8) : Nat := if text = [40] then 1 else if text = kwIf then 2 else if text = kwWhile then 3 else if text = kwFor then 4 else 0

/-- which way a redirection goes. -/
def redK (text : List UInt8) : Int := if text = [60] then 1 else if text = [62] then 2 else if text = [62, 62] then 3 else 0

/-- the variable that a word sets. -/
def setP (t : Tok) : Option SetP :=
  match Lx.idx 61 t.text with
  | none => none
  | some k =>
    if Lx.isName (t.text.take k) = true then
      match t.parts with
      | [] => none
      | p :: r => some ⟨t.text.take k, if p.text.drop (k + 1) = [] then r else ⟨p.kind, p.text.drop (k + 1)⟩ :: r⟩
    else none

/-- what a command of words holds. -/
structure Cmd where
  words : List (List Part)
  sets : List SetP
  reds : List RedP

/-- one word more. -/
def Cmd.put (c : Cmd) (t : Tok) : Cmd :=
  match setP t with
  | some s => if c.words = [] then { c with sets := c.sets ++ [s] } else { c with words := c.words ++ [t.parts] }
  | none => { c with words := c.words ++ [t.parts] }

/-- a command of words, from a place on. -/
def simpleL (ts : List Tok) : Nat → Nat → Cmd → Res Cmd
  | 0, a, c => .ok c a
  | f + 1, a, c =>
    match ts[a]? with
    | none => .ok c a
    | some t =>
      if t.kind = 2 ∧ 0 < redK t.text then
        match ts[a + 1]? with
        | some u => if u.kind = 1 then simpleL ts f (a + 2) { c with reds := c.reds ++ [⟨redK t.text, u.parts⟩] } else .bad 10 (a + 1)
        | none => .bad 10 (a + 1)
      else if t.kind ≠ 1 then .ok c a
      else simpleL ts f (a + 1) (c.put t)

def simpleP (ts : List Tok) (a : Nat) : Res Node :=
  match simpleL ts (ts.length + 1) a ⟨[], [], []⟩ with
  | .bad e b => .bad e b
  | .ok c b => if b = a then .bad 10 b else .ok (.mk 5 [] [] c.words c.sets c.reds) b

/-- a token that must be: the place behind it. -/
def wantP (ts : List Tok) (a : Nat) (kind : Int) (text : List UInt8) : Res Unit := if isT ts a kind text = true then .ok () (a + 1) else .bad 10 a

section
variable (ts : List Tok) (cmd : Nat → Res Node)

/-- commands between |. -/
def pipeL : Nat → Nat → List Node → Res (List Node)
  | 0, a, acc => .ok acc a
  | f + 1, a, acc =>
    match cmd a with
    | .bad e b => .bad e b
    | .ok k b => if isT ts b 2 [124] = true then pipeL f (b + 1) (acc ++ [k]) else .ok (acc ++ [k]) b

/-- one alone stays what it is. -/
def pipeN : List Node → Node
  | [k] => k
  | l => node 4 l

def pipeP (a : Nat) : Res Node :=
  match pipeL ts cmd (ts.length + 1) a [] with
  | .bad e b => .bad e b
  | .ok l b => .ok (pipeN l) b

/-- the sign between two pipes: 2: &&; 3: two strokes; 0: none. -/
def linkK (a : Nat) : Int := if isT ts a 2 [38, 38] = true then 2 else if isT ts a 2 [124, 124] = true then 3 else 0

def chainL : Nat → Nat → Node → Res Node
  | 0, a, n => .ok n a
  | f + 1, a, n =>
    if linkK ts a = 0 then .ok n a
    else
      match pipeP ts cmd (endsP ts (a + 1)) with
      | .bad e b => .bad e b
      | .ok k b => chainL f b (node (linkK ts a) [n, k])

def chainP (a : Nat) : Res Node :=
  match pipeP ts cmd a with
  | .bad e b => .bad e b
  | .ok n b => chainL ts cmd (ts.length + 1) b n

def listL : Nat → Nat → List Node → Res (List Node)
  | 0, a, acc => .ok acc a
  | f + 1, a, acc =>
    if closing ts a = true then .ok acc a
    else
      match chainP ts cmd a with
      | .bad e b => .bad e b
      | .ok k b => if isT ts b 3 [] = true then listL f (endsP ts b) (acc ++ [k]) else .ok (acc ++ [k]) b

def listP (some_ : Bool) (a : Nat) : Res Node :=
  match listL ts cmd (ts.length + 1) (endsP ts a) [] with
  | .bad e b => .bad e b
  | .ok l b => if some_ = true ∧ l = [] then .bad 10 b else .ok (node 1 l) b

def groupP (a : Nat) : Res Node :=
  match listP ts cmd true a with
  | .bad e b => .bad e b
  | .ok l b => match wantP ts b 2 [41] with
    | .bad e c => .bad e c
    | .ok _ c => .ok (node 9 [l]) c

def branchP (a : Nat) : Res Node :=
  match listP ts cmd true a with
  | .bad e b => .bad e b
  | .ok x b => match wantP ts b 1 kwThen with
    | .bad e c => .bad e c
    | .ok _ c => match listP ts cmd true c with
      | .bad e d => .bad e d
      | .ok y d =>
        if isT ts d 1 kwElse = true then
          match listP ts cmd true (d + 1) with
          | .bad e f => .bad e f
          | .ok z f => match wantP ts f 1 kwFi with
            | .bad e g => .bad e g
            | .ok _ g => .ok (node 6 [x, y, z]) g
        else match wantP ts d 1 kwFi with
          | .bad e g => .bad e g
          | .ok _ g => .ok (node 6 [x, y]) g

def bodyP (a : Nat) : Res Node :=
  match wantP ts a 1 kwDo with
  | .bad e b => .bad e b
  | .ok _ b => match listP ts cmd true b with
    | .bad e c => .bad e c
    | .ok x c => match wantP ts c 1 kwDone with
      | .bad e d => .bad e d
      | .ok _ d => .ok x d

def loopP (a : Nat) : Res Node :=
  match listP ts cmd true a with
  | .bad e b => .bad e b
  | .ok x b => match bodyP ts cmd b with
    | .bad e c => .bad e c
    | .ok y c => .ok (node 7 [x, y]) c

/-- the words of a 'for'. -/
def wordsAt (a : Nat) : List (List Part) := ((ts.drop a).takeWhile fun t => t.kind == 1).map (·.parts)

def eachP (a : Nat) : Res Node :=
  match ts[a]? with
  | none => .bad 10 a
  | some t =>
    if t.kind = 1 ∧ Lx.isName t.text = true then
      match wantP ts (a + 1) 1 kwIn with
      | .bad e b => .bad e b
      | .ok _ b => match wantP ts (b + (wordsAt ts b).length) 3 [] with
        | .bad e c => .bad e c
        | .ok _ c => match bodyP ts cmd (endsP ts c) with
          | .bad e d => .bad e d
          | .ok x d => .ok (.mk 8 [x] t.text (wordsAt ts b) [] []) d
    else .bad 10 a

/-- a command of a kind, behind its first token. -/
def readP (k : Nat) (a : Nat) : Res Node := if k = 1 then groupP ts cmd a else if k = 2 then branchP ts cmd a else if k = 3 then loopP ts cmd a else eachP ts cmd a
end

/-- a command; d: how much deeper it may go. -/
def cmdP (ts : List Tok) : Nat → Nat → Res Node
  | d, a =>
    if closing ts a = true then .bad 10 a
    else match ts[a]? with
      | none => .bad 10 a
      | some t =>
        if readK t.text = 0 then simpleP ts a
        else match d with
          | 0 => .bad 12 a
          | d + 1 => readP ts (cmdP ts d) (readK t.text) (a + 1)

/-- a text: the error, the place, the tree. -/
def program (l : List UInt8) : Int × Nat × Node :=
  match Lx.tokens l with
  | (e, at_, ts) =>
    if e ≠ 0 then (e, at_, node 0 [])
    else match listP ts (cmdP ts 16) false 0 with
      | .bad e a => (e, (ts[a]?.map (·.pos)).getD l.length, node 0 [])
      | .ok n a => if a < ts.length then (10, (ts[a]?.map (·.pos)).getD l.length, node 0 []) else (0, 0, n)

end Ps
end Go.Proofs.YtfgbbmnmblchiaaDoor
