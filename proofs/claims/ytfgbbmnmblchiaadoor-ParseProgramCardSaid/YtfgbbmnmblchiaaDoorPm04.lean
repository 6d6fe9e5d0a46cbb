/-
  The plain functions of the commands' layer: a reader of commands over a list of tokens. No program and no memory here.
  How trees of commands lie in memory: S is what their blocks are among.
  The reader of commands: its block; what stands there, what is wrong, what must be: walked.
  What is wrong; what must be; ends; where a list ends: walked.
  What a reading leaves; a list of kids that grows.
  Commands between |: walked.
  A node that is built up link by link: its memory.
-/
import Derived.Test.YtfgbbmnmblchiaaDoorPm01
import Derived.Test.YtfgbbmnmblchiaaDoorPm03
import Derived.Test.YtfgbbmnmblchiaaDoorShelf
namespace Go.Proofs.YtfgbbmnmblchiaaDoor
namespace Ps
open Lx (Tok Part)

structure SetP where
  name : List UInt8
  word : List Part
  deriving DecidableEq
structure RedP where
  kind : Int
  word : List Part
  deriving DecidableEq
inductive Node where
  | mk (kind : Int) (kids : List Node) (name : List UInt8) (words : List (List Part)) (sets : List SetP) (reds : List RedP)

def Node.kind : Node → Int | .mk k _ _ _ _ _ => k
def Node.kids : Node → List Node | .mk _ k _ _ _ _ => k
def Node.name : Node → List UInt8 | .mk _ _ k _ _ _ => k
def Node.words : Node → List (List Part) | .mk _ _ _ k _ _ => k
def Node.sets : Node → List SetP | .mk _ _ _ _ k _ => k
def Node.reds : Node → List RedP | .mk _ _ _ _ _ k => k

/-- a node of kids alone. -/
def node (k : Int) (l : List Node) : Node := .mk k l [] [] [] []

/-- what a reading gives: an error at a token, or something and the place behind. -/
inductive Res (α : Type) where
  | bad (e : Int) (at_ : Nat)
  | ok (a : α) (at_ : Nat)

/-- is the token at a place of a kind, with a text (empty: any)? -/
def isT (ts : List Tok) (at_ : Nat) (kind : Int) (text : List UInt8) : Bool :=
  match ts[at_]? with
  | none => false
  | some t => t.kind == kind && (text.isEmpty || t.text == text)

/-- the place behind any number of ends. -/
def endsP (ts : List Tok) (at_ : Nat) : Nat := at_ + ((ts.drop at_).takeWhile fun t => t.kind == 3).length

def kwThen : List UInt8 := [116, 104, 101, 110]
def kwElse : List UInt8 := [101, 108, 115, 101]
def kwFi : List UInt8 := [102, 105]
def kwDo : List UInt8 := [100, 111]
def kwDone : List UInt8 := [100, 111, 110, 101]
def kwIf : List UInt8 := [105, 102]
def kwWhile : List UInt8 := [119, 104, 105, 108, 101]
def kwFor : List UInt8 := [102, 111, 114]
def kwIn : List UInt8 := [105, 110]
def closers : List (List UInt8) := [kwThen, kwElse, kwFi, kwDo, kwDone]

/-- does a list end here? -/
def closing (ts : List Tok) (at_ : Nat) : Bool :=
  match ts[at_]? with
  | none => true
  | some t => (t.kind == 2 && t.text == [41]) || (t.kind == 1 && closers.contains t.text)

/-- which command begins with a word: 0: a simple one. -/
def readK (text : List UInt8) : Nat := if text = [40] then 1 else if text = kwIf then 2 else if text = kwWhile then 3 else if text = kwFor then 4 else 0

/-- which way a redirection goes. -/
def redK (text : List UInt8) : Int := if text = [60] then 1 else if text = [62] then 2 else if text = [62, 62] then 3 else 0

/-- the variable that a word sets. -/
def setP (t : Tok) : Option SetP :=
  match Lx.idx 61 t.text with
  | none => none
  | some k =>
    if Lx.isName (t.text.take k) = true then
      match t.parts with
      | [] => none
      | p :: r => some ⟨t.text.take k, if p.text.drop (k + 1) = [] then r else ⟨p.kind, p.text.drop (k + 1)⟩ :: r⟩
    else none

/-- what a command of words holds. -/
structure Cmd where
  words : List (List Part)
  sets : List SetP
  reds : List RedP

/-- one word more. -/
def Cmd.put (c : Cmd) (t : Tok) : Cmd :=
  match setP t with
  | some s => if c.words = [] then { c with sets := c.sets ++ [s] } else { c with words := c.words ++ [t.parts] }
  | none => { c with words := c.words ++ [t.parts] }

/-- a command of words, from a place on. -/
def simpleL (ts : List Tok) : Nat → Nat → Cmd → Res Cmd
  | 0, a, c => .ok c a
  | f + 1, a, c =>
    match ts[a]? with
    | none => .ok c a
    | some t =>
      if t.kind = 2 ∧ 0 < redK t.text then
        match ts[a + 1]? with
        | some u => if u.kind = 1 then simpleL ts f (a + 2) { c with reds := c.reds ++ [⟨redK t.text, u.parts⟩] } else .bad 10 (a + 1)
        | none => .bad 10 (a + 1)
      else if t.kind ≠ 1 then .ok c a
      else simpleL ts f (a + 1) (c.put t)

def simpleP (ts : List Tok) (a : Nat) : Res Node :=
  match simpleL ts (ts.length + 1) a ⟨[], [], []⟩ with
  | .bad e b => .bad e b
  | .ok c b => if b = a then .bad 10 b else .ok (.mk 5 [] [] c.words c.sets c.reds) b

/-- a token that must be: the place behind it. -/
def wantP (ts : List Tok) (a : Nat) (kind : Int) (text : List UInt8) : Res Unit := if isT ts a kind text = true then .ok () (a + 1) else .bad 10 a

section
variable (ts : List Tok) (cmd : Nat → Res Node)

/-- commands between |. -/
def pipeL : Nat → Nat → List Node → Res (List Node)
  | 0, a, acc => .ok acc a
  | f + 1, a, acc =>
    match cmd a with
    | .bad e b => .bad e b
    | .ok k b => if isT ts b 2 [124] = true then pipeL f (b + 1) (acc ++ [k]) else .ok (acc ++ [k]) b

/-- one alone stays what it is. -/
def pipeN : List Node → Node
  | [k] => k
  | l => node 4 l

def pipeP (a : Nat) : Res Node :=
  match pipeL ts cmd (ts.length + 1) a [] with
  | .bad e b => .bad e b
  | .ok l b => .ok (pipeN l) b

/-- the sign between two pipes: 2: &&; 3: two strokes; 0: none. -/
def linkK (a : Nat) : Int := if isT ts a 2 [38, 38] = true then 2 else if isT ts a 2 [124, 124] = true then 3 else 0

def chainL : Nat → Nat → Node → Res Node
  | 0, a, n => .ok n a
  | f + 1, a, n =>
    if linkK ts a = 0 then .ok n a
    else
      match pipeP ts cmd (endsP ts (a + 1)) with
      | .bad e b => .bad e b
      | .ok k b => chainL f b (node (linkK ts a) [n, k])

def chainP (a : Nat) : Res Node :=
  match pipeP ts cmd a with
  | .bad e b => .bad e b
  | .ok n b => chainL ts cmd (ts.length + 1) b n

def listL : Nat → Nat → List Node → Res (List Node)
  | 0, a, acc => .ok acc a
  | f + 1, a, acc =>
    if closing ts a = true then .ok acc a
    else
      match chainP ts cmd a with
      | .bad e b => .bad e b
      | .ok k b => if isT ts b 3 [] = true then listL f (endsP ts b) (acc ++ [k]) else .ok (acc ++ [k]) b

def listP (some_ : Bool) (a : Nat) : Res Node :=
  match listL ts cmd (ts.length + 1) (endsP ts a) [] with
  | .bad e b => .bad e b
  | .ok l b => if some_ = true ∧ l = [] then .bad 10 b else .ok (node 1 l) b

def groupP (a : Nat) : Res Node :=
  match listP ts cmd true a with
  | .bad e b => .bad e b
  | .ok l b => match wantP ts b 2 [41] with
    | .bad e c => .bad e c
    | .ok _ c => .ok (node 9 [l]) c

def branchP (a : Nat) : Res Node :=
  match listP ts cmd true a with
  | .bad e b => .bad e b
  | .ok x b => match wantP ts b 1 kwThen with
    | .bad e c => .bad e c
    | .ok _ c => match listP ts cmd true c with
      | .bad e d => .bad e d
      | .ok y d =>
        if isT ts d 1 kwElse = true then
          match listP ts cmd true (d + 1) with
          | .bad e f => .bad e f
          | .ok z f => match wantP ts f 1 kwFi with
            | .bad e g => .bad e g
            | .ok _ g => .ok (node 6 [x, y, z]) g
        else match wantP ts d 1 kwFi with
          | .bad e g => .bad e g
          | .ok _ g => .ok (node 6 [x, y]) g

def bodyP (a : Nat) : Res Node :=
  match wantP ts a 1 kwDo with
  | .bad e b => .bad e b
  | .ok _ b => match listP ts cmd true b with
    | .bad e c => .bad e c
    | .ok x c => match wantP ts c 1 kwDone with
      | .bad e d => .bad e d
      | .ok _ d => .ok x d

def loopP (a : Nat) : Res Node :=
  match listP ts cmd true a with
  | .bad e b => .bad e b
  | .ok x b => match bodyP ts cmd b with
    | .bad e c => .bad e c
    | .ok y c => .ok (node 7 [x, y]) c

/-- the words of a 'for'. -/
def wordsAt (a : Nat) : List (List Part) := ((ts.drop a).takeWhile fun t => t.kind == 1).map (·.parts)

def eachP (a : Nat) : Res Node :=
  match ts[a]? with
  | none => .bad 10 a
  | some t =>
    if t.kind = 1 ∧ Lx.isName t.text = true then
      match wantP ts (a + 1) 1 kwIn with
      | .bad e b => .bad e b
      | .ok _ b => match wantP ts (b + (wordsAt ts b).length) 3 [] with
        | .bad e c => .bad e c
        | .ok _ c => match bodyP ts cmd (endsP ts c) with
          | .bad e d => .bad e d
          | .ok x d => .ok (.mk 8 [x] t.text (wordsAt ts b) [] []) d
    else .bad 10 a

/-- a command of a kind, behind its first token. -/
def readP (k : Nat) (a : Nat) : Res Node := if k = 1 then groupP ts cmd a else if k = 2 then branchP ts cmd a else if k = 3 then loopP ts cmd a else eachP ts cmd a
end

/-- a command; d: how much deeper it may go. -/
def cmdP (ts : List Tok) : Nat → Nat → Res Node
  | d, a =>
    if closing ts a = true then .bad 10 a
    else match ts[a]? with
      | none => .bad 10 a
      | some t =>
        if readK t.text = 0 then simpleP ts a
        else match d with
          | 0 => .bad 12 a
          | d + 1 => readP ts (cmdP ts d) (readK t.text) (a + 1)

/-- a text: the error, the place, the tree. -/
def program (l : List UInt8) : Int × Nat × Node :=
  match Lx.tokens l with
  | (e, at_, ts) =>
    if e ≠ 0 then (e, at_, node 0 [])
    else match listP ts (cmdP ts 16) false 0 with
      | .bad e a => (e, (ts[a]?.map (·.pos)).getD l.length, node 0 [])
      | .ok n a => if a < ts.length then (10, (ts[a]?.map (·.pos)).getD l.length, node 0 []) else (0, 0, n)

end Ps
end Go.Proofs.YtfgbbmnmblchiaaDoor

namespace Go.Proofs.YtfgbbmnmblchiaaDoor
open Go.RowKit
set_option linter.unusedVariables false

/-- a slice value of n elements that stands for cells, in a block of S, from 'off' on: to be read. -/
def Sl (w : World) (S : Nat → Prop) (off : Nat) (v : Value) (n : Nat) (xs : List Value) : Prop :=
  ∃ a c, v = .slice a n c ∧ n ≤ c ∧ c ≤ maxLen ∧ (xs ≠ [] → ∃ b, a = some ⟨b, off, none⟩ ∧ S b ∧ ∀ (j : Nat) (u : Value), xs[j]? = some u → w.cell? ⟨b, off + j, none⟩ = some u)

theorem Sl.kept {w w' : World} {S : Nat → Prop} {F : List Nat} {off n : Nat} {v : Value} {xs : List Value} (h : Sl w S off v n xs) (hc : Chg F w w') (hF : ∀ k ∈ F, ¬ S k) : Sl w' S off v n xs := by
  obtain ⟨a, c, h1, h2, h3, h4⟩ := h
  refine ⟨a, c, h1, h2, h3, fun hne => ?_⟩
  obtain ⟨b, rfl, hb, hx⟩ := h4 hne
  exact ⟨b, rfl, hb, fun j u hj => hc.cell (hx j u hj) (fun hk => hF b hk hb)⟩

theorem Sl.mono {w : World} {S S' : Nat → Prop} {off n : Nat} {v : Value} {xs : List Value} (h : Sl w S off v n xs) (hS : ∀ k, S k → S' k) : Sl w S' off v n xs := by
  obtain ⟨a, c, h1, h2, h3, h4⟩ := h
  refine ⟨a, c, h1, h2, h3, fun hne => ?_⟩
  obtain ⟨b, rfl, hb, hx⟩ := h4 hne
  exact ⟨b, rfl, hS b hb, hx⟩

theorem Sl.nil (w : World) (S : Nat → Prop) (off : Nat) (a : Option Addr) : Sl w S off (.slice a 0 0) 0 [] := ⟨a, 0, rfl, Nat.le_refl _, Nat.zero_le _, fun h => absurd rfl h⟩

theorem Row.sl {w : World} {S : Nat → Prop} {E : TypeId} {size n : Nat} {v : Value} {xs : List Value} (h : Row w E size v n xs) (hS : ∀ k ∈ rowBlock v, S k) : Sl w S 0 v n xs := by
  rcases h.2 with ⟨rfl, a, rfl⟩ | ⟨g, cap, cur, rfl, hg, h3, h4, h5, h6⟩
  · exact ⟨a, 0, rfl, Nat.le_refl _, Nat.zero_le _, fun hne => absurd (List.eq_nil_of_length_eq_zero (by simpa using h.1)) hne⟩
  · refine ⟨_, cap, rfl, h3, h4, fun hne => ⟨g, rfl, ?_, fun j u hj => by rw [Nat.zero_add]; exact cells_of_take hg h6 hj⟩⟩
    refine hS g (rowBlock_head g n cap h3 ?_)
    rcases Nat.eq_zero_or_pos n with h0 | h0
    · subst h0
      exact absurd (List.eq_nil_of_length_eq_zero (by simpa using h.1)) hne
    · exact h0

/-- a word's pieces. -/
def WordIn (w : World) (S : Nat → Prop) (off : Nat) (v : Value) (ps : List Lx.Part) : Prop := Sl w S off v ps.length (pcells ps)

theorem PartsAt.word {w : World} {S : Nat → Prop} {v : Value} {ps : List Lx.Part} (h : PartsAt w v ps) (hS : ∀ k ∈ rowBlock v, S k) : WordIn w S 0 v ps := Row.sl h hS

def WordsAt (w : World) (S : Nat → Prop) : List (List Lx.Part) → List Value → Prop
  | [], xs => xs = []
  | p :: ps, xs => ∃ u ys, xs = u :: ys ∧ WordIn w S 0 u p ∧ WordsAt w S ps ys
def SetsAt (w : World) (S : Nat → Prop) : List Ps.SetP → List Value → Prop
  | [], xs => xs = []
  | s :: ss, xs => ∃ u ys off, xs = .string (Lx.strB s.name) :: u :: ys ∧ WordIn w S off u s.word ∧ SetsAt w S ss ys
def RedsAt (w : World) (S : Nat → Prop) : List Ps.RedP → List Value → Prop
  | [], xs => xs = []
  | r :: rs, xs => ∃ u ys, xs = .int .i64 r.kind :: u :: ys ∧ WordIn w S 0 u r.word ∧ RedsAt w S rs ys

mutual
def NodeAt (w : World) (S : Nat → Prop) : Ps.Node → List Value → Prop
  | .mk kind kids name words sets reds, cs => ∃ kv wv sv rv kx wx sx rx, cs = [.int .i64 kind, kv, .string (Lx.strB name), wv, sv, rv] ∧ Sl w S 0 kv kids.length kx ∧ NodesAt w S kids kx ∧
      Sl w S 0 wv words.length wx ∧ WordsAt w S words wx ∧ Sl w S 0 sv sets.length sx ∧ SetsAt w S sets sx ∧ Sl w S 0 rv reds.length rx ∧ RedsAt w S reds rx
def NodesAt (w : World) (S : Nat → Prop) : List Ps.Node → List Value → Prop
  | [], xs => xs = []
  | n :: ns, xs => ∃ cs ys, xs = cs ++ ys ∧ NodeAt w S n cs ∧ NodesAt w S ns ys
end

section
variable {w w' : World} {S S' : Nat → Prop} {F : List Nat}

theorem WordsAt.kept (hc : Chg F w w') (hF : ∀ k ∈ F, ¬ S k) : ∀ {ps : List (List Lx.Part)} {xs : List Value}, WordsAt w S ps xs → WordsAt w' S ps xs
  | [], _, h => h
  | _ :: _, _, ⟨u, ys, h1, h2, h3⟩ => ⟨u, ys, h1, Sl.kept h2 hc hF, WordsAt.kept hc hF h3⟩
theorem SetsAt.kept (hc : Chg F w w') (hF : ∀ k ∈ F, ¬ S k) : ∀ {ps : List Ps.SetP} {xs : List Value}, SetsAt w S ps xs → SetsAt w' S ps xs
  | [], _, h => h
  | _ :: _, _, ⟨u, ys, off, h1, h2, h3⟩ => ⟨u, ys, off, h1, Sl.kept h2 hc hF, SetsAt.kept hc hF h3⟩
theorem RedsAt.kept (hc : Chg F w w') (hF : ∀ k ∈ F, ¬ S k) : ∀ {ps : List Ps.RedP} {xs : List Value}, RedsAt w S ps xs → RedsAt w' S ps xs
  | [], _, h => h
  | _ :: _, _, ⟨u, ys, h1, h2, h3⟩ => ⟨u, ys, h1, Sl.kept h2 hc hF, RedsAt.kept hc hF h3⟩
theorem WordsAt.mono (hS : ∀ k, S k → S' k) : ∀ {ps : List (List Lx.Part)} {xs : List Value}, WordsAt w S ps xs → WordsAt w S' ps xs
  | [], _, h => h
  | _ :: _, _, ⟨u, ys, h1, h2, h3⟩ => ⟨u, ys, h1, Sl.mono h2 hS, WordsAt.mono hS h3⟩
theorem SetsAt.mono (hS : ∀ k, S k → S' k) : ∀ {ps : List Ps.SetP} {xs : List Value}, SetsAt w S ps xs → SetsAt w S' ps xs
  | [], _, h => h
  | _ :: _, _, ⟨u, ys, off, h1, h2, h3⟩ => ⟨u, ys, off, h1, Sl.mono h2 hS, SetsAt.mono hS h3⟩
theorem RedsAt.mono (hS : ∀ k, S k → S' k) : ∀ {ps : List Ps.RedP} {xs : List Value}, RedsAt w S ps xs → RedsAt w S' ps xs
  | [], _, h => h
  | _ :: _, _, ⟨u, ys, h1, h2, h3⟩ => ⟨u, ys, h1, Sl.mono h2 hS, RedsAt.mono hS h3⟩

theorem WordsAt.snoc : ∀ {ps : List (List Lx.Part)} {xs : List Value} {p : List Lx.Part} {u : Value}, WordsAt w S ps xs → WordIn w S 0 u p → WordsAt w S (ps ++ [p]) (xs ++ [u])
  | [], _, _, u, h, h2 => by cases h; exact ⟨u, [], rfl, h2, rfl⟩
  | _ :: _, _, _, u, ⟨v, ys, h1, h3, h4⟩, h2 => by subst h1; exact ⟨v, ys ++ [u], rfl, h3, WordsAt.snoc h4 h2⟩
theorem SetsAt.snoc : ∀ {ps : List Ps.SetP} {xs : List Value} {s : Ps.SetP} {u : Value} {off : Nat}, SetsAt w S ps xs → WordIn w S off u s.word → SetsAt w S (ps ++ [s]) (xs ++ [.string (Lx.strB s.name), u])
  | [], _, s, u, off, h, h2 => by cases h; exact ⟨u, [], off, rfl, h2, rfl⟩
  | _ :: _, _, s, u, off, ⟨v, ys, o, h1, h3, h4⟩, h2 => by subst h1; exact ⟨v, ys ++ [.string (Lx.strB s.name), u], o, rfl, h3, SetsAt.snoc h4 h2⟩
theorem RedsAt.snoc : ∀ {ps : List Ps.RedP} {xs : List Value} {r : Ps.RedP} {u : Value}, RedsAt w S ps xs → WordIn w S 0 u r.word → RedsAt w S (ps ++ [r]) (xs ++ [.int .i64 r.kind, u])
  | [], _, r, u, h, h2 => by cases h; exact ⟨u, [], rfl, h2, rfl⟩
  | _ :: _, _, r, u, ⟨v, ys, h1, h3, h4⟩, h2 => by subst h1; exact ⟨v, ys ++ [.int .i64 r.kind, u], rfl, h3, RedsAt.snoc h4 h2⟩

theorem WordsAt.len : ∀ {ps : List (List Lx.Part)} {xs : List Value}, WordsAt w S ps xs → xs.length = ps.length
  | [], _, h => by cases h; rfl
  | _ :: _, _, ⟨v, ys, h1, h3, h4⟩ => by subst h1; rw [List.length_cons, List.length_cons, WordsAt.len h4]
end

mutual
theorem NodeAt.kept {w w' : World} {S : Nat → Prop} {F : List Nat} (hc : Chg F w w') (hF : ∀ k ∈ F, ¬ S k) : ∀ (n : Ps.Node) (cs : List Value), NodeAt w S n cs → NodeAt w' S n cs
  | .mk kind kids name words sets reds, cs, h => by
    unfold NodeAt at h ⊢
    obtain ⟨kv, wv, sv, rv, kx, wx, sx, rx, h1, h2, h3, h4, h5, h6, h7, h8, h9⟩ := h
    exact ⟨kv, wv, sv, rv, kx, wx, sx, rx, h1, h2.kept hc hF, NodesAt.kept hc hF kids kx h3, h4.kept hc hF, h5.kept hc hF, h6.kept hc hF, h7.kept hc hF, h8.kept hc hF, h9.kept hc hF⟩
theorem NodesAt.kept {w w' : World} {S : Nat → Prop} {F : List Nat} (hc : Chg F w w') (hF : ∀ k ∈ F, ¬ S k) : ∀ (ns : List Ps.Node) (xs : List Value), NodesAt w S ns xs → NodesAt w' S ns xs
  | [], xs, h => by unfold NodesAt at h ⊢; exact h
  | n :: ns, xs, h => by
    unfold NodesAt at h ⊢
    obtain ⟨cs, ys, h1, h2, h3⟩ := h
    exact ⟨cs, ys, h1, NodeAt.kept hc hF n cs h2, NodesAt.kept hc hF ns ys h3⟩
end
mutual
theorem NodeAt.mono {w : World} {S S' : Nat → Prop} (hS : ∀ k, S k → S' k) : ∀ (n : Ps.Node) (cs : List Value), NodeAt w S n cs → NodeAt w S' n cs
  | .mk kind kids name words sets reds, cs, h => by
    unfold NodeAt at h ⊢
    obtain ⟨kv, wv, sv, rv, kx, wx, sx, rx, h1, h2, h3, h4, h5, h6, h7, h8, h9⟩ := h
    exact ⟨kv, wv, sv, rv, kx, wx, sx, rx, h1, h2.mono hS, NodesAt.mono hS kids kx h3, h4.mono hS, h5.mono hS, h6.mono hS, h7.mono hS, h8.mono hS, h9.mono hS⟩
theorem NodesAt.mono {w : World} {S S' : Nat → Prop} (hS : ∀ k, S k → S' k) : ∀ (ns : List Ps.Node) (xs : List Value), NodesAt w S ns xs → NodesAt w S' ns xs
  | [], xs, h => by unfold NodesAt at h ⊢; exact h
  | n :: ns, xs, h => by
    unfold NodesAt at h ⊢
    obtain ⟨cs, ys, h1, h2, h3⟩ := h
    exact ⟨cs, ys, h1, NodeAt.mono hS n cs h2, NodesAt.mono hS ns ys h3⟩
end

/-- six cells, each a slice, a number or a text. -/
theorem NodeAt.six {w : World} {S : Nat → Prop} {n : Ps.Node} {cs : List Value} (h : NodeAt w S n cs) :
    ∃ (ka wa sa ra : Option Addr) (kn kc wn wc sn sc rn rc : Nat), cs = [.int .i64 n.kind, .slice ka kn kc, .string (Lx.strB n.name), .slice wa wn wc, .slice sa sn sc, .slice ra rn rc] ∧ kn = n.kids.length ∧ wn = n.words.length ∧ sn = n.sets.length ∧ rn = n.reds.length := by
  cases n with
  | mk kind kids name words sets reds =>
    unfold NodeAt at h
    obtain ⟨kv, wv, sv, rv, kx, wx, sx, rx, h1, ⟨ka, kc, rfl, _⟩, h3, ⟨wa, wc, rfl, _⟩, h5, ⟨sa, sc, rfl, _⟩, h7, ⟨ra, rc, rfl, _⟩, h9⟩ := h
    exact ⟨ka, wa, sa, ra, _, kc, _, wc, _, sc, _, rc, h1, rfl, rfl, rfl, rfl⟩

theorem NodeAt.one {w : World} {S : Nat → Prop} {n : Ps.Node} {cs : List Value} (h : NodeAt w S n cs) : cs.length = 6 ∧ ∀ u ∈ cs, u.oneCell' = true := by
  obtain ⟨ka, wa, sa, ra, kn, kc, wn, wc, sn, sc, rn, rc, rfl, _⟩ := h.six
  refine ⟨rfl, fun u hu => ?_⟩
  simp only [List.mem_cons, List.not_mem_nil, or_false] at hu
  rcases hu with rfl | rfl | rfl | rfl | rfl | rfl <;> rfl

theorem NodesAt.snoc {w : World} {S : Nat → Prop} : ∀ {ns : List Ps.Node} {xs : List Value} {n : Ps.Node} {cs : List Value}, NodesAt w S ns xs → NodeAt w S n cs → NodesAt w S (ns ++ [n]) (xs ++ cs)
  | [], xs, n, cs, h, h2 => by
    unfold NodesAt at h
    subst h
    show NodesAt w S [n] cs
    unfold NodesAt
    exact ⟨cs, [], by simp, h2, by unfold NodesAt; rfl⟩
  | m :: ns, xs, n, cs, h, h2 => by
    unfold NodesAt at h
    obtain ⟨ds, ys, rfl, h3, h4⟩ := h
    show NodesAt w S (m :: (ns ++ [n])) (ds ++ ys ++ cs)
    unfold NodesAt
    exact ⟨ds, ys ++ cs, by simp, h3, NodesAt.snoc h4 h2⟩

theorem NodesAt.len {w : World} {S : Nat → Prop} : ∀ {ns : List Ps.Node} {xs : List Value}, NodesAt w S ns xs → xs.length = ns.length * 6
  | [], xs, h => by unfold NodesAt at h; subst h; rfl
  | m :: ns, xs, h => by
    unfold NodesAt at h
    obtain ⟨ds, ys, rfl, h3, h4⟩ := h
    rw [List.length_append, NodesAt.len h4, h3.one.1, List.length_cons]
    omega

/-- a node of kids alone. -/
theorem node_at {w : World} {S : Nat → Prop} {k : Int} {ns : List Ps.Node} {kv : Value} {xs : List Value} (h1 : Sl w S 0 kv ns.length xs) (h2 : NodesAt w S ns xs) : NodeAt w S (Ps.node k ns) [.int .i64 k, kv, .string ⟨#[]⟩, .slice none 0 0, .slice none 0 0, .slice none 0 0] := by
  unfold Ps.node NodeAt
  exact ⟨kv, _, _, _, xs, [], [], [], rfl, h1, h2, Sl.nil _ _ _ _, rfl, Sl.nil _ _ _ _, rfl, Sl.nil _ _ _ _, rfl⟩

end Go.Proofs.YtfgbbmnmblchiaaDoor

namespace Go.Proofs.YtfgbbmnmblchiaaDoor
open Go.RowKit
set_option linter.unusedVariables false

theorem ret_b {a b : Bool} (h : a = b) : Ending.returned (.bool a) = .returned (.bool b) := by rw [h]

/-- the reader's block. -/
def PAt (w : World) (pb : Nat) (tv : Value) (at_ deep : Nat) (e : Int) : Prop := w.heap[pb]? = some (.cells #[tv, .int .i64 at_, .int .i64 deep, .int .i64 e] 60 (0, 0))

/-- the blocks of the tokens and of their pieces; block 2 holds a number that strings.Cut reads. -/
def TB (tv : Value) (vs : List Value) (k : Nat) : Prop := k = 2 ∨ k ∈ rowBlock tv ∨ ∃ u ∈ vs, k ∈ rowBlock u

/-- a token such as texts give: short; a word 'name=..' begins with a piece that holds 'name='. -/
def GoodT (t : Lx.Tok) : Prop := t.text.length ≤ 2048 ∧ (t.kind = 1 → ∀ k, Lx.idx 61 t.text = some k → Lx.isName (t.text.take k) = true → ∃ p r, t.parts = p :: r ∧ k + 1 ≤ p.text.length) ∧ t.parts.length ≤ 2048

/-- a reader of tokens. -/
structure PS (w : World) (pb : Nat) (a : Option Addr) (c : Nat) (ts : List Lx.Tok) (vs : List Value) (at_ deep : Nat) (e : Int) : Prop where
  p : PAt w pb (.slice a ts.length c) at_ deep e
  toks : ToksAt w (.slice a ts.length c) ts vs
  out : ¬ TB (.slice a ts.length c) vs pb
  le : at_ ≤ ts.length
  few : ts.length ≤ 100000
  dp : deep ≤ 16
  good : ∀ t ∈ ts, GoodT t
  ml : ∃ m : Int, w.cell? ⟨2, 0, none⟩ = some (.int .i64 m)

section
variable {w w' : World} {pb : Nat} {a : Option Addr} {c : Nat} {ts : List Lx.Tok} {vs : List Value} {at_ deep : Nat} {e : Int}

theorem PS.c0 (h : PS w pb a c ts vs at_ deep e) : w.cell? ⟨pb, 0, none⟩ = some (.slice a ts.length c) := cell_of_obj h.p rfl
theorem PS.c1 (h : PS w pb a c ts vs at_ deep e) : w.cell? ⟨pb, 1, none⟩ = some (.int .i64 at_) := cell_of_obj h.p rfl
theorem PS.c2 (h : PS w pb a c ts vs at_ deep e) : w.cell? ⟨pb, 2, none⟩ = some (.int .i64 deep) := cell_of_obj h.p rfl
theorem PS.c3 (h : PS w pb a c ts vs at_ deep e) : w.cell? ⟨pb, 3, none⟩ = some (.int .i64 e) := cell_of_obj h.p rfl
theorem PS.free (h : PS w pb a c ts vs at_ deep e) (j : Nat) : w.frozen? ⟨pb, j, none⟩ = false := free_of_obj h.p j
theorem PS.lt (h : PS w pb a c ts vs at_ deep e) : pb < w.heap.size := lt_of_obj h.p

theorem PS.tb_lt (h : PS w pb a c ts vs at_ deep e) : ∀ k, TB (.slice a ts.length c) vs k → k < w.heap.size := by
  rintro k (rfl | hk | ⟨u, hu, hk⟩)
  · obtain ⟨m, hm⟩ := h.ml
    exact World.block_lt_of_cell? w _ hm
  · exact Row.block_lt h.toks.row k hk
  · obtain ⟨i, hi⟩ := List.mem_iff_getElem?.1 hu
    have hlt : i < ts.length := by rw [← h.toks.len]; exact (List.getElem?_eq_some_iff.1 hi).1
    exact Row.block_lt (h.toks.parts i _ u (List.getElem?_eq_getElem hlt) hi).1 k hk

theorem PS.mlP (h : PS w pb a c ts vs at_ deep e) (j : Nat) (v : Value) : ∃ m : Int, (w.setCell ⟨pb, j, none⟩ v).cell? ⟨2, 0, none⟩ = some (.int .i64 m) := by
  obtain ⟨m, hm⟩ := h.ml
  exact ⟨m, ((Chg.refl [pb] w).setCell ⟨pb, j, none⟩ v (.inl (by simp))).cell hm (by simp; rintro rfl; exact h.out (.inl rfl))⟩

theorem PS.chg (h : PS w pb a c ts vs at_ deep e) {F : List Nat} (hc : Chg F w w') (hF : ∀ k ∈ F, k ≠ pb ∧ ¬ TB (.slice a ts.length c) vs k) : PS w' pb a c ts vs at_ deep e :=
  { h with p := hc.obj h.p (fun hk => (hF pb hk).1 rfl), toks := h.toks.kept hc (fun k hk hF' => (hF k hF').2 (.inr (.inl hk))) (fun u hu k hk hF' => (hF k hF').2 (.inr (.inr ⟨u, hu, hk⟩))), ml := h.ml.imp fun m hm => hc.cell hm (fun hF' => (hF 2 hF').2 (.inl rfl)) }
theorem PS.chg0 (h : PS w pb a c ts vs at_ deep e) (hc : Chg [] w w') : PS w' pb a c ts vs at_ deep e := h.chg hc (by simp)

theorem PS.toksP (h : PS w pb a c ts vs at_ deep e) (j : Nat) (v : Value) : ToksAt (w.setCell ⟨pb, j, none⟩ v) (.slice a ts.length c) ts vs :=
  h.toks.kept (F := [pb]) ((Chg.refl [pb] w).setCell _ _ (.inl (by simp))) (fun k hk => by simp only [List.mem_singleton]; rintro rfl; exact h.out (.inr (.inl hk))) (fun u hu k hk => by simp only [List.mem_singleton]; rintro rfl; exact h.out (.inr (.inr ⟨u, hu, hk⟩)))

theorem PS.setAt (h : PS w pb a c ts vs at_ deep e) (q : Nat) (z : Int) (hz : z = q) (hq : q ≤ ts.length) : PS (w.setCell ⟨pb, 1, none⟩ (.int .i64 z)) pb a c ts vs q deep e := by
  subst hz
  exact { h with p := obj_setCell h.p 1 _, toks := h.toksP 1 _, le := hq, ml := h.mlP 1 _ }
theorem PS.setDeep (h : PS w pb a c ts vs at_ deep e) (q : Nat) (z : Int) (hz : z = q) (hq : q ≤ 16) : PS (w.setCell ⟨pb, 2, none⟩ (.int .i64 z)) pb a c ts vs at_ q e := by
  subst hz
  exact { h with p := obj_setCell h.p 2 _, toks := h.toksP 2 _, dp := hq, ml := h.mlP 2 _ }
theorem PS.setE (h : PS w pb a c ts vs at_ deep e) (z : Int) : PS (w.setCell ⟨pb, 3, none⟩ (.int .i64 z)) pb a c ts vs at_ deep z :=
  { h with p := obj_setCell h.p 3 _, toks := h.toksP 3 _, ml := h.mlP 3 _ }
end

theorem ToksAt.cell4 {w : World} {a : Option Addr} {n c : Nat} {ts : List Lx.Tok} {vs : List Value} (h : ToksAt w (.slice a n c) ts vs) (k : Nat) (t : Lx.Tok) (hk : ts[k]? = some t) :
    ∃ g a' n', a = some ⟨g, 0, none⟩ ∧ w.cell? ⟨g, k * 4, none⟩ = some (.int .i64 t.kind) ∧ w.cell? ⟨g, k * 4 + 1, none⟩ = some (.string (Lx.strB t.text)) ∧ w.cell? ⟨g, k * 4 + 2, none⟩ = some (.slice a' n' n') ∧ w.cell? ⟨g, k * 4 + 3, none⟩ = some (.int .i64 t.pos) ∧ PartsAt w (.slice a' n' n') t.parts := by
  have hlt := (List.getElem?_eq_some_iff.1 hk).1
  obtain ⟨g, rfl, _, _, hc⟩ := h.cells (by omega)
  obtain ⟨u, hu⟩ : ∃ u, vs[k]? = some u := ⟨_, List.getElem?_eq_getElem (by rw [h.len]; exact hlt)⟩
  obtain ⟨hp, a', n', rfl⟩ := h.parts k t u hk hu
  have := hc k t _ hk hu
  exact ⟨g, a', n', rfl, by rw [Nat.mul_comm]; exact this.kind, by rw [Nat.mul_comm]; exact this.text, by rw [Nat.mul_comm]; exact this.ps, by rw [Nat.mul_comm]; exact this.pos, hp⟩

theorem isT_none {ts : List Lx.Tok} {a : Nat} (h : ¬ a < ts.length) (k : Int) (x : List UInt8) : Ps.isT ts a k x = false := by
  unfold Ps.isT
  rw [List.getElem?_eq_none (by omega)]
theorem isT_some {ts : List Lx.Tok} {a : Nat} {t : Lx.Tok} (h : ts[a]? = some t) (k : Int) (x : List UInt8) : Ps.isT ts a k x = (t.kind == k && (x.isEmpty || t.text == x)) := by
  unfold Ps.isT
  rw [h]

set_option maxHeartbeats 4000000 in
set_option maxRecDepth 10000 in
theorem is_any (pb : Nat) (a : Option Addr) (c : Nat) (ts : List Lx.Tok) (vs : List Value) (p deep : Nat) (er : Int) (kind : Int) (x : List UInt8) (w : World) (h : PS w pb a c ts vs p deep er) :
    Calls Tryd.prog 29 #[.pointer (some ⟨pb, 0, none⟩), .int .i64 kind, .string (Lx.strB x)] w fun e w' => e = .returned (.bool (Ps.isT ts p kind x)) ∧ ∃ n, w' = w.drewN n := by
  have x0 := h.c0
  have x1 := h.c1
  have p0 : (0 : Int) ≤ (p : Int) := by omega
  have hfew := h.few
  have p1 : (p : Int) ≤ 100000 := by have := h.le; omega
  have l1 : (ts.length : Int) ≤ 100000 := by omega
  have HP := Lib.hid h
  clear h hfew
  by_cases hp : p < ts.length
  · have hd : decide (p < ts.length) = true := decide_eq_true hp
    have p2 : (p : Int) < (ts.length : Int) := by omega
    have p3 : 0 < ts.length := by omega
    obtain ⟨t, ht⟩ : ∃ t, ts[p]? = some t := ⟨_, List.getElem?_eq_getElem hp⟩
    have hr := Lib.hid (isT_some ht kind x)
    obtain ⟨g1, a3, n3, rfl, y0, y1, y2, y3, hW⟩ := HP.out.toks.cell4 p t ht
    clear ht hW y2 y3
    by_cases hk : t.kind = kind
    · have e1 : (t.kind == kind) = true := by rw [beq_iff_eq]; exact hk
      by_cases hx : x = []
      · have e2 : (Lx.strB x).toList.isEmpty = true := by rw [Lx.strB_toList, hx]; rfl
        have hr2 := Lib.hid (show Ps.isT ts p kind x = true from by rw [hr.out, e1, hx]; rfl)
        clear hk hx hr
        go_enter Tryd.func29, Tryd.ntmps29
        go_wp2_with fail
        go_quiet (fail)
        all_goals
          go_wp2
          go_ret
          exact ⟨ret_b hr2.out.symm, nq, rfl⟩
      · have e2 : (Lx.strB x).toList.isEmpty = false := by rw [Lx.strB_toList]; simpa using hx
        have hxe : x.isEmpty = false := by simpa using hx
        obtain ⟨b, hb⟩ : ∃ b, (t.text == x) = b := ⟨_, rfl⟩
        have e3 : ((Lx.strB t.text).toList == (Lx.strB x).toList) = b := by rw [Lx.strB_toList, Lx.strB_toList]; exact hb
        have hr2 := Lib.hid (show Ps.isT ts p kind x = b from by rw [hr.out, e1, hxe, hb]; cases b <;> rfl)
        clear hk hx hr hb hxe
        go_enter Tryd.func29, Tryd.ntmps29
        go_wp2_with fail
        go_quiet (fail)
        all_goals
          go_wp2
          go_ret
          exact ⟨ret_b hr2.out.symm, nq, rfl⟩
    · have e1 : (t.kind == kind) = false := by rw [beq_eq_false_iff_ne]; exact hk
      have hr2 := Lib.hid (show Ps.isT ts p kind x = false from by rw [hr.out, e1]; rfl)
      clear hk hr
      go_enter Tryd.func29, Tryd.ntmps29
      go_wp2_with fail
      go_quiet (fail)
      all_goals
        go_wp2
        go_ret
        exact ⟨ret_b hr2.out.symm, nq, rfl⟩
  · have hd : decide (p < ts.length) = false := decide_eq_false hp
    have hr2 := Lib.hid (isT_none hp kind x)
    clear hp
    go_enter Tryd.func29, Tryd.ntmps29
    go_wp2_with fail
    go_quiet (fail)
    all_goals
      go_wp2
      go_ret
      exact ⟨ret_b hr2.out.symm, nq, rfl⟩

end Go.Proofs.YtfgbbmnmblchiaaDoor

namespace Go.Proofs.YtfgbbmnmblchiaaDoor
open Go.RowKit
set_option linter.unusedVariables false

theorem isT_lt {ts : List Lx.Tok} {p : Nat} {k : Int} {x : List UInt8} (h : Ps.isT ts p k x = true) : p < ts.length := by
  apply Decidable.byContradiction
  intro hn
  rw [isT_none hn] at h
  cases h

section
variable {w w' : World} {pb : Nat} {a : Option Addr} {c : Nat} {ts : List Lx.Tok} {vs : List Value} {p deep : Nat} {er : Int}
theorem PS.drewN (h : PS w pb a c ts vs p deep er) (n : Nat) : PS (w.drewN n) pb a c ts vs p deep er := h.chg0 ((Chg.refl [] w).drewN n)
theorem Chg.setP (w : World) (pb j : Nat) (v : Value) : Chg [pb] w (w.setCell ⟨pb, j, none⟩ v) := (Chg.refl [pb] w).setCell _ _ (.inl (by simp))
end

set_option maxHeartbeats 4000000 in
set_option maxRecDepth 10000 in
theorem fail_any (pb : Nat) (a : Option Addr) (c : Nat) (ts : List Lx.Tok) (vs : List Value) (p deep : Nat) (k : Int) (w : World) (h : PS w pb a c ts vs p deep 0) :
    Calls Tryd.prog 14 #[.pointer (some ⟨pb, 0, none⟩), .int .i64 k] w fun e w' => e = .returned (.bool false) ∧ PS w' pb a c ts vs p deep k ∧ Chg [pb] w w' := by
  have x3 := h.c3
  have f3 := h.free 3
  have HP := Lib.hid h
  clear h
  go_enter Tryd.func14, Tryd.ntmps14
  go_wp2_with fail
  go_ret
  exact ⟨rfl, HP.out.setE k, Chg.setP _ _ _ _⟩

/-- what must be. -/
def WantPost (w : World) (pb : Nat) (a : Option Addr) (c : Nat) (ts : List Lx.Tok) (vs : List Value) (deep : Nat) (r : Ps.Res Unit) (e : Ending) (w' : World) : Prop :=
  match r with
  | .bad er q => e = .returned (.bool false) ∧ PS w' pb a c ts vs q deep er ∧ Chg [pb] w w'
  | .ok _ q => e = .returned (.bool true) ∧ PS w' pb a c ts vs q deep 0 ∧ Chg [pb] w w'

set_option maxHeartbeats 4000000 in
set_option maxRecDepth 10000 in
theorem want_any (pb : Nat) (a : Option Addr) (c : Nat) (ts : List Lx.Tok) (vs : List Value) (p deep : Nat) (kind : Int) (x : List UInt8) (w : World) (h : PS w pb a c ts vs p deep 0) :
    Calls Tryd.prog 88 #[.pointer (some ⟨pb, 0, none⟩), .int .i64 kind, .string (Lx.strB x)] w fun e w' => WantPost w pb a c ts vs deep (Ps.wantP ts p kind x) e w' := by
  have HP := Lib.hid h
  have H1 := Lib.hid (is_any pb a c ts vs p deep 0 kind x w h)
  have hfew := h.few
  clear h
  cases hb : Ps.isT ts p kind x with
  | true =>
    have hlt := isT_lt hb
    have hr := Lib.hid (show Ps.wantP ts p kind x = .ok () (p + 1) from by unfold Ps.wantP; rw [if_pos hb])
    rw [hb] at H1
    clear hb
    go_enter Tryd.func88, Tryd.ntmps88
    go_wp2_with fail
    refine H1.out.mono ?_
    rintro e w1 ⟨rfl, n1, rfl⟩
    have HP1 := Lib.hid (HP.out.drewN n1)
    have x1 := HP1.out.c1
    have f1 := HP1.out.free 1
    go_wp2
    go_ret
    rw [hr.out]
    exact ⟨rfl, HP1.out.setAt (p + 1) _ (by go_num) (by omega), ((Chg.refl _ _).drewN n1).trans (Chg.setP _ _ _ _) (fun k hk => .inl hk)⟩
  | false =>
    have hr := Lib.hid (show Ps.wantP ts p kind x = .bad 10 p from by unfold Ps.wantP; rw [if_neg (by rw [hb]; decide)])
    rw [hb] at H1
    clear hb
    go_enter Tryd.func88, Tryd.ntmps88
    go_wp2_with fail
    refine H1.out.mono ?_
    rintro e w1 ⟨rfl, n1, rfl⟩
    have HP1 := Lib.hid (HP.out.drewN n1)
    go_wp2_with fail
    refine (fail_any pb a c ts vs p deep 10 _ HP1.out).mono ?_
    rintro e w2 ⟨rfl, P2, C2⟩
    go_wp2
    go_ret
    rw [hr.out]
    exact ⟨rfl, P2, ((Chg.refl _ _).drewN n1).trans C2 (fun k hk => .inl hk)⟩

theorem endsP_here {ts : List Lx.Tok} {p : Nat} (h : Ps.isT ts p 3 [] = false) : Ps.endsP ts p = p := by
  unfold Ps.endsP
  cases hd : ts.drop p with
  | nil => simp
  | cons t r =>
    have ht : ts[p]? = some t := by
      have := congrArg List.head? hd
      simpa [List.head?_drop] using this
    rw [isT_some ht] at h
    have h3 : (t.kind == 3) = false := by simpa using h
    rw [List.takeWhile_cons_of_neg (by rw [h3]; decide)]
    rfl
theorem endsP_next {ts : List Lx.Tok} {p : Nat} (h : Ps.isT ts p 3 [] = true) : Ps.endsP ts p = Ps.endsP ts (p + 1) := by
  have hlt := isT_lt h
  unfold Ps.endsP
  rw [List.drop_eq_getElem_cons hlt]
  rw [isT_some (List.getElem?_eq_getElem hlt)] at h
  have h3 : (ts[p].kind == 3) = true := by simpa using h
  have h4 : List.takeWhile (fun t : Lx.Tok => t.kind == 3) (ts[p] :: List.drop (p + 1) ts) = ts[p] :: List.takeWhile (fun t : Lx.Tok => t.kind == 3) (List.drop (p + 1) ts) := List.takeWhile_cons_of_pos h3
  rw [h4, List.length_cons]
  omega
theorem endsP_le {ts : List Lx.Tok} {p : Nat} (h : p ≤ ts.length) : p ≤ Ps.endsP ts p ∧ Ps.endsP ts p ≤ ts.length := by
  unfold Ps.endsP
  have := (List.takeWhile_prefix (fun t : Lx.Tok => t.kind == 3) (l := ts.drop p)).length_le
  rw [List.length_drop] at this
  omega

set_option maxHeartbeats 4000000 in
set_option maxRecDepth 10000 in
theorem ends_any (pb : Nat) (a : Option Addr) (c : Nat) (ts : List Lx.Tok) (vs : List Value) (p deep : Nat) (w : World) (h : PS w pb a c ts vs p deep 0) :
    Calls Tryd.prog 26 #[.pointer (some ⟨pb, 0, none⟩)] w fun e w' => e = .returned (.tuple #[]) ∧ PS w' pb a c ts vs (Ps.endsP ts p) deep 0 ∧ Chg [pb] w w' := by
  have hfew := h.few
  have HP := Lib.hid h
  clear h
  go_enter Tryd.func26, Tryd.ntmps26
  go_wp2_with fail
  go_loopg [] (ts.length + 1) (fun g wr => ∃ q : Nat, ts.length < q + g ∧ PS wr pb a c ts vs q deep 0 ∧ Hid (Ps.endsP ts q = Ps.endsP ts p) ∧ Chg [pb] w wr)
  case atStart => exact ⟨p, by omega, HP.out, Lib.hid rfl, Chg.refl _ _⟩
  case round =>
    obtain ⟨q, hg, hP, hE, hC⟩ := hrel
    have hle := hP.le
    have HQ := Lib.hid hP
    have HC := Lib.hid hC
    have H1 := Lib.hid (is_any pb a c ts vs q deep 0 3 [] wr hP)
    clear hP hC HP
    cases hb : Ps.isT ts q 3 [] with
    | true =>
      have hlt := isT_lt hb
      have hr := Lib.hid (hE.out.symm.trans (endsP_next hb))
      rw [hb] at H1
      clear hb hE
      cases gk with
      | zero => omega
      | succ g =>
        have HG := Lib.hid hg
        clear hg
        go_wp2_with fail
        refine H1.out.mono ?_
        rintro e w1 ⟨rfl, n1, rfl⟩
        have HP1 := Lib.hid (HQ.out.drewN n1)
        have x1 := HP1.out.c1
        have f1 := HP1.out.free 1
        go_wp2
        go_roundg g
        case measure => omega
        case rel => exact ⟨q + 1, by have := HG.out; omega, HP1.out.setAt (q + 1) _ (by go_num) (by omega), Lib.hid hr.out.symm, (HC.out.drewN n1).trans (Chg.setP _ _ _ _) (fun k hk => .inl hk)⟩
    | false =>
      have hr := Lib.hid (hE.out.symm.trans (endsP_here hb))
      rw [hb] at H1
      clear hb hE hg
      go_wp2_with fail
      refine H1.out.mono ?_
      rintro e w1 ⟨rfl, n1, rfl⟩
      have HP1 := Lib.hid (HQ.out.drewN n1)
      go_wp2
      refine bodyPost_end (results_none rfl _ _ _) rfl ?_
      rw [hr.out]
      exact ⟨rfl, HP1.out, HC.out.drewN n1⟩

theorem closing_none {ts : List Lx.Tok} {p : Nat} (h : ¬ p < ts.length) : Ps.closing ts p = true := by
  unfold Ps.closing
  rw [List.getElem?_eq_none (by omega)]
theorem closing_some {ts : List Lx.Tok} {p : Nat} {t : Lx.Tok} (h : ts[p]? = some t) : Ps.closing ts p = ((t.kind == 2 && t.text == [41]) || (t.kind == 1 && Ps.closers.contains t.text)) := by
  unfold Ps.closing
  rw [h]

def closersB : List ByteArray := [⟨#[116, 104, 101, 110]⟩, ⟨#[101, 108, 115, 101]⟩, ⟨#[102, 105]⟩, ⟨#[100, 111]⟩, ⟨#[100, 111, 110, 101]⟩]

theorem closers_has (l : List UInt8) : Lib.containsS (closersB.take 5) (Lx.strB l) = Ps.closers.contains l := by
  rw [Bool.eq_iff_iff, Lib.containsS_iff, List.contains_iff_mem]
  have hinj : ∀ x y : List UInt8, Lx.strB x = Lx.strB y ↔ x = y := fun x y => ⟨fun h => by rw [← Lx.strB_toList x, h, Lx.strB_toList], fun h => by rw [h]⟩
  show Lx.strB l ∈ [Lx.strB Ps.kwThen, Lx.strB Ps.kwElse, Lx.strB Ps.kwFi, Lx.strB Ps.kwDo, Lx.strB Ps.kwDone] ↔ l ∈ [Ps.kwThen, Ps.kwElse, Ps.kwFi, Ps.kwDo, Ps.kwDone]
  simp only [List.mem_cons, List.not_mem_nil, or_false, hinj]

def closersA : Array Value := #[.string ⟨#[116, 104, 101, 110]⟩, .string ⟨#[101, 108, 115, 101]⟩, .string ⟨#[102, 105]⟩, .string ⟨#[100, 111]⟩, .string ⟨#[100, 111, 110, 101]⟩]
theorem closer_cells (w : World) (E : TypeId) : ∀ j, j < closersB.length → (w.alloc (.cells closersA E)).cell? ⟨w.heap.size, 0 + j, none⟩ = some (.string (closersB.getD j ByteArray.empty)) := by
  intro j hj
  refine cell_of_obj (obj_alloc_new w _) ?_
  have : j < 5 := hj
  rcases (show j = 0 ∨ j = 1 ∨ j = 2 ∨ j = 3 ∨ j = 4 from by omega) with rfl | rfl | rfl | rfl | rfl <;> rfl

set_option maxHeartbeats 4000000 in
set_option maxRecDepth 10000 in
theorem closing_any (pb : Nat) (a : Option Addr) (c : Nat) (ts : List Lx.Tok) (vs : List Value) (p deep : Nat) (er : Int) (w : World) (h : PS w pb a c ts vs p deep er) :
    Calls Tryd.prog 27 #[.pointer (some ⟨pb, 0, none⟩)] w fun e w' => e = .returned (.bool (Ps.closing ts p)) ∧ Chg [] w w' := by
  have x0 := h.c0
  have x1 := h.c1
  have p0 : (0 : Int) ≤ (p : Int) := by omega
  have hfew := h.few
  have p1 : (p : Int) ≤ 100000 := by have := h.le; omega
  have l1 : (ts.length : Int) ≤ 100000 := by omega
  have HP := Lib.hid h
  have H1 := Lib.hid (fun n => is_any pb a c ts vs p deep er 2 [41] _ (h.drewN n))
  clear h hfew
  by_cases hp : p < ts.length
  · have hd : decide (ts.length ≤ p) = false := decide_eq_false (by omega)
    have p2 : (p : Int) < (ts.length : Int) := by omega
    have p3 : 0 < ts.length := by omega
    obtain ⟨t, ht⟩ : ∃ t, ts[p]? = some t := ⟨_, List.getElem?_eq_getElem hp⟩
    have hr := Lib.hid (closing_some ht)
    have hi := Lib.hid (isT_some ht 2 [41])
    obtain ⟨g1, a3, n3, rfl, y0, y1, y2, y3, hW⟩ := HP.out.toks.cell4 p t ht
    clear ht hW y2 y3
    cases hb : Ps.isT ts p 2 [41] with
    | true =>
      have hr2 := Lib.hid (show Ps.closing ts p = true from by
        rw [hr.out]
        have := hi.out.symm.trans hb
        rw [show (t.kind == 2 && t.text == [41]) = true from by simpa using this]
        rfl)
      rw [hb] at H1
      clear hb hr hi
      go_enter Tryd.func27, Tryd.ntmps27
      go_wp2_with fail
      go_quiet ((go_at_call 29; exact Calls.quiet_of (H1.out _)))
      all_goals
        go_wp2
        go_ret
        exact ⟨ret_b hr2.out.symm, (Chg.refl _ _).drewN _⟩
    | false =>
      have hr1 := Lib.hid (show Ps.closing ts p = (t.kind == 1 && Ps.closers.contains t.text) from by
        rw [hr.out]
        have := hi.out.symm.trans hb
        rw [show (t.kind == 2 && t.text == [41]) = false from by simpa using this]
        rfl)
      rw [hb] at H1
      clear hb hr hi
      by_cases hk : t.kind = 1
      · have e1 : (t.kind == 1) = true := by rw [beq_iff_eq]; exact hk
        have hr2 := Lib.hid (show Ps.closing ts p = Lib.containsS (closersB.take 5) (Lx.strB t.text) from by rw [hr1.out, e1, closers_has]; rfl)
        clear hr1
        go_enter Tryd.func27, Tryd.ntmps27
        go_wp2_with fail
        go_quiet ((go_at_call 29; exact Calls.quiet_of (H1.out _)))
        all_goals
          go_wp2
          have HQ := Lib.hid (HP.out.drewN nq)
          have z0 := HQ.out.c0
          have z1 := HQ.out.c1
          have u0 : (w.drewN nq).cell? ⟨g1, p * 4, none⟩ = some (.int .i64 t.kind) := y0
          have u1 : (w.drewN nq).cell? ⟨g1, p * 4 + 1, none⟩ = some (.string (Lx.strB t.text)) := y1
          have C0 := Lib.hid ((Chg.refl [] w).drewN nq)
          generalize w.drewN nq = w1 at *
          clear x0 x1 y0 y1
          have z0a := fun (o : Obj) => ((Chg.refl [] w1).alloc o).cell z0 (by simp)
          have z1a := fun (o : Obj) => ((Chg.refl [] w1).alloc o).cell z1 (by simp)
          have u0a := fun (o : Obj) => ((Chg.refl [] w1).alloc o).cell u0 (by simp)
          have u1a := fun (o : Obj) => ((Chg.refl [] w1).alloc o).cell u1 (by simp)
          go_region_held3 (fun w' => w'.cell? ⟨pb, 0, none⟩ = some (.slice (some ⟨g1, 0, none⟩) ts.length c) ∧ w'.cell? ⟨pb, 1, none⟩ = some (.int .i64 p) ∧ w'.cell? ⟨g1, p * 4, none⟩ = some (.int .i64 t.kind) ∧ w'.cell? ⟨g1, p * 4 + 1, none⟩ = some (.string (Lx.strB t.text)))
            (first | exact ⟨z0, z1, u0, u1⟩ | exact ⟨z0a _, z1a _, u0a _, u1a _⟩)
            ((go_at_call 45; refine (Tryd.slices_Contains_string _ 0 5 5 closersB (Lx.strB t.text) _ (by decide) (by decide) (by exact closer_cells w1 _)).mono ?_; rintro e w3 ⟨rfl, rfl⟩))
          all_goals
            go_wp2
            go_ret
            exact ⟨ret_b hr2.out.symm, by first | exact (C0.out.alloc _).drew | exact C0.out.alloc _ | exact ((C0.out.alloc _).drew).drew | exact ((C0.out.drew).alloc _)⟩
      · have e1 : (t.kind == 1) = false := by rw [beq_eq_false_iff_ne]; exact hk
        have hr2 := Lib.hid (show Ps.closing ts p = false from by rw [hr1.out, e1]; rfl)
        clear hk hr1
        go_enter Tryd.func27, Tryd.ntmps27
        go_wp2_with fail
        go_quiet ((go_at_call 29; exact Calls.quiet_of (H1.out _)))
        all_goals
          go_wp2
          go_quiet (fail)
          go_wp2
          go_ret
          exact ⟨ret_b hr2.out.symm, ((Chg.refl _ _).drewN _).drewN _⟩
  · have hd : decide (ts.length ≤ p) = true := decide_eq_true (by omega)
    have hr2 := Lib.hid (closing_none hp)
    clear hp
    go_enter Tryd.func27, Tryd.ntmps27
    go_wp2_with fail
    go_quiet (fail)
    all_goals
      go_wp2
      go_ret
      exact ⟨ret_b hr2.out.symm, (Chg.refl _ _).drewN _⟩

end Go.Proofs.YtfgbbmnmblchiaaDoor

namespace Go.Proofs.YtfgbbmnmblchiaaDoor
open Go.RowKit
set_option linter.unusedVariables false

theorem Tryd.infoNode : (Tryd.prog.info? 30).map (fun i => (i.zero, i.size, i.bytes)) = some (some (.agg #[.int .i64 0, .slice none 0 0, .string ⟨#[]⟩, .slice none 0 0, .slice none 0 0, .slice none 0 0]), 6, 120) := by kernel_rfl

/-- the tokens' blocks, and those made between two sizes of the heap. -/
def Sn (tv : Value) (vs : List Value) (lo hi : Nat) (k : Nat) : Prop := TB tv vs k ∨ (lo ≤ k ∧ k < hi)

/-- six cells of a node, whatever they are. -/
def Six (cs : List Value) : Prop := ∃ (k : Int) (s : List UInt8) (ka wa sa ra : Option Addr) (kn kc wn wc sn sc rn rc : Nat), cs = [.int .i64 k, .slice ka kn kc, .string (Lx.strB s), .slice wa wn wc, .slice sa sn sc, .slice ra rn rc]

theorem NodeAt.Six {w : World} {S : Nat → Prop} {n : Ps.Node} {cs : List Value} (h : NodeAt w S n cs) : Six cs := by
  obtain ⟨ka, wa, sa, ra, kn, kc, wn, wc, sn, sc, rn, rc, rfl, _⟩ := h.six
  exact ⟨_, _, _, _, _, _, _, _, _, _, _, _, _, _, rfl⟩

theorem Six.one {cs : List Value} (h : Six cs) : cs.length = 6 ∧ ∀ u ∈ cs, u.oneCell' = true := by
  obtain ⟨k, s, ka, wa, sa, ra, kn, kc, wn, wc, sn, sc, rn, rc, rfl⟩ := h
  refine ⟨rfl, fun u hu => ?_⟩
  simp only [List.mem_cons, List.not_mem_nil, or_false] at hu
  rcases hu with rfl | rfl | rfl | rfl | rfl | rfl <;> rfl

/-- what a reading leaves. -/
def RdPost (w : World) (pb : Nat) (a : Option Addr) (c : Nat) (ts : List Lx.Tok) (vs : List Value) (deep : Nat) (r : Ps.Res Ps.Node) (e : Ending) (w' : World) : Prop :=
  match r with
  | .bad er q => ∃ cs, Six cs ∧ e = .returned (.tuple #[.agg cs.toArray, .bool false]) ∧ PS w' pb a c ts vs q deep er ∧ Chg [pb] w w'
  | .ok n q => ∃ cs, NodeAt w' (Sn (.slice a ts.length c) vs w.heap.size w'.heap.size) n cs ∧ e = .returned (.tuple #[.agg cs.toArray, .bool true]) ∧ PS w' pb a c ts vs q deep 0 ∧ Chg [pb] w w'

/-- what a tree's blocks are among while its kids' row grows. -/
def Sk (tv : Value) (vs : List Value) (rb nb : Nat) (kv : Value) (lo hi : Nat) (k : Nat) : Prop := Sn tv vs lo hi k ∧ k ≠ rb ∧ k ≠ nb ∧ k ∉ rowBlock kv

def nodeC (k : Int) (kv : Value) : Array Value := #[.int .i64 k, kv, .string ⟨#[]⟩, .slice none 0 0, .slice none 0 0, .slice none 0 0]

structure KidsAt (w : World) (pb : Nat) (a : Option Addr) (c : Nat) (ts : List Lx.Tok) (vs : List Value) (rb nb : Nat) (k : Int) (q deep : Nat) (acc : List Ps.Node) (kv : Value) (xs : List Value) (wr : World) : Prop where
  ps : PS wr pb a c ts vs q deep 0
  nd : wr.heap[nb]? = some (.cells (nodeC k kv) 30 (0, 0))
  rs : wr.heap[rb]? = some (.cells (nodeC 0 (.slice none 0 0)) 30 (0, 0))
  row : Row wr 30 6 kv acc.length xs
  nodes : NodesAt wr (Sk (.slice a ts.length c) vs rb nb kv w.heap.size wr.heap.size) acc xs
  new : ∀ k ∈ rowBlock kv, w.heap.size ≤ k ∧ k ≠ rb ∧ k ≠ nb
  chg : Chg [pb] w wr
  rb0 : w.heap.size ≤ rb
  nb0 : w.heap.size ≤ nb
  ne : rb ≠ nb
  old : pb < w.heap.size ∧ ∀ k, TB (.slice a ts.length c) vs k → k < w.heap.size
  few : acc.length ≤ q

section
variable {w wr w' : World} {pb : Nat} {a : Option Addr} {c : Nat} {ts : List Lx.Tok} {vs : List Value} {rb nb : Nat} {k : Int} {q deep : Nat} {acc : List Ps.Node} {kv : Value} {xs : List Value}

theorem KidsAt.sk_lt (h : KidsAt w pb a c ts vs rb nb k q deep acc kv xs wr) {j hi : Nat} (hj : Sk (.slice a ts.length c) vs rb nb kv w.heap.size hi j) (hh : wr.heap.size ≤ hi) : j < hi := by
  rcases hj.1 with h1 | h1
  · have := h.old.2 j h1
    have := h.chg.size
    omega
  · exact h1.2

theorem KidsAt.sk_pb (h : KidsAt w pb a c ts vs rb nb k q deep acc kv xs wr) {hi : Nat} : ¬ Sk (.slice a ts.length c) vs rb nb kv w.heap.size hi pb := by
  rintro ⟨h1, _⟩
  rcases h1 with h1 | h1
  · exact h.ps.out h1
  · have := h.old.1
    omega

/-- a call that turns the reader alone. -/
theorem KidsAt.call (h : KidsAt w pb a c ts vs rb nb k q deep acc kv xs wr) (hc : Chg [pb] wr w') {q' : Nat} (hp : PS w' pb a c ts vs q' deep 0) (hq : q ≤ q') : KidsAt w pb a c ts vs rb nb k q' deep acc kv xs w' := by
  have hpb := h.old.1
  have hrb := h.rb0
  have hnb := h.nb0
  exact
    { h with
      ps := hp
      nd := hc.obj h.nd (by simp; omega)
      rs := hc.obj h.rs (by simp; omega)
      row := h.row.kept hc (fun k hk => by have := (h.new k hk).1; simp; omega)
      nodes := NodesAt.mono (fun j hj => ⟨hj.1.imp id (fun h1 => ⟨h1.1, Nat.lt_of_lt_of_le h1.2 hc.size⟩), hj.2⟩) _ _ (NodesAt.kept hc (fun k hk => by simp at hk; subst hk; exact h.sk_pb) _ _ h.nodes)
      chg := h.chg.trans hc (fun x hx => .inl hx)
      few := Nat.le_trans h.few hq }

theorem KidsAt.kept0 (h : KidsAt w pb a c ts vs rb nb k q deep acc kv xs wr) (hc : Chg [] wr w') : KidsAt w pb a c ts vs rb nb k q deep acc kv xs w' := h.call (hc.mono (by simp)) (h.ps.chg0 hc) (Nat.le_refl _)

/-- the tree that a call hands back lies apart. -/
theorem KidsAt.got (h : KidsAt w pb a c ts vs rb nb k q deep acc kv xs wr) {n : Ps.Node} {cs : List Value} (hn : NodeAt w' (Sn (.slice a ts.length c) vs wr.heap.size w'.heap.size) n cs) :
    NodeAt w' (Sk (.slice a ts.length c) vs rb nb kv w.heap.size w'.heap.size) n cs := by
  have h1 := lt_of_obj h.nd
  have h2 := lt_of_obj h.rs
  have h3 := h.rb0
  have h4 := h.nb0
  have h5 := h.chg.size
  refine NodeAt.mono (fun j hj => ?_) _ _ hn
  rcases hj with hj | hj
  · have h6 := h.old.2 j hj
    exact ⟨.inl hj, by omega, by omega, fun hk => by have := (h.new j hk).1; omega⟩
  · exact ⟨.inr ⟨by omega, hj.2⟩, by omega, by omega, fun hk => by have := Row.block_lt h.row j hk; omega⟩

/-- one kid more. -/
theorem KidsAt.add {w1 w2 w3 : World} (h : KidsAt w pb a c ts vs rb nb k q deep acc kv xs w1) {n : Ps.Node} {cs : List Value} {v' : Value} (hn : NodeAt w1 (Sk (.slice a ts.length c) vs rb nb kv w.heap.size w1.heap.size) n cs)
    (h12 : Chg [] w1 w2) (hr : Row w3 30 6 v' (acc.length + 1) (xs ++ cs)) (h23 : Chg (rowBlock kv) w2 w3) (hb : ∀ k ∈ rowBlock v', k ∈ rowBlock kv ∨ w1.heap.size ≤ k) (hf : acc.length + 1 ≤ q) :
    KidsAt w pb a c ts vs rb nb k q deep (acc ++ [n]) v' (xs ++ cs) (w3.setCell ⟨nb, 1, none⟩ v') := by
  have hpb := h.old.1
  have hrb := h.rb0
  have hnb := h.nb0
  have h13 : Chg (rowBlock kv) w1 w3 := (h12.mono (by simp)).trans h23 (fun x hx => .inl hx)
  have hs : Chg [nb] w3 (w3.setCell ⟨nb, 1, none⟩ v') := (Chg.refl [nb] w3).setCell _ _ (.inl (by simp))
  have s1 := h12.size
  have s2 := h13.size
  have s3 := hs.size
  have l1 := lt_of_obj h.nd
  have l2 := lt_of_obj h.rs
  have n1 : ∀ j, j ∈ rowBlock kv → j ≠ pb ∧ ¬ TB (.slice a ts.length c) vs j := fun j hj => by
    have := (h.new j hj).1
    exact ⟨by omega, fun ht => by have := h.old.2 j ht; omega⟩
  have n2 : ∀ j ∈ rowBlock v', w.heap.size ≤ j ∧ j ≠ rb ∧ j ≠ nb := fun j hj => by
    rcases hb j hj with h1 | h1
    · exact h.new j h1
    · have := h.chg.size
      exact ⟨by omega, by omega, by omega⟩
  have hsm : ∀ j, Sk (.slice a ts.length c) vs rb nb kv w.heap.size w1.heap.size j → Sk (.slice a ts.length c) vs rb nb v' w.heap.size (w3.setCell ⟨nb, 1, none⟩ v').heap.size j := fun j hj => by
    have hlt := h.sk_lt hj (Nat.le_refl _)
    refine ⟨hj.1.imp id (fun h1 => ⟨h1.1, by omega⟩), hj.2.1, hj.2.2.1, fun hk => ?_⟩
    rcases hb j hk with h1 | h1
    · exact hj.2.2.2 h1
    · omega
  have hk3 : ∀ j ∈ rowBlock kv, ¬ Sk (.slice a ts.length c) vs rb nb kv w.heap.size w1.heap.size j := fun j hj hS => hS.2.2.2 hj
  have hks : ∀ j ∈ [nb], ¬ Sk (.slice a ts.length c) vs rb nb kv w.heap.size w1.heap.size j := fun j hj hS => by simp at hj; exact hS.2.2.1 hj
  have hN := NodesAt.snoc (NodesAt.kept hs hks _ _ (NodesAt.kept h13 hk3 _ _ h.nodes)) (NodeAt.kept hs hks _ _ (NodeAt.kept h13 hk3 _ _ hn))
  have hP3 : PS w3 pb a c ts vs q deep 0 := h.ps.chg h13 n1
  exact
    { ps := hP3.chg hs (fun j hj => by simp at hj; subst hj; exact ⟨by omega, fun ht => by have := h.old.2 j ht; omega⟩)
      nd := obj_setCell (h13.obj h.nd (fun hj => (h.new _ hj).2.2 rfl)) 1 v'
      rs := hs.obj (h13.obj h.rs (fun hj => (h.new _ hj).2.1 rfl)) (by simp; exact h.ne)
      row := by
        rw [List.length_append, List.length_singleton]
        exact hr.kept hs (fun j hj => by simp; exact (n2 j hj).2.2)
      nodes := NodesAt.mono hsm _ _ hN
      new := n2
      chg := (h.chg.trans h13 (fun x hx => .inr (h.new x hx).1)).trans hs (fun x hx => .inr (by simp at hx; omega))
      rb0 := hrb
      nb0 := hnb
      ne := h.ne
      old := h.old
      few := by rw [List.length_append, List.length_singleton]; exact hf }

theorem KidsAt.setAt (h : KidsAt w pb a c ts vs rb nb k q deep acc kv xs wr) (z : Int) (hz : z = ((q + 1 : Nat) : Int)) (hq : q + 1 ≤ ts.length) : KidsAt w pb a c ts vs rb nb k (q + 1) deep acc kv xs (wr.setCell ⟨pb, 1, none⟩ (.int .i64 z)) :=
  h.call (Chg.setP _ _ _ _) (h.ps.setAt (q + 1) z hz hq) (by omega)

/-- at the end, one kid alone is the answer: its cells stand in the result's block. -/
theorem KidsAt.fin1 (h : KidsAt w pb a c ts vs rb nb k q deep acc kv xs wr) {n : Ps.Node} {cs : List Value} (hn : NodeAt wr (Sk (.slice a ts.length c) vs rb nb kv w.heap.size wr.heap.size) n cs) (hc : Chg [rb] wr w') :
    RdPost w pb a c ts vs deep (.ok n q) (.returned (.tuple #[.agg cs.toArray, .bool true])) w' := by
  have hrb := h.rb0
  refine ⟨cs, NodeAt.mono (fun j hj => ?_) _ _ (NodeAt.kept hc (fun j hj hS => by simp at hj; exact hS.2.1 hj) _ _ hn), rfl, h.ps.chg hc (fun j hj => by simp at hj; subst hj; exact ⟨by have := h.old.1; omega, fun ht => by have := h.old.2 j ht; omega⟩), h.chg.trans hc (fun x hx => .inr (by simp at hx; omega))⟩
  have := hc.size
  exact hj.1.imp id (fun h1 => ⟨h1.1, by omega⟩)

/-- .. all of them, in a node of their own. -/
theorem KidsAt.finN (h : KidsAt w pb a c ts vs rb nb k q deep acc kv xs wr) {ka : Option Addr} {kn kc : Nat} (hv : kv = .slice ka kn kc) (hn : kn = acc.length) (hc : Chg [rb, nb] wr w') :
    RdPost w pb a c ts vs deep (.ok (Ps.node k acc) q) (.returned (.tuple #[.agg (nodeC k (.slice ka kn kn)), .bool true])) w' := by
  subst hv hn
  have hrb := h.rb0
  have hnb := h.nb0
  have hpb := h.old.1
  have hlen := h.row.shape
  obtain ⟨a', cap, hv, hle, _⟩ := hlen
  cases hv
  have hmem : ∀ j ∈ [rb, nb], j = rb ∨ j = nb := fun j hj => by simpa using hj
  have s := hc.size
  have hS : ∀ j ∈ [rb, nb], ¬ Sk (.slice a ts.length c) vs rb nb (.slice ka acc.length kc) w.heap.size wr.heap.size j := fun j hj hS => by
    rcases hmem j hj with h1 | h1
    · exact hS.2.1 h1
    · exact hS.2.2.1 h1
  have hr : Row w' 30 6 (.slice ka acc.length acc.length) acc.length xs := Row.clip (h.row.kept hc (fun j hj hm => by
    rcases hmem j hm with h1 | h1
    · exact (h.new j hj).2.1 h1
    · exact (h.new j hj).2.2 h1))
  have hN := NodesAt.kept hc hS _ _ h.nodes
  refine ⟨_, node_at (Row.sl hr (fun j hj => ?_)) (NodesAt.mono (fun j hj => ?_) _ _ hN), rfl, h.ps.chg hc (fun j hj => ?_), h.chg.trans hc (fun x hx => .inr ?_)⟩
  · have h1 := rowBlock_clip ka acc.length acc.length kc hle j hj
    have h2 := Row.block_lt h.row j h1
    exact .inr ⟨(h.new j h1).1, by omega⟩
  · exact hj.1.imp id (fun h1 => ⟨h1.1, by omega⟩)
  · have : w.heap.size ≤ j := by rcases hmem j hj with h1 | h1 <;> omega
    exact ⟨by omega, fun ht => by have := h.old.2 j ht; omega⟩
  · rcases hmem x hx with h1 | h1 <;> omega

/-- .. or an error. -/
theorem KidsAt.finB (h : KidsAt w pb a c ts vs rb nb k q deep acc kv xs wr) {w1 : World} {er : Int} {q' : Nat} (hp : PS w1 pb a c ts vs q' deep er) (hc : Chg [pb] wr w1) (h2 : Chg [rb] w1 w') :
    RdPost w pb a c ts vs deep (.bad er q') (.returned (.tuple #[.agg (nodeC 0 (.slice none 0 0)), .bool false])) w' := by
  have hrb := h.rb0
  exact ⟨_, ⟨0, [], none, none, none, none, 0, 0, 0, 0, 0, 0, 0, 0, rfl⟩, rfl, hp.chg h2 (fun j hj => by simp at hj; subst hj; exact ⟨by have := h.old.1; omega, fun ht => by have := h.old.2 j ht; omega⟩), (h.chg.trans hc (fun x hx => .inl hx)).trans h2 (fun x hx => .inr (by simp at hx; omega))⟩
end

theorem node_cells {w : World} {b : Nat} {k : Int} {kv : Value} {E : TypeId} (h : w.heap[b]? = some (.cells (nodeC k kv) E (0, 0))) :
    w.cell? ⟨b, 0, none⟩ = some (.int .i64 k) ∧ w.cell? ⟨b, 1, none⟩ = some kv ∧ w.cell? ⟨b, 2, none⟩ = some (.string ⟨#[]⟩) ∧ w.cell? ⟨b, 3, none⟩ = some (.slice none 0 0) ∧ w.cell? ⟨b, 4, none⟩ = some (.slice none 0 0) ∧ w.cell? ⟨b, 5, none⟩ = some (.slice none 0 0) ∧ ∀ j, w.frozen? ⟨b, j, none⟩ = false :=
  ⟨cell_of_obj h rfl, cell_of_obj h rfl, cell_of_obj h rfl, cell_of_obj h rfl, cell_of_obj h rfl, cell_of_obj h rfl, free_of_obj h⟩
theorem node_cells_alloc {w : World} {b : Nat} {k : Int} {kv : Value} {E : TypeId} (h : w.heap[b]? = some (.cells (nodeC k kv) E (0, 0))) :
    (∀ o, (w.alloc o).cell? ⟨b, 0, none⟩ = some (.int .i64 k)) ∧ (∀ o, (w.alloc o).cell? ⟨b, 1, none⟩ = some kv) ∧ (∀ o, (w.alloc o).cell? ⟨b, 2, none⟩ = some (.string ⟨#[]⟩)) ∧ (∀ o, (w.alloc o).cell? ⟨b, 3, none⟩ = some (.slice none 0 0)) ∧ (∀ o, (w.alloc o).cell? ⟨b, 4, none⟩ = some (.slice none 0 0)) ∧ (∀ o, (w.alloc o).cell? ⟨b, 5, none⟩ = some (.slice none 0 0)) ∧ ∀ o j, (w.alloc o).frozen? ⟨b, j, none⟩ = false :=
  ⟨fun o => (node_cells (obj_alloc_old h o)).1, fun o => (node_cells (obj_alloc_old h o)).2.1, fun o => (node_cells (obj_alloc_old h o)).2.2.1, fun o => (node_cells (obj_alloc_old h o)).2.2.2.1, fun o => (node_cells (obj_alloc_old h o)).2.2.2.2.1, fun o => (node_cells (obj_alloc_old h o)).2.2.2.2.2.1, fun o => (node_cells (obj_alloc_old h o)).2.2.2.2.2.2⟩

/-- six cells written. -/
def sixW (w : World) (b : Nat) (v0 v1 v2 v3 v4 v5 : Value) : World := (((((w.setCell ⟨b, 0, none⟩ v0).setCell ⟨b, 1, none⟩ v1).setCell ⟨b, 2, none⟩ v2).setCell ⟨b, 3, none⟩ v3).setCell ⟨b, 4, none⟩ v4).setCell ⟨b, 5, none⟩ v5
theorem Chg.six {F : List Nat} {a w : World} (h : Chg F a w) (b : Nat) (v0 v1 v2 v3 v4 v5 : Value) (hb : b ∈ F ∨ a.heap.size ≤ b) : Chg F a (sixW w b v0 v1 v2 v3 v4 v5) :=
  (((((h.setCell _ _ hb).setCell _ _ hb).setCell _ _ hb).setCell _ _ hb).setCell _ _ hb).setCell _ _ hb

theorem Row.head {w : World} {E : TypeId} {size : Nat} {a : Option Addr} {n m cap : Nat} {xs : List Value} (h : Row w E size (.slice a m cap) n xs) (hn : 0 < n) : ∃ g, a = some ⟨g, 0, none⟩ ∧ ∀ (j : Nat) (u : Value), xs[j]? = some u → w.cell? ⟨g, j, none⟩ = some u := by
  rcases h.2 with ⟨rfl, _⟩ | ⟨g, cap', cur, hv, hg, h3, h4, h5, h6⟩
  · omega
  · cases hv
    exact ⟨g, rfl, fun j u hj => cells_of_take hg h6 hj⟩

theorem srcNew2 (w : World) (o : Obj) (c : Array Value) (E : TypeId) (f : Nat × Nat) : SrcAt ((w.alloc o).alloc (.cells c E f)) (some ⟨w.heap.size + 1, 0, none⟩) c.toList := by
  have e : (w.alloc o).heap.size = w.heap.size + 1 := by simp
  rw [← e]
  exact srcNew _ _ _ _

theorem NodesAt.one {w : World} {S : Nat → Prop} {n : Ps.Node} {xs : List Value} (h : NodesAt w S [n] xs) : NodeAt w S n xs := by
  unfold NodesAt at h
  obtain ⟨cs, ys, rfl, h1, h2⟩ := h
  unfold NodesAt at h2
  subst h2
  rw [List.append_nil]
  exact h1

/-- how it begins. -/
theorem KidsAt.start {w : World} {pb : Nat} {a : Option Addr} {c : Nat} {ts : List Lx.Tok} {vs : List Value} {q deep : Nat} (h : PS w pb a c ts vs q deep 0) (k : Int) :
    KidsAt w pb a c ts vs w.heap.size (w.heap.size + 1) k q deep [] (.slice none 0 0) [] ((w.alloc (.cells (nodeC 0 (.slice none 0 0)) 30)).alloc (.cells (nodeC k (.slice none 0 0)) 30)) := by
  have hc : Chg [] w ((w.alloc (.cells (nodeC 0 (.slice none 0 0)) 30)).alloc (.cells (nodeC k (.slice none 0 0)) 30)) := ((Chg.refl [] w).alloc _).alloc _
  have e : (w.alloc (.cells (nodeC 0 (.slice none 0 0)) 30)).heap.size = w.heap.size + 1 := by simp
  exact
    { ps := h.chg0 hc
      nd := by rw [← e]; exact obj_alloc_new _ _
      rs := obj_alloc_old (obj_alloc_new w _) _
      row := Row.nil _ _ _ _
      nodes := by unfold NodesAt; rfl
      new := by simp [rowBlock]
      chg := hc.mono (by simp)
      rb0 := Nat.le_refl _
      nb0 := by omega
      ne := by omega
      old := ⟨h.lt, h.tb_lt⟩
      few := Nat.zero_le _ }

end Go.Proofs.YtfgbbmnmblchiaaDoor

namespace Go.Proofs.YtfgbbmnmblchiaaDoor
open Go.RowKit
set_option linter.unusedVariables false

set_option maxRecDepth 10000 in
theorem clip_nodes (a : Option Addr) (n c : Nat) (hn : n ≤ c) (hc : c ≤ maxLen) (w : World) :
    Calls Tryd.prog 30 #[.slice a n c] w fun e w' => e = .returned (.slice a n n) ∧ w' = w := by
  have h1 : (n : Int) ≤ (c : Int) := by omega
  have h0 : (0 : Int) ≤ (n : Int) := by omega
  go_enter Tryd.func30, Tryd.ntmps30
  go_wp2
  go_ret
  exact ⟨rfl, rfl⟩

/-- a reader of commands moves on. -/
def Moves (cmd : Nat → Ps.Res Ps.Node) : Prop := ∀ p n q, cmd p = .ok n q → p < q

/-- what a walk of 'command' says, from a depth on. -/
def CmdOk (pb : Nat) (a : Option Addr) (c : Nat) (ts : List Lx.Tok) (vs : List Value) (deep : Nat) (cmd : Nat → Ps.Res Ps.Node) : Prop :=
  ∀ (p : Nat) (w : World), PS w pb a c ts vs p deep 0 → Calls Tryd.prog 60 #[.pointer (some ⟨pb, 0, none⟩)] w fun e w' => RdPost w pb a c ts vs deep (cmd p) e w'

def pipeR : Ps.Res (List Ps.Node) → Ps.Res Ps.Node
  | .bad e b => .bad e b
  | .ok l b => .ok (Ps.pipeN l) b
theorem pipeP_eq (ts : List Lx.Tok) (cmd : Nat → Ps.Res Ps.Node) (p : Nat) : Ps.pipeP ts cmd p = pipeR (Ps.pipeL ts cmd (ts.length + 1) p []) := by
  unfold Ps.pipeP
  cases Ps.pipeL ts cmd (ts.length + 1) p [] <;> rfl
theorem pipeL_bad {ts : List Lx.Tok} {cmd : Nat → Ps.Res Ps.Node} {g p : Nat} {acc : List Ps.Node} {e : Int} {b : Nat} (h : cmd p = .bad e b) : Ps.pipeL ts cmd (g + 1) p acc = .bad e b := by
  conv => lhs; unfold Ps.pipeL
  rw [h]
theorem pipeL_more {ts : List Lx.Tok} {cmd : Nat → Ps.Res Ps.Node} {g p : Nat} {acc : List Ps.Node} {k : Ps.Node} {b : Nat} (h : cmd p = .ok k b) (h2 : Ps.isT ts b 2 [124] = true) : Ps.pipeL ts cmd (g + 1) p acc = Ps.pipeL ts cmd g (b + 1) (acc ++ [k]) := by
  conv => lhs; unfold Ps.pipeL
  rw [h]
  show (if _ then _ else _) = _
  rw [if_pos h2]
theorem pipeL_end {ts : List Lx.Tok} {cmd : Nat → Ps.Res Ps.Node} {g p : Nat} {acc : List Ps.Node} {k : Ps.Node} {b : Nat} (h : cmd p = .ok k b) (h2 : Ps.isT ts b 2 [124] = false) : Ps.pipeL ts cmd (g + 1) p acc = .ok (acc ++ [k]) b := by
  conv => lhs; unfold Ps.pipeL
  rw [h]
  show (if _ then _ else _) = _
  rw [if_neg (by rw [h2]; decide)]

set_option maxHeartbeats 4000000 in
set_option maxRecDepth 10000 in
theorem pipe_any (pb : Nat) (a : Option Addr) (c : Nat) (ts : List Lx.Tok) (vs : List Value) (p deep : Nat) (cmd : Nat → Ps.Res Ps.Node) (hcmd : CmdOk pb a c ts vs deep cmd) (hmv : Moves cmd) (w : World) (h : PS w pb a c ts vs p deep 0) :
    Calls Tryd.prog 46 #[.pointer (some ⟨pb, 0, none⟩)] w fun e w' => RdPost w pb a c ts vs deep (Ps.pipeP ts cmd p) e w' := by
  obtain ⟨R, hR⟩ : ∃ R, Ps.pipeL ts cmd (ts.length + 1) p [] = R := ⟨_, rfl⟩
  have HR2 := Lib.hid (show Ps.pipeP ts cmd p = pipeR R from by rw [← hR, pipeP_eq])
  have HR := Lib.hid hR
  have HCMD := Lib.hid hcmd
  have HMV := Lib.hid hmv
  have hfew := h.few
  have HK0 := Lib.hid (KidsAt.start h 4)
  obtain ⟨i0, hi, hz0, hz1, hz2⟩ := info_parts Tryd.infoNode
  clear hR h hcmd hmv
  go_enter Tryd.func46, Tryd.ntmps46
  go_wp2_with fail
  generalize w.heap.size = rb at *
  go_loopg [5, 6] (ts.length + 1) (fun g c5 c6 wr => ∃ (q : Nat) (acc : List Ps.Node) (kv : Value) (xs : List Value), ts.length < q + g ∧ KidsAt w pb a c ts vs rb (rb + 1) 4 q deep acc kv xs wr ∧ Hid (R = Ps.pipeL ts cmd g q acc))
  case atStart => exact ⟨p, [], _, [], by omega, HK0.out, Lib.hid HR.out.symm⟩
  case round =>
    obtain ⟨q, acc, kv, xs, hg, hK, hr⟩ := hrel
    clear HK0 HR
    have hle := hK.ps.le
    have HK := Lib.hid hK
    clear hK
    cases gk with
    | zero => omega
    | succ g =>
      have HG := Lib.hid hg
      clear hg
      obtain ⟨C, hC⟩ : ∃ C, cmd q = C := ⟨_, rfl⟩
      go_wp2_with fail
      refine (HCMD.out q _ HK.out.ps).mono ?_
      rw [hC]
      cases C with
      | bad er q1 =>
        rintro e w1 ⟨cs, ⟨k1, s1, ka, wa, sa, ra, kn, kc, wn, wc, sn, sc, rn, rc, rfl⟩, rfl, hP, hC1⟩
        have HR3 := Lib.hid (show Ps.pipeP ts cmd p = .bad er q1 from by rw [HR2.out, hr.out, pipeL_bad hC]; rfl)
        have HP1 := Lib.hid hP
        have HC1 := Lib.hid hC1
        obtain ⟨r0, r1, r2, r3, r4, r5, rf⟩ := node_cells_alloc (HC1.out.obj HK.out.rs (by have := HK.out.old.1; have := HK.out.rb0; simp; omega))
        clear hP hC1 hC hr
        go_wp2_with fail
        refine bodyPost_ret (v := .tuple #[.agg (nodeC 0 (.slice none 0 0)), .bool false]) (by simp [results, Tryd.results46, go_sem, nodeC, r0, r1, r2, r3, r4, r5]) rfl ?_
        rw [HR3.out]
        refine HK.out.finB HP1.out HC1.out ?_
        first | exact ((Chg.refl _ _).alloc _).six _ _ _ _ _ _ _ (.inl (by simp)) | exact ((Chg.refl _ _).six _ _ _ _ _ _ _ (.inl (by simp))).alloc _
      | ok n q1 =>
        rintro e w1 ⟨cs, hN, rfl, hP, hC1⟩
        have hq1 := HMV.out _ _ _ hC
        have hq2 := hP.le
        have HK1 := Lib.hid (HK.out.call hC1 hP (Nat.le_of_lt hq1))
        have HN := Lib.hid (HK.out.got hN)
        have HC := Lib.hid hC
        obtain ⟨nk, nn, ka, wa, sa, ra, kn, kc, wn, wc, sn, sc, rn, rc, rfl⟩ := hN.Six
        obtain ⟨ao, co, rfl, hao, hco⟩ := HK.out.row.shape
        have hfw := HK.out.few
        have hone := HN.out.one.2
        obtain ⟨d0, d1, d2, d3, d4, d5, df⟩ := node_cells_alloc HK1.out.nd
        have d1a := fun (o o2 : Obj) => (node_cells (obj_alloc_old (obj_alloc_old HK1.out.nd o) o2)).2.1
        have nb1 : (acc.length : Int) ≤ 100000 := by omega
        clear hP hC1 hN hC HK d0 d2 d3 d4 d5 df
        have HONE := Lib.hid hone
        clear hone
        go_wp2_with (at_builtin; refine wpList_append_row _ rfl _ _ 25 rfl 30 i0 _ 6 120 Tryd.underlying25 hi hz0 hz1 hz2 rfl (by decide) _ acc.length xs rfl (HK1.out.row.kept0 (((Chg.refl [] _).alloc _).alloc _)) _ 1 1 [.int .i64 nk, .slice ka kn kc, .string (Lx.strB nn), .slice wa wn wc, .slice sa sn sc, .slice ra rn rc] rfl rfl (srcNew2 _ _ _ _ _) HONE.out (by unfold maxLen; omega) (by omega) ?_)
        intro v' w3 r5 q5 g5
        obtain ⟨av, cap, rfl, hac, hcm⟩ := r5.shape
        have HK3 := Lib.hid (HK1.out.add HN.out (((Chg.refl [] _).alloc _).alloc _) r5 q5 (fun x hx => (g5 x hx).imp id (fun h => by omega)) (by omega))
        have hnd3 := (((Chg.refl [] w1).alloc _).alloc _ |>.mono (G := rowBlock (.slice ao acc.length co)) (by simp)).trans q5 (fun x hx => .inl hx) |>.obj HK1.out.nd (fun hj => (HK1.out.new _ hj).2.2 rfl)
        have e1 := cell_of_obj hnd3 (j := 1) rfl
        have ef := free_of_obj hnd3 1
        have IS := fun (x : Bool) (hx : Ps.isT ts q1 2 [124] = x) => hx ▸ is_any pb a c ts vs q1 deep 0 2 [124] _ HK3.out.ps
        clear d1 d1a r5 g5
        cases hb : Ps.isT ts q1 2 [124] with
        | true =>
          have hlt := isT_lt hb
          have IS1 := Lib.hid (IS _ hb)
          have HR3 := Lib.hid (hr.out.trans (pipeL_more HC.out hb))
          clear IS hb hr
          go_wp2_with fail
          refine IS1.out.mono ?_
          rintro e w5 ⟨rfl, n1, rfl⟩
          have HK5 := Lib.hid (HK3.out.kept0 ((Chg.refl [] _).drewN n1))
          have x1 := HK5.out.ps.c1
          have f1 := HK5.out.ps.free 1
          go_wp2
          go_roundg g
          case measure => omega
          case rel => exact ⟨q1 + 1, acc ++ [n], _, _, by have := HG.out; omega, HK5.out.setAt _ (by go_num) (by omega), HR3⟩
        | false =>
          have IS1 := Lib.hid (IS _ hb)
          have HR3 := Lib.hid (HR2.out.trans (congrArg pipeR (hr.out.trans (pipeL_end HC.out hb))))
          clear IS hb hr
          go_wp2_with fail
          refine IS1.out.mono ?_
          rintro e w5 ⟨rfl, n1, rfl⟩
          have HK5 := Lib.hid (HK3.out.kept0 ((Chg.refl [] _).drewN n1))
          generalize (w3.setCell ⟨rb + 1, 1, none⟩ (.slice av (acc.length + 1) cap)).drewN n1 = w5 at *
          clear HK3 q5 hnd3 e1 ef
          obtain ⟨d0, d1, d2, d3, d4, d5, df⟩ := node_cells HK5.out.nd
          obtain ⟨r0, r1, r2, r3, r4, r5, rf⟩ := node_cells HK5.out.rs
          by_cases hm : acc = []
          · subst hm
            have hxs : xs = [] := List.eq_nil_of_length_eq_zero (by have := HK1.out.row.1; simpa using this)
            subst hxs
            obtain ⟨gb, rfl, hx⟩ := HK5.out.row.head (by simp)
            have y0 := hx 0 _ rfl
            have y1 := hx 1 _ rfl
            have y2 := hx 2 _ rfl
            have y3 := hx 3 _ rfl
            have y4 := hx 4 _ rfl
            have y5 := hx 5 _ rfl
            clear hx
            have HN5 := Lib.hid (show NodesAt _ _ [n] _ from HK5.out.nodes)
            go_wp2_with fail
            refine bodyPost_ret (v := .tuple #[.agg #[.int .i64 nk, .slice ka kn kc, .string (Lx.strB nn), .slice wa wn wc, .slice sa sn sc, .slice ra rn rc], .bool true]) (by simp [results, Tryd.results46, go_sem, r0, r1, r2, r3, r4, r5]) rfl ?_
            rw [HR3.out]
            refine HK5.out.fin1 HN5.out.one ?_
            exact (Chg.refl _ _).six _ _ _ _ _ _ _ (.inl (by simp))
          · have hm0 : acc.length ≠ 0 := fun h => hm (List.eq_nil_of_length_eq_zero h)
            have HM := Lib.hid hm
            have hcl := fun (W : World) => clip_nodes av (acc.length + 1) cap hac hcm W
            have HCL := Lib.hid hcl
            clear hac hcm hcl hm
            go_wp2_with fail
            refine (HCL.out _).mono ?_
            rintro e w6 ⟨rfl, rfl⟩
            go_wp2_with fail
            refine bodyPost_ret (v := .tuple #[.agg (nodeC 4 (.slice av (acc.length + 1) (acc.length + 1))), .bool true]) (by simp [results, Tryd.results46, go_sem, nodeC, r0, r1, r2, r3, r4, r5]) rfl ?_
            rw [HR3.out, show pipeR (.ok (acc ++ [n]) q1) = .ok (Ps.node 4 (acc ++ [n])) q1 from by
              cases acc with
              | nil => exact absurd rfl HM.out
              | cons x l => cases l <;> rfl]
            refine HK5.out.finN rfl (by simp) ?_
            exact ((Chg.refl _ _).setCell _ _ (.inl (by simp))).six _ _ _ _ _ _ _ (.inl (by simp))

end Go.Proofs.YtfgbbmnmblchiaaDoor

namespace Go.Proofs.YtfgbbmnmblchiaaDoor
open Go.RowKit
set_option linter.unusedVariables false

abbrev So (tv : Value) (vs : List Value) (rb nb : Nat) (lo hi : Nat) (k : Nat) : Prop := Sk tv vs rb nb (.slice none 0 0) lo hi k

structure NodeB (w : World) (pb : Nat) (a : Option Addr) (c : Nat) (ts : List Lx.Tok) (vs : List Value) (rb nb : Nat) (q deep : Nat) (n : Ps.Node) (cs : List Value) (wr : World) : Prop where
  ps : PS wr pb a c ts vs q deep 0
  nd : wr.heap[nb]? = some (.cells cs.toArray 30 (0, 0))
  rs : wr.heap[rb]? = some (.cells (nodeC 0 (.slice none 0 0)) 30 (0, 0))
  node : NodeAt wr (So (.slice a ts.length c) vs rb nb w.heap.size wr.heap.size) n cs
  chg : Chg [pb] w wr
  rb0 : w.heap.size ≤ rb
  nb0 : w.heap.size ≤ nb
  ne : rb ≠ nb
  old : pb < w.heap.size ∧ ∀ k, TB (.slice a ts.length c) vs k → k < w.heap.size

/-- an error, on the way out. -/
structure BadB (w : World) (pb : Nat) (a : Option Addr) (c : Nat) (ts : List Lx.Tok) (vs : List Value) (rb : Nat) (q deep : Nat) (er : Int) (wr : World) : Prop where
  ps : PS wr pb a c ts vs q deep er
  rs : wr.heap[rb]? = some (.cells (nodeC 0 (.slice none 0 0)) 30 (0, 0))
  chg : Chg [pb] w wr
  rb0 : w.heap.size ≤ rb
  old : pb < w.heap.size ∧ ∀ k, TB (.slice a ts.length c) vs k → k < w.heap.size

theorem six_obj {w : World} {b : Nat} {E : TypeId} {x0 x1 x2 x3 x4 x5 : Value} (h : w.heap[b]? = some (.cells #[x0, x1, x2, x3, x4, x5] E (0, 0))) (v0 v1 v2 v3 v4 v5 : Value) : (sixW w b v0 v1 v2 v3 v4 v5).heap[b]? = some (.cells #[v0, v1, v2, v3, v4, v5] E (0, 0)) :=
  obj_setCell (obj_setCell (obj_setCell (obj_setCell (obj_setCell (obj_setCell h 0 v0) 1 v1) 2 v2) 3 v3) 4 v4) 5 v5
theorem six_size (w : World) (b : Nat) (v0 v1 v2 v3 v4 v5 : Value) : (sixW w b v0 v1 v2 v3 v4 v5).heap.size = w.heap.size := by simp [sixW, World.setCell]

theorem six_cells {w : World} {b : Nat} {E : TypeId} {x0 x1 x2 x3 x4 x5 : Value} (h : w.heap[b]? = some (.cells #[x0, x1, x2, x3, x4, x5] E (0, 0))) :
    w.cell? ⟨b, 0, none⟩ = some x0 ∧ w.cell? ⟨b, 1, none⟩ = some x1 ∧ w.cell? ⟨b, 2, none⟩ = some x2 ∧ w.cell? ⟨b, 3, none⟩ = some x3 ∧ w.cell? ⟨b, 4, none⟩ = some x4 ∧ w.cell? ⟨b, 5, none⟩ = some x5 ∧ ∀ j, w.frozen? ⟨b, j, none⟩ = false :=
  ⟨cell_of_obj h rfl, cell_of_obj h rfl, cell_of_obj h rfl, cell_of_obj h rfl, cell_of_obj h rfl, cell_of_obj h rfl, free_of_obj h⟩

theorem six_alloc_new (w : World) (b : Nat) (v0 v1 v2 v3 v4 v5 : Value) (o : Obj) : ((sixW w b v0 v1 v2 v3 v4 v5).alloc o).heap[w.heap.size]? = some o := by
  have := obj_alloc_new (sixW w b v0 v1 v2 v3 v4 v5) o
  rwa [six_size] at this
theorem six_cells_alloc {w : World} {b : Nat} {E : TypeId} {x0 x1 x2 x3 x4 x5 : Value} (h : w.heap[b]? = some (.cells #[x0, x1, x2, x3, x4, x5] E (0, 0))) :
    (∀ o, (w.alloc o).cell? ⟨b, 0, none⟩ = some x0) ∧ (∀ o, (w.alloc o).cell? ⟨b, 1, none⟩ = some x1) ∧ (∀ o, (w.alloc o).cell? ⟨b, 2, none⟩ = some x2) ∧ (∀ o, (w.alloc o).cell? ⟨b, 3, none⟩ = some x3) ∧ (∀ o, (w.alloc o).cell? ⟨b, 4, none⟩ = some x4) ∧ (∀ o, (w.alloc o).cell? ⟨b, 5, none⟩ = some x5) ∧ ∀ o j, (w.alloc o).frozen? ⟨b, j, none⟩ = false :=
  ⟨fun o => (six_cells (obj_alloc_old h o)).1, fun o => (six_cells (obj_alloc_old h o)).2.1, fun o => (six_cells (obj_alloc_old h o)).2.2.1, fun o => (six_cells (obj_alloc_old h o)).2.2.2.1, fun o => (six_cells (obj_alloc_old h o)).2.2.2.2.1, fun o => (six_cells (obj_alloc_old h o)).2.2.2.2.2.1, fun o => (six_cells (obj_alloc_old h o)).2.2.2.2.2.2⟩

section
variable {w wr w' : World} {pb : Nat} {a : Option Addr} {c : Nat} {ts : List Lx.Tok} {vs : List Value} {rb nb : Nat} {q deep : Nat} {n : Ps.Node} {cs : List Value}

theorem NodeB.so_pb (h : NodeB w pb a c ts vs rb nb q deep n cs wr) {hi : Nat} : ¬ So (.slice a ts.length c) vs rb nb w.heap.size hi pb := by
  rintro ⟨h1, _⟩
  rcases h1 with h1 | h1
  · exact h.ps.out h1
  · have := h.old.1
    omega

theorem NodeB.call (h : NodeB w pb a c ts vs rb nb q deep n cs wr) (hc : Chg [pb] wr w') {q' : Nat} (hp : PS w' pb a c ts vs q' deep 0) : NodeB w pb a c ts vs rb nb q' deep n cs w' := by
  have hpb := h.old.1
  have hrb := h.rb0
  have hnb := h.nb0
  exact
    { h with
      ps := hp
      nd := hc.obj h.nd (by simp; omega)
      rs := hc.obj h.rs (by simp; omega)
      node := NodeAt.mono (fun j hj => ⟨hj.1.imp id (fun h1 => ⟨h1.1, Nat.lt_of_lt_of_le h1.2 hc.size⟩), hj.2⟩) _ _ (NodeAt.kept hc (fun k hk => by simp at hk; subst hk; exact h.so_pb) _ _ h.node)
      chg := h.chg.trans hc (fun x hx => .inl hx) }

theorem NodeB.kept0 (h : NodeB w pb a c ts vs rb nb q deep n cs wr) (hc : Chg [] wr w') : NodeB w pb a c ts vs rb nb q deep n cs w' := h.call (hc.mono (by simp)) (h.ps.chg0 hc)

theorem NodeB.setAt (h : NodeB w pb a c ts vs rb nb q deep n cs wr) (z : Int) (hz : z = ((q + 1 : Nat) : Int)) (hq : q + 1 ≤ ts.length) : NodeB w pb a c ts vs rb nb (q + 1) deep n cs (wr.setCell ⟨pb, 1, none⟩ (.int .i64 z)) :=
  h.call (Chg.setP _ _ _ _) (h.ps.setAt (q + 1) z hz hq)

/-- how it begins: the result's block laid, a call, its answer laid down. -/
theorem NodeB.start {w1 : World} (h : PS w pb a c ts vs q deep 0) {q' : Nat} (hp : PS w1 pb a c ts vs q' deep 0) (hc : Chg [pb] (w.alloc (.cells (nodeC 0 (.slice none 0 0)) 30)) w1)
    (hn : NodeAt w1 (Sn (.slice a ts.length c) vs (w.alloc (.cells (nodeC 0 (.slice none 0 0)) 30)).heap.size w1.heap.size) n cs) : NodeB w pb a c ts vs w.heap.size w1.heap.size q' deep n cs (w1.alloc (.cells cs.toArray 30)) := by
  have hlt := h.lt
  have e : (w.alloc (.cells (nodeC 0 (.slice none 0 0)) 30)).heap.size = w.heap.size + 1 := by simp
  have hs := hc.size
  rw [e] at hs hn
  have ha : Chg [] w1 (w1.alloc (.cells cs.toArray 30)) := (Chg.refl _ _).alloc _
  have hs2 := ha.size
  exact
    { ps := hp.chg0 ha
      nd := obj_alloc_new _ _
      rs := obj_alloc_old (hc.obj (obj_alloc_new w _) (by simp; omega)) _
      node := NodeAt.mono (fun j hj => by
        rcases hj with hj | hj
        · have := h.tb_lt j hj
          exact ⟨.inl hj, by omega, by omega, by simp [rowBlock]⟩
        · exact ⟨.inr ⟨by omega, by omega⟩, by omega, by omega, by simp [rowBlock]⟩) _ _ (NodeAt.kept ha (by simp) _ _ hn)
      chg := ((((Chg.refl [pb] w).alloc _).trans hc (fun x hx => .inl hx))).then0 ha
      rb0 := Nat.le_refl _
      nb0 := by omega
      ne := by omega
      old := ⟨h.lt, h.tb_lt⟩ }

/-- the node handed back. -/
theorem NodeB.fin (h : NodeB w pb a c ts vs rb nb q deep n cs wr) (hc : Chg [rb] wr w') : RdPost w pb a c ts vs deep (.ok n q) (.returned (.tuple #[.agg cs.toArray, .bool true])) w' := by
  have hrb := h.rb0
  refine ⟨cs, NodeAt.mono (fun j hj => ?_) _ _ (NodeAt.kept hc (fun j hj hS => by simp at hj; exact hS.2.1 hj) _ _ h.node), rfl, h.ps.chg hc (fun j hj => by simp at hj; subst hj; exact ⟨by have := h.old.1; omega, fun ht => by have := h.old.2 j ht; omega⟩), h.chg.trans hc (fun x hx => .inr (by simp at hx; omega))⟩
  have := hc.size
  exact hj.1.imp id (fun h1 => ⟨h1.1, by omega⟩)

theorem BadB.fin {er : Int} (h : BadB w pb a c ts vs rb q deep er wr) (hc : Chg [rb] wr w') : RdPost w pb a c ts vs deep (.bad er q) (.returned (.tuple #[.agg (nodeC 0 (.slice none 0 0)), .bool false])) w' := by
  have hrb := h.rb0
  exact ⟨_, ⟨0, [], none, none, none, none, 0, 0, 0, 0, 0, 0, 0, 0, rfl⟩, rfl, h.ps.chg hc (fun j hj => by simp at hj; subst hj; exact ⟨by have := h.old.1; omega, fun ht => by have := h.old.2 j ht; omega⟩), h.chg.trans hc (fun x hx => .inr (by simp at hx; omega))⟩

theorem BadB.kept0 {er : Int} (h : BadB w pb a c ts vs rb q deep er wr) (hc : Chg [] wr w') : BadB w pb a c ts vs rb q deep er w' :=
  { h with ps := h.ps.chg0 hc, rs := hc.obj h.rs (by simp), chg := h.chg.then0 hc }

/-- a call that fails. -/
theorem NodeB.bad (h : NodeB w pb a c ts vs rb nb q deep n cs wr) {w2 w3 W : World} {q' : Nat} {er : Int} {tb : Nat} (h2 : Chg [] wr w2) (hp : PS w3 pb a c ts vs q' deep er) (h3 : Chg [pb] w2 w3) (hW : Chg [tb, nb] w3 W) (ht : wr.heap.size ≤ tb) : BadB w pb a c ts vs rb q' deep er W := by
  have hpb := h.old.1
  have hrb := h.rb0
  have hnb := h.nb0
  have l1 := lt_of_obj h.rs
  have s := h.chg.size
  have hm : ∀ j ∈ [tb, nb], j = tb ∨ j = nb := fun j hj => by simpa using hj
  have hne := h.ne
  exact
    { ps := hp.chg hW (fun j hj => by
        have : w.heap.size ≤ j := by rcases hm j hj with h1 | h1 <;> omega
        exact ⟨by omega, fun ht => by have := h.old.2 j ht; omega⟩)
      rs := hW.obj (h3.obj (h2.obj h.rs (by simp)) (by simp; omega)) (by simp; omega)
      chg := ((h.chg.then0 h2).trans h3 (fun x hx => .inl hx)).trans hW (fun x hx => .inr (by rcases hm x hx with h1 | h1 <;> omega))
      rb0 := hrb
      old := h.old }

/-- two nodes joined. -/
theorem NodeB.link (h : NodeB w pb a c ts vs rb nb q deep n cs wr) {w2 w3 W : World} {q' : Nat} {m : Ps.Node} {ms : List Value} {tb kb : Nat} {k : Int} (h2 : Chg [] wr w2) (hp : PS w3 pb a c ts vs q' deep 0) (h3 : Chg [pb] w2 w3)
    (hm : NodeAt w3 (Sn (.slice a ts.length c) vs w2.heap.size w3.heap.size) m ms) (hW : Chg [tb, nb] w3 W) (ht : wr.heap.size ≤ tb) (ht2 : tb < w2.heap.size) (hk : w3.heap.size ≤ kb)
    (hnb : W.heap[nb]? = some (.cells (nodeC k (.slice (some ⟨kb, 0, none⟩) 2 2)) 30 (0, 0))) (hkb : W.heap[kb]? = some (.cells (cs ++ ms).toArray 30 (0, 0))) :
    NodeB w pb a c ts vs rb nb q' deep (Ps.node k [n, m]) [.int .i64 k, .slice (some ⟨kb, 0, none⟩) 2 2, .string ⟨#[]⟩, .slice none 0 0, .slice none 0 0, .slice none 0 0] W := by
  have hpb := h.old.1
  have hrb := h.rb0
  have hnb0 := h.nb0
  have l1 := lt_of_obj h.rs
  have l2 := lt_of_obj h.nd
  have l3 := lt_of_obj hkb
  have s := h.chg.size
  have s2 := h2.size
  have s3 := h3.size
  have sW := hW.size
  have hmem : ∀ j ∈ [tb, nb], j = tb ∨ j = nb := fun j hj => by simpa using hj
  have hne := h.ne
  have hn1 : NodeAt W (So (.slice a ts.length c) vs rb nb w.heap.size W.heap.size) n cs := by
    have hlt : ∀ j, So (.slice a ts.length c) vs rb nb w.heap.size wr.heap.size j → j < wr.heap.size := fun j hj => by
      rcases hj.1 with h1 | h1
      · have := h.old.2 j h1; omega
      · exact h1.2
    refine NodeAt.mono (fun j hj => ⟨hj.1.imp id (fun h1 => ⟨h1.1, by omega⟩), hj.2⟩) _ _ (NodeAt.kept hW (fun j hj hS => ?_) _ _ (NodeAt.kept h3 (fun j hj hS => ?_) _ _ (NodeAt.kept h2 (by simp) _ _ h.node)))
    · rcases hmem j hj with h1 | h1
      · have := hlt j hS; omega
      · exact hS.2.2.1 h1
    · simp at hj; subst hj; exact h.so_pb hS
  have hm1 : NodeAt W (So (.slice a ts.length c) vs rb nb w.heap.size W.heap.size) m ms := by
    refine NodeAt.mono (fun j hj => ?_) _ _ (NodeAt.kept hW (fun j hj hS => ?_) _ _ hm)
    · rcases hj with h1 | h1
      · have := h.old.2 j h1
        exact ⟨.inl h1, by omega, by omega, by simp [rowBlock]⟩
      · exact ⟨.inr ⟨by omega, by omega⟩, by omega, by omega, by simp [rowBlock]⟩
    · rcases hS with h4 | h4
      · have := h.old.2 j h4
        rcases hmem j hj with h1 | h1 <;> omega
      · rcases hmem j hj with h1 | h1 <;> omega
  have hcs := hn1.one.1
  have hms := hm1.one.1
  have hrow : Row W 30 6 (.slice (some ⟨kb, 0, none⟩) 2 2) 2 (cs ++ ms) :=
    ⟨by rw [List.length_append, hcs, hms], .inr ⟨kb, 2, _, rfl, hkb, Nat.le_refl _, by unfold maxLen; omega, by simp [hcs, hms], by rw [List.take_of_length_le (by simp [hcs, hms])]⟩⟩
  exact
    { ps := hp.chg hW (fun j hj => by
        have : w.heap.size ≤ j := by rcases hmem j hj with h1 | h1 <;> omega
        exact ⟨by omega, fun ht => by have := h.old.2 j ht; omega⟩)
      nd := hnb
      rs := hW.obj (h3.obj (h2.obj h.rs (by simp)) (by simp; omega)) (by simp; omega)
      node := node_at (Row.sl hrow (fun j hj => by
          have : j = kb := by simpa [rowBlock] using hj
          subst this
          exact ⟨.inr ⟨by omega, l3⟩, by omega, by omega, by simp [rowBlock]⟩)) (NodesAt.snoc (ns := [n]) (by unfold NodesAt; exact ⟨cs, [], by simp, hn1, by unfold NodesAt; rfl⟩) hm1)
      chg := ((h.chg.then0 h2).trans h3 (fun x hx => .inl hx)).trans hW (fun x hx => .inr (by rcases hmem x hx with h1 | h1 <;> omega))
      rb0 := hrb
      nb0 := hnb0
      ne := hne
      old := h.old }
end

end Go.Proofs.YtfgbbmnmblchiaaDoor
