/-
  The document's reader: what its command does, as states; plain.
  The document's reader: the variable that a word sets: walked.
  The document's reader: a command of words that grows: its memory. (Printed by gensimpfr.py.)
  The document's reader: a 'for' under way: its memory; what it does, as states, plain.
-/
import Derived.Test.YtfgbbmnmblchiaaDoorListR
namespace Go.Proofs.YtfgbbmnmblchiaaDoor
open Go.RowKit
set_option linter.unusedVariables false

/-- one less deep. -/
def St.up : St → St
  | .ok p d => .ok p (d - 1)
  | .bad e t => .bad e t
/-- one token on. -/
def St.next : St → St
  | .ok p d => .ok (p + 1) d
  | .bad e t => .bad e t
def St.down (ts : List Lx.Tok) (ln : Nat) : St → St
  | .ok p d => if d = 16 then .bad 12 (posR ts ln p) else .ok (p + 1) (d + 1)
  | .bad e t => .bad e t

section
variable {ts : List Lx.Tok} {ln d p : Nat} {cmd : Nat → Ps.Res Ps.Node}

theorem step_toS {α : Type} (f : Nat → Ps.Res α) : (St.ok p d).step ts ln f = toS ts ln d (f p) := rfl
theorem need_yes {k : Int} {x : List UInt8} (h : Ps.isT ts p k x = true) : (St.ok p d).need ts ln k x = .ok (p + 1) d ∧ Ps.wantP ts p k x = .ok () (p + 1) := by
  constructor
  · show (if _ then _ else _) = _
    rw [if_pos h]
  · unfold Ps.wantP
    rw [if_pos h]
theorem need_no {k : Int} {x : List UInt8} (h : Ps.isT ts p k x = false) : (St.ok p d).need ts ln k x = .bad 10 (posR ts ln p) ∧ Ps.wantP ts p k x = .bad 10 p := by
  constructor
  · show (if _ then _ else _) = _
    rw [if_neg (by rw [h]; decide)]
  · unfold Ps.wantP
    rw [if_neg (by rw [h]; decide)]
/-- a list that must not be empty, as a state and a tree. -/
theorem list_cases (ts : List Lx.Tok) (ln d : Nat) (cmd : Nat → Ps.Res Ps.Node) (p : Nat) : (∃ e b, listQ ts cmd true p = .bad e b ∧ (St.ok p d).step ts ln (listQ ts cmd true) = (.bad e (posR ts ln b), none)) ∨ (∃ n b, listQ ts cmd true p = .ok n b ∧ (St.ok p d).step ts ln (listQ ts cmd true) = (.ok b d, some n)) := by
  cases h : listQ ts cmd true p with
  | bad e b => exact .inl ⟨e, b, rfl, by rw [step_toS, h]; rfl⟩
  | ok n b => exact .inr ⟨n, b, rfl, by rw [step_toS, h]; rfl⟩

/-- what a reading that opens something leaves: its trees are kids of one node. -/
def Opens (ts : List Lx.Tok) (ln deep : Nat) (r : Ps.Res Ps.Node) (s : St) (k : Int) (acc : List Ps.Node) : Prop := ∃ o, toS ts ln deep r = (s.up, o) ∧ ∀ n, o = some n → n = Ps.node k acc ∧ ∃ p d, s = .ok p d
theorem Opens.bad {r : Ps.Res Ps.Node} {e : Int} {b deep : Nat} {k : Int} {acc : List Ps.Node} (h : r = .bad e b) : Opens ts ln deep r (.bad e (posR ts ln b)) k acc := by
  subst h
  exact ⟨none, rfl, fun n h => by cases h⟩
theorem Opens.ok {r : Ps.Res Ps.Node} {n : Ps.Node} {b deep : Nat} {k : Int} {acc : List Ps.Node} (h : r = .ok (Ps.node k acc) b) : Opens ts ln deep r (.ok b (deep + 1)) k acc := by
  subst h
  exact ⟨some _, rfl, fun n h => by cases h; exact ⟨rfl, _, _, rfl⟩⟩

theorem groupS (ts : List Lx.Tok) (ln deep : Nat) (cmd : Nat → Ps.Res Ps.Node) (p : Nat) (S : St × Option Ps.Node) (hS : (St.ok p (deep + 1)).step ts ln (listQ ts cmd true) = S) : Opens ts ln deep (Ps.groupP ts cmd p) (S.1.need ts ln 2 [41]) 9 S.2.toList := by
  subst hS
  rcases list_cases ts ln (deep + 1) cmd p with ⟨e, b, h1, h2⟩ | ⟨n, b, h1, h2⟩
  · rw [h2]
    exact .bad (groupQ_bad h1)
  · rw [h2]
    have h3 := (listQ_of h1).1
    cases hb : Ps.isT ts b 2 [41] with
    | true =>
      obtain ⟨e1, e2⟩ := need_yes (ln := ln) (d := deep + 1) hb
      show Opens ts ln deep _ ((St.ok b (deep + 1)).need ts ln 2 [41]) 9 [n]
      rw [e1]
      exact .ok (n := n) (groupP_ok h3 e2)
    | false =>
      obtain ⟨e1, e2⟩ := need_no (ln := ln) (d := deep + 1) hb
      show Opens ts ln deep _ ((St.ok b (deep + 1)).need ts ln 2 [41]) 9 [n]
      rw [e1]
      exact .bad (groupP_bad2 h3 e2)

theorem loopS (ts : List Lx.Tok) (ln deep : Nat) (cmd : Nat → Ps.Res Ps.Node) (p : Nat) (S T : St × Option Ps.Node) (hS : (St.ok p (deep + 1)).step ts ln (listQ ts cmd true) = S) (hT : (S.1.need ts ln 1 Ps.kwDo).step ts ln (listQ ts cmd true) = T) :
    Opens ts ln deep (Ps.loopP ts cmd p) (T.1.need ts ln 1 Ps.kwDone) 7 (S.2.toList ++ T.2.toList) := by
  subst hS
  rcases list_cases ts ln (deep + 1) cmd p with ⟨e, b, h1, h2⟩ | ⟨n, b, h1, h2⟩
  · rw [h2] at hT ⊢
    subst hT
    exact .bad (loopQ_bad h1)
  · rw [h2] at hT ⊢
    have h3 := (listQ_of h1).1
    replace hT : ((St.ok b (deep + 1)).need ts ln 1 Ps.kwDo).step ts ln (listQ ts cmd true) = T := hT
    show Opens ts ln deep _ (T.1.need ts ln 1 Ps.kwDone) 7 ([n] ++ T.2.toList)
    cases hb : Ps.isT ts b 1 Ps.kwDo with
    | false =>
      obtain ⟨e1, e2⟩ := need_no (ln := ln) (d := deep + 1) hb
      rw [e1] at hT
      subst hT
      exact .bad (loopP_bad2 h3 (bodyP_bad e2))
    | true =>
      obtain ⟨e1, e2⟩ := need_yes (ln := ln) (d := deep + 1) hb
      rw [e1] at hT
      rcases list_cases ts ln (deep + 1) cmd (b + 1) with ⟨e, b2, g1, g2⟩ | ⟨m, b2, g1, g2⟩
      · rw [g2] at hT
        subst hT
        exact .bad (loopP_bad2 h3 (bodyQ_bad e2 g1))
      · rw [g2] at hT
        subst hT
        have g3 := (listQ_of g1).1
        show Opens ts ln deep _ ((St.ok b2 (deep + 1)).need ts ln 1 Ps.kwDone) 7 [n, m]
        cases hb2 : Ps.isT ts b2 1 Ps.kwDone with
        | true =>
          obtain ⟨f1, f2⟩ := need_yes (ln := ln) (d := deep + 1) hb2
          rw [f1]
          exact .ok (n := n) (loopP_ok h3 (bodyP_ok e2 g3 f2))
        | false =>
          obtain ⟨f1, f2⟩ := need_no (ln := ln) (d := deep + 1) hb2
          rw [f1]
          exact .bad (loopP_bad2 h3 (bodyP_bad3 e2 g3 f2))

theorem branchS (ts : List Lx.Tok) (ln deep : Nat) (cmd : Nat → Ps.Res Ps.Node) (p : Nat) (S T U : St × Option Ps.Node) (hS : (St.ok p (deep + 1)).step ts ln (listQ ts cmd true) = S) (hT : (S.1.need ts ln 1 Ps.kwThen).step ts ln (listQ ts cmd true) = T) (hU : T.1.next.step ts ln (listQ ts cmd true) = U) :
    (T.1.is ts 1 Ps.kwElse = false → Opens ts ln deep (Ps.branchP ts cmd p) (T.1.need ts ln 1 Ps.kwFi) 6 (S.2.toList ++ T.2.toList)) ∧
    (T.1.is ts 1 Ps.kwElse = true → Opens ts ln deep (Ps.branchP ts cmd p) (U.1.need ts ln 1 Ps.kwFi) 6 (S.2.toList ++ T.2.toList ++ U.2.toList)) := by
  subst hS
  rcases list_cases ts ln (deep + 1) cmd p with ⟨e, b, h1, h2⟩ | ⟨n, b, h1, h2⟩
  · rw [h2] at hT ⊢
    subst hT
    exact ⟨fun _ => .bad (branchQ_1 h1), fun h => by cases h⟩
  · rw [h2] at hT ⊢
    have h3 := (listQ_of h1).1
    replace hT : ((St.ok b (deep + 1)).need ts ln 1 Ps.kwThen).step ts ln (listQ ts cmd true) = T := hT
    cases hb : Ps.isT ts b 1 Ps.kwThen with
    | false =>
      obtain ⟨e1, e2⟩ := need_no (ln := ln) (d := deep + 1) hb
      rw [e1] at hT
      subst hT
      exact ⟨fun _ => .bad (branchP_2 h3 e2), fun h => by cases h⟩
    | true =>
      obtain ⟨e1, e2⟩ := need_yes (ln := ln) (d := deep + 1) hb
      rw [e1] at hT
      rcases list_cases ts ln (deep + 1) cmd (b + 1) with ⟨e, b2, g1, g2⟩ | ⟨m, b2, g1, g2⟩
      · rw [g2] at hT
        subst hT
        exact ⟨fun _ => .bad (branchQ_3 h3 e2 g1), fun h => by cases h⟩
      · rw [g2] at hT
        subst hT
        have g3 := (listQ_of g1).1
        refine ⟨fun hel => ?_, fun hel => ?_⟩
        · replace hel : Ps.isT ts b2 1 Ps.kwElse = false := hel
          show Opens ts ln deep _ ((St.ok b2 (deep + 1)).need ts ln 1 Ps.kwFi) 6 [n, m]
          cases hb2 : Ps.isT ts b2 1 Ps.kwFi with
          | true =>
            obtain ⟨f1, f2⟩ := need_yes (ln := ln) (d := deep + 1) hb2
            rw [f1]
            exact .ok (n := n) (branchP_8 h3 e2 g3 hel f2)
          | false =>
            obtain ⟨f1, f2⟩ := need_no (ln := ln) (d := deep + 1) hb2
            rw [f1]
            exact .bad (branchP_7 h3 e2 g3 hel f2)
        · replace hel : Ps.isT ts b2 1 Ps.kwElse = true := hel
          replace hU : (St.ok (b2 + 1) (deep + 1)).step ts ln (listQ ts cmd true) = U := hU
          rcases list_cases ts ln (deep + 1) cmd (b2 + 1) with ⟨e, b3, k1, k2⟩ | ⟨z, b3, k1, k2⟩
          · rw [k2] at hU
            subst hU
            exact .bad (branchQ_4 h3 e2 g3 hel k1)
          · rw [k2] at hU
            subst hU
            have k3 := (listQ_of k1).1
            show Opens ts ln deep _ ((St.ok b3 (deep + 1)).need ts ln 1 Ps.kwFi) 6 [n, m, z]
            cases hb2 : Ps.isT ts b3 1 Ps.kwFi with
            | true =>
              obtain ⟨f1, f2⟩ := need_yes (ln := ln) (d := deep + 1) hb2
              rw [f1]
              exact .ok (n := n) (branchP_6 h3 e2 g3 hel k3 f2)
            | false =>
              obtain ⟨f1, f2⟩ := need_no (ln := ln) (d := deep + 1) hb2
              rw [f1]
              exact .bad (branchP_5 h3 e2 g3 hel k3 f2)
end

/-- how a command begins. -/
theorem cmd_cases (ts : List Lx.Tok) (hg : ∀ t ∈ ts, GoodR t) (p : Nat) :
    (Ps.isT ts p 2 [40] = false ∧ Ps.isT ts p 1 Ps.kwIf = false ∧ Ps.isT ts p 1 Ps.kwWhile = false ∧ Ps.isT ts p 1 Ps.kwFor = false ∧ stopsP ts p = true ∧ ∀ d, Ps.cmdP ts d p = .bad 10 p) ∨
    (Ps.isT ts p 2 [40] = false ∧ Ps.isT ts p 1 Ps.kwIf = false ∧ Ps.isT ts p 1 Ps.kwWhile = false ∧ Ps.isT ts p 1 Ps.kwFor = false ∧ stopsP ts p = false ∧ ∀ d, Ps.cmdP ts d p = Ps.simpleP ts p) ∨
    (p < ts.length ∧ Ps.isT ts p 2 [40] = true ∧ Ps.cmdP ts 0 p = .bad 12 p ∧ ∀ d, Ps.cmdP ts (d + 1) p = Ps.groupP ts (Ps.cmdP ts d) (p + 1)) ∨
    (p < ts.length ∧ Ps.isT ts p 2 [40] = false ∧ Ps.isT ts p 1 Ps.kwIf = true ∧ Ps.cmdP ts 0 p = .bad 12 p ∧ ∀ d, Ps.cmdP ts (d + 1) p = Ps.branchP ts (Ps.cmdP ts d) (p + 1)) ∨
    (p < ts.length ∧ Ps.isT ts p 2 [40] = false ∧ Ps.isT ts p 1 Ps.kwIf = false ∧ Ps.isT ts p 1 Ps.kwWhile = true ∧ Ps.cmdP ts 0 p = .bad 12 p ∧ ∀ d, Ps.cmdP ts (d + 1) p = Ps.loopP ts (Ps.cmdP ts d) (p + 1)) ∨
    (p < ts.length ∧ Ps.isT ts p 2 [40] = false ∧ Ps.isT ts p 1 Ps.kwIf = false ∧ Ps.isT ts p 1 Ps.kwWhile = false ∧ Ps.isT ts p 1 Ps.kwFor = true ∧ Ps.cmdP ts 0 p = .bad 12 p ∧ ∀ d, Ps.cmdP ts (d + 1) p = Ps.eachP ts (Ps.cmdP ts d) (p + 1)) := by
  cases ht : ts[p]? with
  | none =>
    have hn : ¬ p < ts.length := by intro h; rw [List.getElem?_eq_getElem h] at ht; cases ht
    refine .inr (.inl ⟨isT_none hn _ _, isT_none hn _ _, isT_none hn _ _, isT_none hn _ _, by unfold stopsP; rw [ht], fun d => ?_⟩)
    rw [cmdP_closing (by unfold Ps.closing; rw [ht])]
    unfold Ps.simpleP Ps.simpleL
    rw [ht]
    simp
  | some t =>
    have hlt := (List.getElem?_eq_some_iff.1 ht).1
    have hst : stopsP ts p = Ps.closing ts p := by unfold stopsP; rw [ht]
    have hgt := hg t (List.mem_of_getElem? ht)
    have hi := fun (k : Int) (x : List UInt8) => isT_some ht k x
    by_cases h1 : t.text = [40]
    · have hk : t.kind = 2 := hgt.2.2.1 h1
      have hc : Ps.closing ts p = false := by rw [closing_some ht, hk, h1]; decide
      have hr : Ps.readK t.text = 1 := by rw [h1]; decide
      refine .inr (.inr (.inl ⟨hlt, by rw [hi, hk, h1]; decide, cmdP_deep hc ht (by rw [hr]; decide), fun d => ?_⟩))
      rw [cmdP_read hc ht (by rw [hr]; decide), hr]
      rfl
    · by_cases h2 : t.text = Ps.kwIf ∨ t.text = Ps.kwWhile ∨ t.text = Ps.kwFor
      · have hk : t.kind = 1 := hgt.2.2.2.1 h2
        rcases h2 with h2 | h2 | h2
        · have hc : Ps.closing ts p = false := by rw [closing_some ht, hk, h2]; decide
          have hr : Ps.readK t.text = 2 := by rw [h2]; decide
          refine .inr (.inr (.inr (.inl ⟨hlt, by rw [hi, hk, h2]; decide, by rw [hi, hk, h2]; decide, cmdP_deep hc ht (by rw [hr]; decide), fun d => ?_⟩)))
          rw [cmdP_read hc ht (by rw [hr]; decide), hr]
          rfl
        · have hc : Ps.closing ts p = false := by rw [closing_some ht, hk, h2]; decide
          have hr : Ps.readK t.text = 3 := by rw [h2]; decide
          refine .inr (.inr (.inr (.inr (.inl ⟨hlt, by rw [hi, hk, h2]; decide, by rw [hi, hk, h2]; decide, by rw [hi, hk, h2]; decide, cmdP_deep hc ht (by rw [hr]; decide), fun d => ?_⟩))))
          rw [cmdP_read hc ht (by rw [hr]; decide), hr]
          rfl
        · have hc : Ps.closing ts p = false := by rw [closing_some ht, hk, h2]; decide
          have hr : Ps.readK t.text = 4 := by rw [h2]; decide
          refine .inr (.inr (.inr (.inr (.inr ⟨hlt, by rw [hi, hk, h2]; decide, by rw [hi, hk, h2]; decide, by rw [hi, hk, h2]; decide, by rw [hi, hk, h2]; decide, cmdP_deep hc ht (by rw [hr]; decide), fun d => ?_⟩))))
          rw [cmdP_read hc ht (by rw [hr]; decide), hr]
          rfl
      · simp only [not_or] at h2
        obtain ⟨h2, h3, h4⟩ := h2
        have n1 : Ps.isT ts p 2 [40] = false := by rw [hi]; simp [h1]
        have n2 : Ps.isT ts p 1 Ps.kwIf = false := by rw [hi]; simp [Ps.kwIf]; exact fun _ => h2
        have n3 : Ps.isT ts p 1 Ps.kwWhile = false := by rw [hi]; simp [Ps.kwWhile]; exact fun _ => h3
        have n4 : Ps.isT ts p 1 Ps.kwFor = false := by rw [hi]; simp [Ps.kwFor]; exact fun _ => h4
        cases hc : Ps.closing ts p with
        | true => exact .inl ⟨n1, n2, n3, n4, by rw [hst, hc], fun d => cmdP_closing hc⟩
        | false =>
          have hr : Ps.readK t.text = 0 := by unfold Ps.readK; rw [if_neg h1, if_neg h2, if_neg h3, if_neg h4]
          exact .inr (.inl ⟨n1, n2, n3, n4, by rw [hst, hc], fun d => cmdP_simple hc ht hr⟩)

end Go.Proofs.YtfgbbmnmblchiaaDoor

namespace Go.Proofs.YtfgbbmnmblchiaaDoor
open Go.RowKit
set_option linter.unusedVariables false

theorem idx_eq61 : ∀ l : List UInt8, ∃ M, M ≤ l.length ∧ (∀ j, j < M → l.getD j 0 ≠ 61) ∧ (M < l.length → l.getD M 0 = 61) ∧ Lx.idx 61 l = if M < l.length then some M else none
  | [] => ⟨0, Nat.le_refl _, fun j hj => by omega, fun h => by simp at h, rfl⟩
  | c :: t => by
    by_cases hc : c = 61
    · subst hc
      exact ⟨0, by simp, fun j hj => by omega, fun _ => rfl, by simp [Lx.idx, List.findIdx?_cons]⟩
    · obtain ⟨M, h1, h2, h3, h4⟩ := idx_eq61 t
      refine ⟨M + 1, by simpa using h1, fun j hj => ?_, fun h => ?_, ?_⟩
      · cases j with
        | zero => simpa using hc
        | succ j => simpa using h2 j (by omega)
      · simpa using h3 (by simpa using h)
      · unfold Lx.idx at h4 ⊢
        rw [List.findIdx?_cons, h4, show (c == 61) = false from by simpa using hc]
        by_cases hM : M < t.length
        · simp [hM]
        · simp [hM]

theorem Tryd.infoSetR : (Tryd.prog.info? 80).map (fun i => (i.zero, i.size, i.bytes)) = some (some (.agg #[.string ⟨#[]⟩, .slice none 0 0]), 2, 40) := by kernel_rfl

/-- the rest of a row, from its second on. -/
theorem PartsR.tail {w : World} {a : Option Addr} {n c : Nat} {p : Lx.Part} {r : List Lx.Part} (h : PartsR w (.slice a n c) (p :: r)) : ∃ g, a = some ⟨g, 0, none⟩ ∧ n = r.length + 1 ∧ n ≤ c ∧ c ≤ maxLen ∧ w.cell? ⟨g, 0, none⟩ = some (.int .i64 p.kind) ∧ w.cell? ⟨g, 1, none⟩ = some (.string (Lx.strB p.text)) ∧
    ∀ (j : Nat) (u : Value), (pcells r)[j]? = some u → w.cell? ⟨g, 2 + j, none⟩ = some u := by
  have hl := h.len.1
  subst hl
  obtain ⟨g, cur, rfl, hob, htk, hnc, hcm⟩ := Row.obj h (by simp)
  have hx := fun (j : Nat) (u : Value) (hj : (pcells (p :: r))[j]? = some u) => cells_of_take hob htk hj
  refine ⟨g, rfl, by simp, hnc, hcm, hx 0 _ rfl, hx 1 _ rfl, fun j u hj => hx (2 + j) u ?_⟩
  have e : pcells (p :: r) = [.int .i64 p.kind, .string (Lx.strB p.text)] ++ pcells r := rfl
  rw [e, List.getElem?_append_right (by simp)]
  simpa using hj

/-- what the document's 'set' tells. -/
def SetPostR (w : World) (t : Lx.Tok) (e : Ending) (w' : World) : Prop :=
  Chg [] w w' ∧ match Ps.setP t with
  | some s => ∃ a n c, e = .returned (.tuple #[.agg #[.string (Lx.strB s.name), .slice a n c], .bool true]) ∧ WordIn w' (fun k => w.heap.size ≤ k ∧ k < w'.heap.size) 0 (.slice a n c) s.word
  | none => e = .returned (.tuple #[.agg #[.string ⟨#[]⟩, .slice none 0 0], .bool false])

theorem fin_word {w0 w : World} {v : Value} {r : List Lx.Part} {p : Lx.Part} {x : List UInt8} (h : Row w 103 2 v (1 + r.length) ([.int .i64 1, .string (Lx.strB x)] ++ pcells r)) (hn : ∀ k ∈ rowBlock v, w0.heap.size ≤ k) (hk : p.kind = 1) : WordIn w (fun k => w0.heap.size ≤ k ∧ k < w.heap.size) 0 v (⟨p.kind, x⟩ :: r) := by
  rw [hk]
  rw [Nat.add_comm] at h
  exact Row.sl h (fun k hk => ⟨hn k hk, Row.block_lt h k hk⟩)

set_option maxHeartbeats 4000000 in
set_option maxRecDepth 10000 in
theorem rset (t : Lx.Tok) (a : Option Addr) (n c : Nat) (w : World) (hp : PartsR w (.slice a n c) t.parts) (hk : t.kind = 1) (hg : GoodR t) :
    Calls Tryd.prog 87 #[tokV t (.slice a n c)] w fun e w' => SetPostR w t e w' := by
  obtain ⟨i0, hi, hz0, hz1, hz2⟩ := info_parts Tryd.infoPartR
  obtain ⟨M, hM1, hM2, hM3, hM4⟩ := idx_eq61 t.text
  have hl := hg.1.1
  have hpl := hg.1.2.2
  have HB := Lib.hid (obj_alloc_old (obj_alloc_new w (.cells #[.int .i64 t.kind, .string (Lx.strB t.text), .slice a n c, .int .i64 t.pos] 98)) (.cells #[.string ⟨#[]⟩, .slice none 0 0] 80))
  have HS := Lib.hid (obj_alloc_new (w.alloc (.cells #[.int .i64 t.kind, .string (Lx.strB t.text), .slice a n c, .int .i64 t.pos] 98)) (.cells #[.string ⟨#[]⟩, .slice none 0 0] 80))
  have hsz : (w.alloc (.cells #[.int .i64 t.kind, .string (Lx.strB t.text), .slice a n c, .int .i64 t.pos] 98)).heap.size = w.heap.size + 1 := by simp
  have HC := Lib.hid (((Chg.refl [] w).alloc (.cells #[.int .i64 t.kind, .string (Lx.strB t.text), .slice a n c, .int .i64 t.pos] 98)).alloc (.cells #[.string ⟨#[]⟩, .slice none 0 0] 80))
  rw [hsz] at HS
  have HP := Lib.hid hp
  have HKD := Lib.hid hk
  have HG := Lib.hid hg
  have HM2 := Lib.hid hM2
  have HM3 := Lib.hid hM3
  have HM4 := Lib.hid hM4
  have hts := Lx.strB_size t.text
  have m1 : (M : Int) ≤ (t.text.length : Int) := by omega
  have m0 : (0 : Int) ≤ (M : Int) := by omega
  have l1 : (t.text.length : Int) ≤ 2048 := by omega
  clear hp hk hg hsz hM2 hM3 hM4
  unfold tokV
  go_enter Tryd.func87, Tryd.ntmps87
  go_upto_region 1 with (fail)
  generalize (w.alloc (.cells #[.int .i64 t.kind, .string (Lx.strB t.text), .slice a n c, .int .i64 t.pos] 98)).alloc (.cells #[.string ⟨#[]⟩, .slice none 0 0] 80) = w2 at *
  have t1 := cell_of_obj HB.out (j := 1) rfl
  have t2 := cell_of_obj HB.out (j := 2) rfl
  go_wp2_with fail
  go_loopg [4] (M + 1) (fun g c4 wr => ∃ j : Nat, M < j + g ∧ j ≤ M ∧ c4 = .int .i64 j ∧ wr = w2)
  case atStart => exact ⟨0, by omega, by omega, rfl, rfl⟩
  case round =>
    obtain ⟨j, hg, hj, rfl, rfl⟩ := hrel
    have j0 : (0 : Int) ≤ (j : Int) := by omega
    by_cases hlt : j < M
    · cases gk with
      | zero => omega
      | succ g =>
      have hd : decide (j < t.text.length) = true := decide_eq_true (by omega)
      have j1 : (j : Int) < (t.text.length : Int) := by omega
      obtain ⟨z, hz⟩ : ∃ z, (t.text.getD j 0).toNat = z := ⟨_, rfl⟩
      have hy : ∀ h, ((Lx.strB t.text)[j]'h).toNat = z := fun h => (Lx.strB_get _ _ h).trans hz
      have e1 : ((z : Int) != 61) = true := by
        have h1 := HM2.out j hlt
        have : z ≠ 61 := fun e => h1 (UInt8.toNat_inj.1 (by rw [hz, e]; rfl))
        simp; omega
      have HGG := Lib.hid hg
      clear hz hg
      go_wp2
      go_roundg g
      case measure => omega
      case rel => exact ⟨j + 1, by have := HGG.out; omega, by omega, by go_num, rfl⟩
    · obtain rfl : j = M := by omega
      have s0 := cell_of_obj HS.out (j := 0) rfl
      have s1 := cell_of_obj HS.out (j := 1) rfl
      have sf := free_of_obj HS.out
      by_cases hlt2 : j < t.text.length
      · have hd : decide (j < t.text.length) = true := decide_eq_true (by omega)
        have hd2 : decide (t.text.length ≤ j) = false := decide_eq_false (by omega)
        have j1 : (j : Int) < (t.text.length : Int) := by omega
        have hy : ∀ h, ((Lx.strB t.text)[j]'h).toNat = 61 := fun h => (Lx.strB_get _ _ h).trans (by rw [HM3.out hlt2]; rfl)
        have hix : Lx.idx 61 t.text = some j := by rw [HM4.out, if_pos hlt2]
        have HIX := Lib.hid hix
        have hx2 : (Lx.strB t.text).extract 0 j = Lx.strB (t.text.take j) := by rw [Lx.strB_extract]; simp
        have HLT := Lib.hid hlt2
        have NM := Lib.hid (fun W => NameR_any (t.text.take j) W (by rw [List.length_take]; omega))
        clear hg hix hlt hlt2 hj m1 hM1
        cases hnm : Lx.isName (t.text.take j) with
        | false =>
          have HR := Lib.hid (setP_none2 HIX.out hnm)
          rw [hnm] at NM
          clear hnm
          go_wp2_with fail
          refine (NM.out _).mono ?_
          rintro e w3 ⟨rfl, rfl⟩
          go_wp2_with fail
          refine bodyPost_ret (v := .tuple #[.agg #[.string ⟨#[]⟩, .slice none 0 0], .bool false]) (by simp [results, Tryd.results87, go_sem, s0, s1]) rfl ?_
          refine ⟨?_, ?_⟩
          · exact (HC.out.setCell _ _ (.inr (by simp))).setCell _ _ (.inr (by simp))
          · rw [HR.out]
        | true =>
          obtain ⟨p, r, hpr, hpk⟩ := HG.out.1.2.1 HKD.out j HIX.out hnm
          have hp1 : p.kind = 1 := by
            obtain ⟨p', r', e1, e2⟩ := HG.out.2.2.2.2 HKD.out j HIX.out hnm
            rw [hpr] at e1
            cases e1
            exact e2
          have HR := Lib.hid (setP_some HIX.out hnm hpr)
          have hp2 := HP.out
          rw [hpr] at hp2 hpl
          rw [hnm] at NM
          rw [List.length_cons] at hpl
          obtain ⟨g, rfl, rfl, hnc, hcm, y0, y1, yt⟩ := (hp2.kept0 HC.out).tail
          have hz : (((r.length + 1 : Nat) : Int) == 0) = false := by rw [beq_eq_false_iff_ne]; omega
          have hr0 : (0 : Int) < ((r.length + 1 : Nat) : Int) := by omega
          have hpt := Lx.strB_size p.text
          have hst := Lx.strB_tail p.text (j + 1)
          rw [hpt] at hst
          have k1 : (j : Int) + 1 ≤ (p.text.length : Int) := by omega
          have k2 : (j : Int) ≤ 2048 := by omega
          have HP1 := Lib.hid hp1
          have HYT := Lib.hid yt
          have HPR := Lib.hid hpr
          have hrl : r.length ≤ 2048 := by omega
          have hr1 : (1 : Int) ≤ (r.length : Int) + 1 := by omega
          have HPCL := Lib.hid (show (pcells r).length = r.length * 2 from pcells_len r)
          have HGL := Lib.hid (show g < w.heap.size from Row.block_lt hp2 g (rowBlock_head g _ _ hnc (by omega)))
          clear hp2 hpr hp1 hpk hnm yt y0
          go_wp2_with fail
          refine (NM.out _).mono ?_
          rintro e w3 ⟨rfl, rfl⟩
          go_upto_region 8 with (fail)
          have HC3 := Lib.hid (HC.out.alloc (.cells #[.string (Lx.strB (t.text.take j)), .slice none 0 0] 80))
          have hC3 := (Chg.refl [] wr).alloc (.cells #[.string (Lx.strB (t.text.take j)), .slice none 0 0] 80)
          have HSB := Lib.hid (obj_alloc_new wr (.cells #[.string (Lx.strB (t.text.take j)), .slice none 0 0] 80))
          have HS3 := Lib.hid (hC3.obj HS.out (by simp))
          have b2 := hC3.cell t2 (by simp)
          have HYT3 := Lib.hid (fun i u hi => hC3.cell (HYT.out i u hi) (by simp))
          have HG3 := Lib.hid (show w.heap.size + 2 ≤ wr.heap.size from by have := lt_of_obj HS.out; omega)
          generalize wr.alloc (.cells #[.string (Lx.strB (t.text.take j)), .slice none 0 0] 80) = w3 at *
          have HGS := Lib.hid (show g ≠ wr.heap.size from fun e => by have := HGL.out; have := lt_of_obj HS.out; omega)
          generalize wr.heap.size = sb at *
          clear hC3 t1 t2 s0 s1 sf HB HS HC HYT y1 hy hd hd2
          have v1 := cell_of_obj HSB.out (j := 1) rfl
          have vf := free_of_obj HSB.out
          by_cases hde : p.text.drop (j + 1) = []
          · have e1 : (Lx.strB (p.text.drop (j + 1))).toList.isEmpty = true := by rw [Lx.strB_toList, hde]; rfl
            have HDE := Lib.hid hde
            clear hde
            -- the first
            go_upto_region 10 with (fail)
            have HNR := Lib.hid (show sb ∉ rowBlock (.slice none 0 0) from by simp [rowBlock])
            have HNS := Lib.hid (show w.heap.size + 1 ∉ rowBlock (.slice none 0 0) from by simp [rowBlock])
            have HNW := Lib.hid (show ∀ k ∈ rowBlock (.slice none 0 0), w.heap.size ≤ k from by simp [rowBlock])
            have HSRC := Lib.hid (show SrcAt w3.drew (if c = 1 then some ⟨g, 0, none⟩ else some ⟨g, 2, none⟩) (pcells r) from fun hne => ⟨g, 2, if_neg (fun e => hne (by rw [List.eq_nil_of_length_eq_zero (show r.length = 0 by omega)]; rfl)), fun i u hi => HYT3.out i u hi⟩)
            go_region_law ((refine step_append_row (by rfl) _ _ 78 (by rfl) 103 i0 _ 2 24 Tryd.underlying78 hi hz0 hz1 hz2 (by rfl) (by decide) _ 0 [] (by rfl) (Row.nil _ _ _ _) _ r.length (c - 1) (pcells r) (by rfl) HPCL.out HSRC.out (pcells_one r) (by unfold maxLen; omega) (by omega) ?_; intro v' w8 r8 q8 g8; rw [Nat.zero_add, List.nil_append] at r8; obtain ⟨av, cap, rfl, hav, hcap⟩ := r8.shape; have o8 := q8.obj HSB.out HNR.out; have f8 := free_of_obj o8 1; have c8 := cell_of_obj o8 (j := 1) rfl))
            all_goals
              have hC8 : Chg [] w (w8.setCell ⟨sb, 1, none⟩ (.slice av r.length cap)) := (HC3.out.trans q8.drew0 (fun x hx => .inr (HNW.out x hx))).setCell _ _ (.inr (by have := HG3.out; simp; omega))
              have HC9 := Lib.hid hC8
              have HS9 := Lib.hid (((Chg.refl [sb] w8).setCell ⟨sb, 1, none⟩ (.slice av r.length cap) (.inl (by simp))).obj (q8.obj HS3.out HNS.out) (by have := HG3.out; simp; omega))
              have hsb9 := obj_setCell o8 1 (.slice av r.length cap)
              have HW9 := Lib.hid (r8.kept ((Chg.refl [sb] w8).setCell ⟨sb, 1, none⟩ (.slice av r.length cap) (.inl (by simp))) (fun k hk => by simp only [List.mem_singleton]; intro e; subst e; rcases g8 _ hk with h1 | h1; (exact HNR.out h1); (have := lt_of_obj HSB.out; have h1 : w3.heap.size ≤ k := h1; omega)))
              have HN9 := Lib.hid (show ∀ k ∈ rowBlock (.slice av r.length cap), w.heap.size ≤ k from fun k hk => by
                rcases g8 k hk with h1 | h1
                · exact HNW.out k h1
                · have := lt_of_obj HSB.out; have := HG3.out; have h1 : w3.heap.size ≤ k := h1; omega)
              have HNR9 := Lib.hid (show w.heap.size + 1 ∉ rowBlock (.slice av r.length cap) from fun hk => by
                rcases g8 _ hk with h1 | h1
                · exact HNS.out h1
                · have := lt_of_obj HSB.out; have := HG3.out; have h1 : w3.heap.size ≤ w.heap.size + 1 := h1; omega)
              clear r8 q8 g8 o8 f8 c8 hC8 v1 vf b2
              go_upto_region 11 with (fail)
              generalize w8.setCell ⟨sb, 1, none⟩ (.slice av r.length cap) = w9 at *
              have s0 := cell_of_obj HS9.out (j := 0) rfl
              have s1 := cell_of_obj HS9.out (j := 1) rfl
              have sf := free_of_obj HS9.out
              have z0 := cell_of_obj hsb9 (j := 0) rfl
              have z1 := cell_of_obj hsb9 (j := 1) rfl
              go_wp2_with fail
              all_goals
                refine bodyPost_ret (v := .tuple #[.agg #[.string (Lx.strB (t.text.take j)), .slice av r.length cap], .bool true]) (by simp [results, Tryd.results87, go_sem, s0, s1]) rfl ?_
                have hC10 := ((Chg.refl [w.heap.size + 1] w9).setCell ⟨w.heap.size + 1, 0, none⟩ (.string (Lx.strB (t.text.take j))) (.inl (by simp))).setCell ⟨w.heap.size + 1, 1, none⟩ (.slice av r.length cap) (.inl (by simp))
                refine ⟨HC9.out.trans hC10 (fun x hx => .inr (by simp at hx; omega)), ?_⟩
                rw [HR.out, if_pos HDE.out]
                refine ⟨av, _, cap, rfl, ?_⟩
                have hrow := HW9.out.kept hC10 (fun k hk => by simp only [List.mem_singleton]; intro e; rw [e] at hk; exact HNR9.out hk)
                exact Row.sl hrow (fun k hk => ⟨HN9.out k hk, Row.block_lt hrow k hk⟩)
          · have e1 : (Lx.strB (p.text.drop (j + 1))).toList.isEmpty = false := by rw [Lx.strB_toList]; simpa using hde
            have HDE := Lib.hid hde
            clear hde
            go_upto_region 9 with (fail)
            have hwr : IntKind.i64.wrap ((j : Int) + 1) = (j : Int) + 1 := by rw [IntKind.wrap_i64]; omega
            have hto : ((j : Int) + 1).toNat = j + 1 := by omega
            have j9 : (0 : Int) ≤ (j : Int) + 1 := by omega
            have v1a := fun (o : Obj) => ((Chg.refl [] w3).alloc o).cell v1 (by simp)
            go_cut [] (fun wx => ∃ (av : Option Addr) (cap : Nat), Hid (Row wx 103 2 (.slice av 1 cap) 1 [.int .i64 1, .string (Lx.strB (p.text.drop (j + 1)))]) ∧ Hid (wx.heap[sb]? = some (.cells #[.string (Lx.strB (t.text.take j)), .slice av 1 cap] 80 (0, 0))) ∧ Hid (Chg [sb] w3 wx) ∧ Hid (∀ k ∈ rowBlock (.slice av 1 cap), sb < k))
            case first =>
              go_region_law ((refine step_append_row (by rfl) _ _ 78 (by rfl) 103 i0 _ 2 24 Tryd.underlying78 hi hz0 hz1 hz2 (by rfl) (by decide) _ 0 [] (by rfl) (Row.nil _ _ _ _) _ 1 1 [.int .i64 1, .string (Lx.strB (p.text.drop (j + 1)))] (by rfl) (by rfl) (srcNew _ _ _ _) (by simp [Value.oneCell']) (by unfold maxLen; omega) (by omega) ?_; intro v' w8 r8 q8 g8; rw [Nat.zero_add, List.nil_append] at r8; obtain ⟨av, cap, rfl, hav, hcap⟩ := r8.shape; have o8 := q8.obj (obj_alloc_old HSB.out _) (by simp [rowBlock]); have f8 := free_of_obj o8 1; have c8 := cell_of_obj o8 (j := 1) rfl))
              all_goals
                have hq : Chg [sb] w3 (w8.setCell ⟨sb, 1, none⟩ (.slice av 1 cap)) := ((((Chg.refl [sb] w3).alloc (.cells #[.int .i64 1, .string (Lx.strB (p.text.drop (j + 1)))] 103)).drew).trans q8 (by simp [rowBlock])).setCell _ _ (.inl (by simp))
                have hb8 : ∀ k ∈ rowBlock (.slice av 1 cap), sb < k := fun k hk => by
                  rcases g8 k hk with h1 | h1
                  · simp [rowBlock] at h1
                  · have := lt_of_obj HSB.out
                    have h1 : w3.heap.size + 1 ≤ k := by simpa [World.drew] using h1
                    omega
                have hr9 := r8.kept ((Chg.refl [sb] w8).setCell ⟨sb, 1, none⟩ (.slice av 1 cap) (.inl (by simp))) (fun k hk => by have := hb8 k hk; simp only [List.mem_singleton]; omega)
                have ho9 := obj_setCell o8 1 (.slice av 1 cap)
                clear q8 r8 g8 o8 f8 c8
                go_wp2
                go_meet
                exact ⟨av, cap, Lib.hid hr9, Lib.hid ho9, Lib.hid hq, Lib.hid hb8⟩
            case rest =>
              obtain ⟨av0, cap0, HR4, HSB4, HC34, HB4⟩ := hcut
              rename World => w4
              have HC3 := Lib.hid (HC3.out.trans HC34.out (fun x hx => .inr (by simp at hx; have := HG3.out; omega)))
              have HS3 := Lib.hid (HC34.out.obj HS3.out (by have := HG3.out; simp; omega))
              have b2 := HC34.out.cell b2 (by have := HG3.out; simp; omega)
              have HYT3 := Lib.hid (fun i u hi => HC34.out.cell (HYT3.out i u hi) (by have := HGS.out; simpa using this))
              have HSB := HSB4
              have v1 := cell_of_obj HSB.out (j := 1) rfl
              have vf := free_of_obj HSB.out
              clear v1a
              go_upto_region 10 with (fail)
              have HNR := Lib.hid (show sb ∉ rowBlock (.slice av0 1 cap0) from fun hk => by have := HB4.out sb hk; omega)
              have HNS := Lib.hid (show w.heap.size + 1 ∉ rowBlock (.slice av0 1 cap0) from fun hk => by have := HB4.out _ hk; have := HG3.out; omega)
              have HNW := Lib.hid (show ∀ k ∈ rowBlock (.slice av0 1 cap0), w.heap.size ≤ k from fun k hk => by have := HB4.out _ hk; have := HG3.out; omega)
              have HSRC := Lib.hid (show SrcAt w4.drew (if c = 1 then some ⟨g, 0, none⟩ else some ⟨g, 2, none⟩) (pcells r) from fun hne => ⟨g, 2, if_neg (fun e => hne (by rw [List.eq_nil_of_length_eq_zero (show r.length = 0 by omega)]; rfl)), fun i u hi => HYT3.out i u hi⟩)
              go_region_law ((refine step_append_row (by rfl) _ _ 78 (by rfl) 103 i0 _ 2 24 Tryd.underlying78 hi hz0 hz1 hz2 (by rfl) (by decide) _ 1 [.int .i64 1, .string (Lx.strB (p.text.drop (j + 1)))] (by rfl) HR4.out.drew _ r.length (c - 1) (pcells r) (by rfl) HPCL.out HSRC.out (pcells_one r) (by unfold maxLen; omega) (by omega) ?_; intro v' w8 r8 q8 g8; obtain ⟨av, cap, rfl, hav, hcap⟩ := r8.shape; have o8 := q8.obj HSB.out HNR.out; have f8 := free_of_obj o8 1; have c8 := cell_of_obj o8 (j := 1) rfl))
              all_goals
                have hC8 : Chg [] w (w8.setCell ⟨sb, 1, none⟩ (.slice av (1 + r.length) cap)) := (HC3.out.trans q8.drew0 (fun x hx => .inr (HNW.out x hx))).setCell _ _ (.inr (by have := HG3.out; simp; omega))
                have HC9 := Lib.hid hC8
                have HS9 := Lib.hid (((Chg.refl [sb] w8).setCell ⟨sb, 1, none⟩ (.slice av (1 + r.length) cap) (.inl (by simp))).obj (q8.obj HS3.out HNS.out) (by have := HG3.out; simp; omega))
                have hsb9 := obj_setCell o8 1 (.slice av (1 + r.length) cap)
                have HW9 := Lib.hid (r8.kept ((Chg.refl [sb] w8).setCell ⟨sb, 1, none⟩ (.slice av (1 + r.length) cap) (.inl (by simp))) (fun k hk => by simp only [List.mem_singleton]; intro e; subst e; rcases g8 _ hk with h1 | h1; (exact HNR.out h1); (have := lt_of_obj HSB.out; have h1 : w4.heap.size ≤ k := h1; omega)))
                have HN9 := Lib.hid (show ∀ k ∈ rowBlock (.slice av (1 + r.length) cap), w.heap.size ≤ k from fun k hk => by
                  rcases g8 k hk with h1 | h1
                  · exact HNW.out k h1
                  · have := lt_of_obj HSB.out; have := HG3.out; have h1 : w4.heap.size ≤ k := h1; omega)
                have HNR9 := Lib.hid (show w.heap.size + 1 ∉ rowBlock (.slice av (1 + r.length) cap) from fun hk => by
                  rcases g8 _ hk with h1 | h1
                  · exact HNS.out h1
                  · have := lt_of_obj HSB.out; have := HG3.out; have h1 : w4.heap.size ≤ w.heap.size + 1 := h1; omega)
                clear r8 q8 g8 o8 f8 c8 hC8 v1 vf b2
                go_upto_region 11 with (fail)
                generalize w8.setCell ⟨sb, 1, none⟩ (.slice av (1 + r.length) cap) = w9 at *
                have s0 := cell_of_obj HS9.out (j := 0) rfl
                have s1 := cell_of_obj HS9.out (j := 1) rfl
                have sf := free_of_obj HS9.out
                have z0 := cell_of_obj hsb9 (j := 0) rfl
                have z1 := cell_of_obj hsb9 (j := 1) rfl
                go_wp2_with fail
                all_goals
                  refine bodyPost_ret (v := .tuple #[.agg #[.string (Lx.strB (t.text.take j)), .slice av (1 + r.length) cap], .bool true]) (by simp [results, Tryd.results87, go_sem, s0, s1]) rfl ?_
                  have hC10 := ((Chg.refl [w.heap.size + 1] w9).setCell ⟨w.heap.size + 1, 0, none⟩ (.string (Lx.strB (t.text.take j))) (.inl (by simp))).setCell ⟨w.heap.size + 1, 1, none⟩ (.slice av (1 + r.length) cap) (.inl (by simp))
                  refine ⟨HC9.out.trans hC10 (fun x hx => .inr (by simp at hx; omega)), ?_⟩
                  rw [HR.out, if_neg HDE.out]
                  refine ⟨av, _, cap, rfl, ?_⟩
                  have hrow := HW9.out.kept hC10 (fun k hk => by simp only [List.mem_singleton]; intro e; rw [e] at hk; exact HNR9.out hk)
                  exact fin_word hrow HN9.out HP1.out
      · have hd : decide (j < t.text.length) = false := decide_eq_false hlt2
        have hd2 : decide (t.text.length ≤ j) = true := decide_eq_true (by omega)
        have HR := Lib.hid (setP_none (t := t) (by rw [HM4.out, if_neg hlt2]))
        clear hg hlt hlt2 hj m1 hM1
        go_wp2_with fail
        refine bodyPost_ret (v := .tuple #[.agg #[.string ⟨#[]⟩, .slice none 0 0], .bool false]) (by simp [results, Tryd.results87, go_sem, s0, s1]) rfl ?_
        refine ⟨?_, ?_⟩
        · exact (HC.out.setCell _ _ (.inr (by simp))).setCell _ _ (.inr (by simp))
        · rw [HR.out]

end Go.Proofs.YtfgbbmnmblchiaaDoor

namespace Go.Proofs.YtfgbbmnmblchiaaDoor
open Go.RowKit
set_option linter.unusedVariables false

section
variable {w w' : World} {pb : Nat} {a : Option Addr} {c : Nat} {ts : List Lx.Tok} {vs : List Value} {ln p deep : Nat}
theorem ROk.rs (h : ROk w pb a c ts vs ln p deep) : RS w pb a c ts vs ln (.ok p deep) := h
theorem ROk.chg (h : ROk w pb a c ts vs ln p deep) {F : List Nat} (hc : Chg F w w') (hF : ∀ k ∈ F, k ≠ pb ∧ ¬ TB (.slice a ts.length c) vs k) : ROk w' pb a c ts vs ln p deep := ⟨h.1.chg hc hF, h.2⟩
theorem ROk.out (h : ROk w pb a c ts vs ln p deep) : ¬ TB (.slice a ts.length c) vs pb := h.1.out
theorem ROk.lt (h : ROk w pb a c ts vs ln p deep) : pb < w.heap.size := h.1.lt
theorem ROk.tb_lt (h : ROk w pb a c ts vs ln p deep) : ∀ k, TB (.slice a ts.length c) vs k → k < w.heap.size := h.1.tb_lt
theorem ROk.le (h : ROk w pb a c ts vs ln p deep) : p ≤ ts.length := h.2.1
end

theorem ToksR.cell7 {w : World} {a : Option Addr} {n c : Nat} {ts : List Lx.Tok} {vs : List Value} (h : ToksR w (.slice a n c) ts vs) (k : Nat) (t : Lx.Tok) (hk : ts[k]? = some t) :
    ∃ g a' n' c', a = some ⟨g, 0, none⟩ ∧ w.cell? ⟨g, k * 4, none⟩ = some (.int .i64 t.kind) ∧ w.cell? ⟨g, k * 4 + 1, none⟩ = some (.string (Lx.strB t.text)) ∧ w.cell? ⟨g, k * 4 + 2, none⟩ = some (.slice a' n' c') ∧ w.cell? ⟨g, k * 4 + 3, none⟩ = some (.int .i64 t.pos) ∧ PartsR w (.slice a' n' c') t.parts ∧ WordIn w (TB (.slice a n c) vs) 0 (.slice a' n' c') t.parts ∧ ∀ j ∈ rowBlock (.slice a' n' c'), TB (.slice a n c) vs j := by
  have hlt := (List.getElem?_eq_some_iff.1 hk).1
  obtain ⟨u, hu⟩ : ∃ u, vs[k]? = some u := ⟨_, List.getElem?_eq_getElem (by rw [h.len]; exact hlt)⟩
  obtain ⟨hp, a', n', c', rfl⟩ := h.parts k t u hk hu
  obtain ⟨g, a2, n2, c2, e, x0, x1, x2, x3, _⟩ := h.cell4 k t hk
  obtain ⟨g', rfl, _, _, hx⟩ := Row.cells h.row (by omega)
  cases e
  have hc := hx (4 * k + 2) _ ((tcells_get ts vs k t _ hk hu 2 (by omega)).trans (by rfl))
  rw [Nat.mul_comm] at hc
  rw [x2] at hc
  cases hc
  exact ⟨g, _, _, _, rfl, x0, x1, x2, x3, hp, Row.sl hp (fun j hj => .inr (.inr ⟨_, List.mem_of_getElem? hu, hj⟩)), fun j hj => .inr (.inr ⟨_, List.mem_of_getElem? hu, hj⟩)⟩

structure BaseR (w : World) (pb : Nat) (a : Option Addr) (c : Nat) (ts : List Lx.Tok) (vs : List Value) (ln q deep : Nat) (wr : World) : Prop where
  ps : ROk wr pb a c ts vs ln q deep
  rs : wr.heap[w.heap.size]? = some (.cells (nodeC 0 (.slice none 0 0)) 42 (0, 0))
  chg : Chg [pb] w wr
  old : pb < w.heap.size ∧ ∀ k, TB (.slice a ts.length c) vs k → k < w.heap.size

section
variable {w wr w' : World} {pb : Nat} {a : Option Addr} {c : Nat} {ts : List Lx.Tok} {vs : List Value} {ln q deep : Nat}
theorem BaseR.start (h : ROk w pb a c ts vs ln q deep) : BaseR w pb a c ts vs ln q deep (w.alloc (.cells (nodeC 0 (.slice none 0 0)) 42)) where
  ps := h.chg0 ((Chg.refl [] w).alloc _)
  rs := obj_alloc_new w _
  chg := (Chg.refl _ _).alloc _
  old := ⟨h.lt, h.tb_lt⟩
theorem BaseR.call (h : BaseR w pb a c ts vs ln q deep wr) (hc : Chg [pb] wr w') {q' : Nat} (hp : ROk w' pb a c ts vs ln q' deep) : BaseR w pb a c ts vs ln q' deep w' :=
  { h with ps := hp, rs := hc.obj h.rs (by have := h.old.1; simp; omega), chg := h.chg.trans hc (fun x hx => .inl hx) }
theorem BaseR.kept0 (h : BaseR w pb a c ts vs ln q deep wr) (hc : Chg [] wr w') : BaseR w pb a c ts vs ln q deep w' := h.call (hc.mono (by simp)) (h.ps.chg0 hc)
theorem BaseR.setAt (h : BaseR w pb a c ts vs ln q deep wr) (z : Int) (hz : z = ((q + 1 : Nat) : Int)) (hq : q + 1 ≤ ts.length) : BaseR w pb a c ts vs ln (q + 1) deep (wr.setCell ⟨pb, 1, none⟩ (.int .i64 z)) :=
  h.call (Chg.setP _ _ _ _) (h.ps.setAt z hz hq)
theorem BaseR.turnL (h : BaseR w pb a c ts vs ln q deep wr) {F : List Nat} (hc : Chg F wr w') (hb : ∀ j ∈ F, w.heap.size < j) : BaseR w pb a c ts vs ln q deep w' :=
  { h with
    ps := h.ps.chg hc (fun j hj => by have := hb j hj; exact ⟨by have := h.old.1; omega, fun ht => by have := h.old.2 _ ht; omega⟩)
    rs := hc.obj h.rs (fun hj => by have := hb _ hj; omega)
    chg := h.chg.trans hc (fun x hx => .inr (by have := hb x hx; omega)) }
/-- an error, with whatever stands in the result's block. -/
theorem BaseR.fin6 (h : BaseR w pb a c ts vs ln q deep wr) {w1 : World} (hc : Chg [pb] wr w1) {st : St} (hp : RS w1 pb a c ts vs ln st) {F : List Nat} (h2 : Chg F w1 w') (hF : ∀ k ∈ F, w.heap.size ≤ k) {cs : List Value} (h6 : Six cs) : SPost w pb a c ts vs ln (st, none) (.returned (.agg cs.toArray)) w' :=
  ⟨cs, h6, rfl, (h.chg.trans hc (fun x hx => .inl hx)).trans h2 (fun x hx => .inr (hF x hx)), hp.chg h2 (fun j hj => by have := hF j hj; exact ⟨by have := h.old.1; omega, fun ht => by have := h.old.2 _ ht; omega⟩), fun n hn => by cases hn⟩
end

/-- a command of words that grows. -/
structure CmdR (w : World) (pb : Nat) (a : Option Addr) (c : Nat) (ts : List Lx.Tok) (vs : List Value) (ln nb : Nat) (q deep : Nat) (cm : Ps.Cmd) (wv sv rv : Value) (wx sx rx : List Value) (wr : World) : Prop where
  base : BaseR w pb a c ts vs ln q deep wr
  nd : wr.heap[nb]? = some (.cells #[.int .i64 5, .slice none 0 0, .string ⟨#[]⟩, wv, sv, rv] 42 (0, 0))
  rw : Row wr 78 1 wv cm.words.length wx
  rs : Row wr 80 2 sv cm.sets.length sx
  rr : Row wr 84 2 rv cm.reds.length rx
  words : WordsAt wr (TB (.slice a ts.length c) vs) cm.words wx
  sets : SetsAt wr (Sc (.slice a ts.length c) vs w.heap.size wr.heap.size nb wv sv rv) cm.sets sx
  reds : RedsAt wr (TB (.slice a ts.length c) vs) cm.reds rx
  new : ∀ k, k ∈ rowBlock wv ∨ k ∈ rowBlock sv ∨ k ∈ rowBlock rv → w.heap.size < k ∧ k ≠ nb
  d1 : ∀ k ∈ rowBlock wv, k ∉ rowBlock sv
  d2 : ∀ k ∈ rowBlock wv, k ∉ rowBlock rv
  d3 : ∀ k ∈ rowBlock sv, k ∉ rowBlock rv
  nb0 : w.heap.size < nb
  few : cm.words.length ≤ q + 1 ∧ cm.sets.length ≤ q + 1 ∧ cm.reds.length ≤ q + 1

section
variable {w wr w' w1 w2 w3 w4 : World} {pb : Nat} {a : Option Addr} {c : Nat} {ts : List Lx.Tok} {vs : List Value} {ln nb : Nat} {q deep : Nat} {cm : Ps.Cmd} {wv sv rv : Value} {wx sx rx : List Value}

theorem CmdR.call (h : CmdR w pb a c ts vs ln nb q deep cm wv sv rv wx sx rx wr) (hc : Chg [pb] wr w') {q' : Nat} (hp : ROk w' pb a c ts vs ln q' deep) (hq : q ≤ q') : CmdR w pb a c ts vs ln nb q' deep cm wv sv rv wx sx rx w' := by
  have h1 := h.base.old.1
  have h2 := h.nb0
  have hn : ∀ k, k ∈ rowBlock wv ∨ k ∈ rowBlock sv ∨ k ∈ rowBlock rv → k ∉ [pb] := fun k hk => by have := (h.new k hk).1; simp; omega
  have ht : ∀ j ∈ [pb], ¬ TB (.slice a ts.length c) vs j := fun j hj => by simp at hj; subst hj; exact h.base.ps.out
  exact
    { h with
      base := h.base.call hc hp
      nd := hc.obj h.nd (by simp; omega)
      rw := h.rw.kept hc (fun j hj => hn j (.inl hj))
      rs := h.rs.kept hc (fun j hj => hn j (.inr (.inl hj)))
      rr := h.rr.kept hc (fun j hj => hn j (.inr (.inr hj)))
      words := WordsAt.kept hc ht h.words
      sets := SetsAt.mono (fun j hj => hj.imp id (fun h => ⟨h.1, Nat.lt_of_lt_of_le h.2.1 hc.size, h.2.2⟩)) (SetsAt.kept hc (fun j hj hS => by
        rcases hS with h3 | h3
        · exact ht j hj h3
        · simp at hj; omega) h.sets)
      reds := RedsAt.kept hc ht h.reds
      few := ⟨by have := h.few.1; omega, by have := h.few.2.1; omega, by have := h.few.2.2; omega⟩ }
theorem CmdR.kept0 (h : CmdR w pb a c ts vs ln nb q deep cm wv sv rv wx sx rx wr) (hc : Chg [] wr w') : CmdR w pb a c ts vs ln nb q deep cm wv sv rv wx sx rx w' := h.call (hc.mono (by simp)) (h.base.ps.chg0 hc) (Nat.le_refl _)
theorem CmdR.setAt (h : CmdR w pb a c ts vs ln nb q deep cm wv sv rv wx sx rx wr) (z : Int) (hz : z = ((q + 1 : Nat) : Int)) (hq : q + 1 ≤ ts.length) : CmdR w pb a c ts vs ln nb (q + 1) deep cm wv sv rv wx sx rx (wr.setCell ⟨pb, 1, none⟩ (.int .i64 z)) :=
  h.call (Chg.setP _ _ _ _) (h.base.ps.setAt z hz hq) (by omega)

theorem CmdR.start (h : ROk w pb a c ts vs ln q deep) :
    CmdR w pb a c ts vs ln (w.heap.size + 1) q deep ⟨[], [], []⟩ (.slice none 0 0) (.slice none 0 0) (.slice none 0 0) [] [] [] ((w.alloc (.cells (nodeC 0 (.slice none 0 0)) 42)).alloc (.cells (nodeC 5 (.slice none 0 0)) 42)) := by
  have e : (w.alloc (.cells (nodeC 0 (.slice none 0 0)) 42)).heap.size = w.heap.size + 1 := by simp
  exact
    { base := (BaseR.start h).kept0 ((Chg.refl [] _).alloc _)
      nd := by rw [← e]; exact obj_alloc_new _ _
      rw := Row.nil _ _ _ _
      rs := Row.nil _ _ _ _
      rr := Row.nil _ _ _ _
      words := rfl
      sets := rfl
      reds := rfl
      new := by simp [rowBlock]
      d1 := by simp [rowBlock]
      d2 := by simp [rowBlock]
      d3 := by simp [rowBlock]
      nb0 := by omega
      few := ⟨Nat.zero_le _, Nat.zero_le _, Nat.zero_le _⟩ }

/-- what a change of the rows' blocks and of the node's leaves. -/
theorem CmdR.stay (h : CmdR w pb a c ts vs ln nb q deep cm wv sv rv wx sx rx w1) {F : List Nat} (hF : ∀ k ∈ F, k = nb ∨ k ∈ rowBlock wv ∨ k ∈ rowBlock sv ∨ k ∈ rowBlock rv) (hc : Chg F w1 w4) {wv' sv' rv' : Value}
    (hb : ∀ k, k ∈ rowBlock wv' ∨ k ∈ rowBlock sv' ∨ k ∈ rowBlock rv' → (k ∈ rowBlock wv ∨ k ∈ rowBlock sv ∨ k ∈ rowBlock rv) ∨ w1.heap.size ≤ k) :
    BaseR w pb a c ts vs ln q deep w4 ∧ WordsAt w4 (TB (.slice a ts.length c) vs) cm.words wx ∧ SetsAt w4 (Sc (.slice a ts.length c) vs w.heap.size w4.heap.size nb wv' sv' rv') cm.sets sx ∧ RedsAt w4 (TB (.slice a ts.length c) vs) cm.reds rx ∧ (∀ k, k ∈ rowBlock wv' ∨ k ∈ rowBlock sv' ∨ k ∈ rowBlock rv' → w.heap.size < k ∧ k ≠ nb) := by
  have hnb := h.nb0
  have hnl := lt_of_obj h.nd
  have hsz := h.base.chg.size
  have hlt : ∀ k ∈ F, w.heap.size < k := fun k hk => by
    rcases hF k hk with h1 | h1
    · omega
    · exact (h.new k h1).1
  have ht : ∀ j ∈ F, ¬ TB (.slice a ts.length c) vs j := fun j hj hT => by have := hlt j hj; have := h.base.old.2 j hT; omega
  refine ⟨h.base.turnL hc hlt, WordsAt.kept hc ht h.words, ?_, RedsAt.kept hc ht h.reds, fun k hk => ?_⟩
  · refine SetsAt.mono (fun j hj => hj.imp id (fun h3 => ?_)) (SetsAt.kept hc (fun j hj hS => ?_) h.sets)
    · rcases hS with h3 | h3
      · exact ht j hj h3
      · rcases hF j hj with h4 | h4 | h4 | h4
        · exact h3.2.2.1 h4
        · exact h3.2.2.2.1 h4
        · exact h3.2.2.2.2.1 h4
        · exact h3.2.2.2.2.2 h4
    · have hno : ¬ (j ∈ rowBlock wv' ∨ j ∈ rowBlock sv' ∨ j ∈ rowBlock rv') := fun hj2 => by
        rcases hb j hj2 with (h4 | h4 | h4) | h4
        · exact h3.2.2.2.1 h4
        · exact h3.2.2.2.2.1 h4
        · exact h3.2.2.2.2.2 h4
        · omega
      exact ⟨h3.1, Nat.lt_of_lt_of_le h3.2.1 hc.size, h3.2.2.1, fun h4 => hno (.inl h4), fun h4 => hno (.inr (.inl h4)), fun h4 => hno (.inr (.inr h4))⟩
  · rcases hb k hk with h4 | h4
    · exact h.new k h4
    · exact ⟨by omega, by omega⟩

theorem CmdR.addW (h : CmdR w pb a c ts vs ln nb q deep cm wv sv rv wx sx rx w1) {p : List Lx.Part} {u v' : Value} (hn : WordIn w1 (TB (.slice a ts.length c) vs) 0 u p) (h12 : Chg [] w1 w2) (hr : Row w3 78 1 v' (cm.words.length + 1) (wx ++ [u]))
    (h23 : Chg (rowBlock wv) w2 w3) (hb : ∀ k ∈ rowBlock v', k ∈ rowBlock wv ∨ w1.heap.size ≤ k) (hf : cm.words.length ≤ q) : CmdR w pb a c ts vs ln nb q deep { cm with words := cm.words ++ [p] } v' sv rv (wx ++ [u]) sx rx (w3.setCell ⟨nb, 3, none⟩ v') := by
  have h13 : Chg (rowBlock wv) w1 w3 := (h12.mono (by simp)).trans h23 (fun x hx => .inl hx)
  have h14 : Chg (nb :: rowBlock wv) w1 (w3.setCell ⟨nb, 3, none⟩ v') := (h13.mono (fun x hx => .inl (by simp [hx]))).setCell _ _ (.inl (by simp))
  obtain ⟨s1, s2, s3, s4, s5⟩ := h.stay (wv' := v') (sv' := sv) (rv' := rv) (fun k hk => by simp at hk; exact hk.imp id .inl) h14 (fun k hk => by
    rcases hk with h1 | h1 | h1
    · exact (hb k h1).imp .inl id
    · exact .inl (.inr (.inl h1))
    · exact .inl (.inr (.inr h1)))
  have hs : Chg [nb] w3 (w3.setCell ⟨nb, 3, none⟩ v') := (Chg.refl [nb] w3).setCell _ _ (.inl (by simp))
  have hlt := fun k hk => Row.block_lt h.rs k hk
  have hlt2 := fun k hk => Row.block_lt h.rr k hk
  have hw := WordsAt.kept h14 (fun j hj hT => by
    have := h.base.old.2 j hT
    simp at hj
    rcases hj with rfl | hj
    · have := h.nb0; omega
    · have := (h.new j (.inl hj)).1; omega) (WordsAt.snoc h.words hn)
  exact
    { base := s1
      nd := obj_setCell (h13.obj h.nd (fun hj => (h.new _ (.inl hj)).2 rfl)) 3 v'
      rw := by
        rw [List.length_append, List.length_singleton]
        exact hr.kept hs (fun j hj => by simp; exact (s5 j (.inl hj)).2)
      rs := h.rs.kept h14 (fun j hj hm => by simp at hm; exact hm.elim (h.new j (.inr (.inl hj))).2 (fun h1 => h.d1 j h1 hj))
      rr := h.rr.kept h14 (fun j hj hm => by simp at hm; exact hm.elim (h.new j (.inr (.inr hj))).2 (fun h1 => h.d2 j h1 hj))
      words := hw
      sets := s3
      reds := s4
      new := s5
      d1 := fun k hk hk2 => (hb k hk).elim (fun h1 => h.d1 k h1 hk2) (fun h1 => by have := hlt k hk2; omega)
      d2 := fun k hk hk2 => (hb k hk).elim (fun h1 => h.d2 k h1 hk2) (fun h1 => by have := hlt2 k hk2; omega)
      d3 := h.d3
      nb0 := h.nb0
      few := ⟨by rw [List.length_append, List.length_singleton]; omega, h.few.2⟩ }

theorem CmdR.addR (h : CmdR w pb a c ts vs ln nb q deep cm wv sv rv wx sx rx w1) {p : List Lx.Part} {k0 : Int} {u v' : Value} (hn : WordIn w1 (TB (.slice a ts.length c) vs) 0 u p) (h12 : Chg [] w1 w2) (hr : Row w3 84 2 v' (cm.reds.length + 1) (rx ++ [.int .i64 k0, u]))
    (h23 : Chg (rowBlock rv) w2 w3) (hb : ∀ k ∈ rowBlock v', k ∈ rowBlock rv ∨ w1.heap.size ≤ k) (hf : cm.reds.length ≤ q) : CmdR w pb a c ts vs ln nb q deep { cm with reds := cm.reds ++ [⟨k0, p⟩] } wv sv v' wx sx (rx ++ [.int .i64 k0, u]) (w3.setCell ⟨nb, 5, none⟩ v') := by
  have h13 : Chg (rowBlock rv) w1 w3 := (h12.mono (by simp)).trans h23 (fun x hx => .inl hx)
  have h14 : Chg (nb :: rowBlock rv) w1 (w3.setCell ⟨nb, 5, none⟩ v') := (h13.mono (fun x hx => .inl (by simp [hx]))).setCell _ _ (.inl (by simp))
  obtain ⟨s1, s2, s3, s4, s5⟩ := h.stay (wv' := wv) (sv' := sv) (rv' := v') (fun k hk => by simp at hk; exact hk.imp id (fun h => .inr (.inr h))) h14 (fun k hk => by
    rcases hk with h1 | h1 | h1
    · exact .inl (.inl h1)
    · exact .inl (.inr (.inl h1))
    · exact (hb k h1).imp (fun h => .inr (.inr h)) id)
  have hs : Chg [nb] w3 (w3.setCell ⟨nb, 5, none⟩ v') := (Chg.refl [nb] w3).setCell _ _ (.inl (by simp))
  have hlt := fun k hk => Row.block_lt h.rs k hk
  have hlt2 := fun k hk => Row.block_lt h.rw k hk
  have hw := RedsAt.kept h14 (fun j hj hT => by
    have := h.base.old.2 j hT
    simp at hj
    rcases hj with rfl | hj
    · have := h.nb0; omega
    · have := (h.new j (.inr (.inr hj))).1; omega) (RedsAt.snoc (r := ⟨k0, p⟩) h.reds hn)
  exact
    { base := s1
      nd := obj_setCell (h13.obj h.nd (fun hj => (h.new _ (.inr (.inr hj))).2 rfl)) 5 v'
      rr := by
        rw [List.length_append, List.length_singleton]
        exact hr.kept hs (fun j hj => by simp; exact (s5 j (.inr (.inr hj))).2)
      rs := h.rs.kept h14 (fun j hj hm => by simp at hm; exact hm.elim (h.new j (.inr (.inl hj))).2 (fun h1 => h.d3 j hj h1))
      rw := h.rw.kept h14 (fun j hj hm => by simp at hm; exact hm.elim (h.new j (.inl hj)).2 (fun h1 => h.d2 j hj h1))
      words := s2
      sets := s3
      reds := hw
      new := s5
      d1 := h.d1
      d2 := fun k hk hk2 => (hb k hk2).elim (fun h1 => h.d2 k hk h1) (fun h1 => by have := hlt2 k hk; omega)
      d3 := fun k hk hk2 => (hb k hk2).elim (fun h1 => h.d3 k hk h1) (fun h1 => by have := hlt k hk; omega)
      nb0 := h.nb0
      few := ⟨h.few.1, h.few.2.1, by rw [List.length_append, List.length_singleton]; omega⟩ }

theorem CmdR.addS (h : CmdR w pb a c ts vs ln nb q deep cm wv sv rv wx sx rx w1) {s : Ps.SetP} {u v' : Value} {off : Nat} (hn : WordIn w1 (Sc (.slice a ts.length c) vs w.heap.size w1.heap.size nb wv sv rv) off u s.word) (h12 : Chg [] w1 w2) (hr : Row w3 80 2 v' (cm.sets.length + 1) (sx ++ [.string (Lx.strB s.name), u]))
    (h23 : Chg (rowBlock sv) w2 w3) (hb : ∀ k ∈ rowBlock v', k ∈ rowBlock sv ∨ w1.heap.size ≤ k) (hf : cm.sets.length ≤ q) : CmdR w pb a c ts vs ln nb q deep { cm with sets := cm.sets ++ [s] } wv v' rv wx (sx ++ [.string (Lx.strB s.name), u]) rx (w3.setCell ⟨nb, 4, none⟩ v') := by
  have h13 : Chg (rowBlock sv) w1 w3 := (h12.mono (by simp)).trans h23 (fun x hx => .inl hx)
  have h14 : Chg (nb :: rowBlock sv) w1 (w3.setCell ⟨nb, 4, none⟩ v') := (h13.mono (fun x hx => .inl (by simp [hx]))).setCell _ _ (.inl (by simp))
  have h' : CmdR w pb a c ts vs ln nb q deep cm wv sv rv wx sx rx w1 := h
  obtain ⟨s1, s2, s3, s4, s5⟩ := h.stay (wv' := wv) (sv' := v') (rv' := rv) (fun k hk => by simp at hk; exact hk.imp id (fun h => .inr (.inl h))) h14 (fun k hk => by
    rcases hk with h1 | h1 | h1
    · exact .inl (.inl h1)
    · exact (hb k h1).imp (fun h => .inr (.inl h)) id
    · exact .inl (.inr (.inr h1)))
  have hs : Chg [nb] w3 (w3.setCell ⟨nb, 4, none⟩ v') := (Chg.refl [nb] w3).setCell _ _ (.inl (by simp))
  have hlt := fun k hk => Row.block_lt h.rw k hk
  have hlt2 := fun k hk => Row.block_lt h.rr k hk
  have hF : ∀ j ∈ nb :: rowBlock sv, ¬ Sc (.slice a ts.length c) vs w.heap.size w1.heap.size nb wv sv rv j := fun j hj hS => by
    simp at hj
    rcases hS with h3 | h3
    · have := h.base.old.2 j h3
      rcases hj with rfl | hj
      · have := h.nb0; omega
      · have := (h.new j (.inr (.inl hj))).1; omega
    · exact hj.elim h3.2.2.1 h3.2.2.2.2.1
  have hw := SetsAt.mono (S' := Sc (.slice a ts.length c) vs w.heap.size (w3.setCell ⟨nb, 4, none⟩ v').heap.size nb wv v' rv) (fun j hj => hj.imp id (fun h3 => ⟨h3.1, Nat.lt_of_lt_of_le h3.2.1 h14.size, h3.2.2.1, h3.2.2.2.1, fun h4 => (hb j h4).elim h3.2.2.2.2.1 (fun h5 => by omega), h3.2.2.2.2.2⟩)) (SetsAt.kept h14 hF (SetsAt.snoc h.sets hn))
  exact
    { base := s1
      nd := obj_setCell (h13.obj h.nd (fun hj => (h.new _ (.inr (.inl hj))).2 rfl)) 4 v'
      rs := by
        rw [List.length_append, List.length_singleton]
        exact hr.kept hs (fun j hj => by simp; exact (s5 j (.inr (.inl hj))).2)
      rw := h.rw.kept h14 (fun j hj hm => by simp at hm; exact hm.elim (h.new j (.inl hj)).2 (fun h1 => h.d1 j hj h1))
      rr := h.rr.kept h14 (fun j hj hm => by simp at hm; exact hm.elim (h.new j (.inr (.inr hj))).2 (fun h1 => h.d3 j h1 hj))
      words := s2
      sets := hw
      reds := s4
      new := s5
      d1 := fun k hk hk2 => (hb k hk2).elim (fun h1 => h.d1 k hk h1) (fun h1 => by have := hlt k hk; omega)
      d2 := h.d2
      d3 := fun k hk hk2 => (hb k hk).elim (fun h1 => h.d3 k h1 hk2) (fun h1 => by have := hlt2 k hk2; omega)
      nb0 := h.nb0
      few := ⟨h.few.1, by rw [List.length_append, List.length_singleton]; omega, h.few.2.2⟩ }

/-- a command at its end. -/
theorem CmdR.fin {wa sa ra : Option Addr} {wn wc sn sc rn rc : Nat} (h : CmdR w pb a c ts vs ln nb q deep cm (.slice wa wn wc) (.slice sa sn sc) (.slice ra rn rc) wx sx rx wr) (h1 : wn = cm.words.length) (h2 : sn = cm.sets.length) (h3 : rn = cm.reds.length) (hc : Chg [w.heap.size, nb] wr w') :
    SPost w pb a c ts vs ln (.ok q deep, some (.mk 5 [] [] cm.words cm.sets cm.reds)) (.returned (.agg #[.int .i64 5, .slice none 0 0, .string ⟨#[]⟩, .slice wa wn wc, .slice sa sn sc, .slice ra rn rc])) w' := by
  subst h1 h2 h3
  have hnb := h.nb0
  have hsz := hc.size
  have hmem : ∀ j ∈ [w.heap.size, nb], w.heap.size ≤ j := fun j hj => by
    simp only [List.mem_cons, List.not_mem_nil, or_false] at hj
    omega
  have ht : ∀ j ∈ [w.heap.size, nb], ¬ TB (.slice a ts.length c) vs j := fun j hj hT => by have := hmem j hj; have := h.base.old.2 j hT; omega
  have hne : ∀ k, k ∈ rowBlock (.slice wa cm.words.length wc) ∨ k ∈ rowBlock (.slice sa cm.sets.length sc) ∨ k ∈ rowBlock (.slice ra cm.reds.length rc) → k ∉ [w.heap.size, nb] := fun k hk hm => by
    have := h.new k hk
    simp only [List.mem_cons, List.not_mem_nil, or_false] at hm
    omega
  have hin : ∀ {v : Value} {E : TypeId} {sz n : Nat} {xs : List Value}, Row wr E sz v n xs → (∀ j ∈ rowBlock v, w.heap.size < j) → ∀ j ∈ rowBlock v, Sn (.slice a ts.length c) vs w.heap.size w'.heap.size j := fun hr hl j hj => .inr ⟨by have := hl j hj; omega, by have := Row.block_lt hr j hj; omega⟩
  refine ⟨[.int .i64 5, .slice none 0 0, .string ⟨#[]⟩, .slice wa cm.words.length wc, .slice sa cm.sets.length sc, .slice ra cm.reds.length rc], ⟨5, [], none, wa, sa, ra, 0, 0, _, _, _, _, _, _, rfl⟩, rfl, h.base.chg.trans hc (fun x hx => .inr (hmem x hx)), h.base.ps.chg hc (fun j hj => ?_), fun n hn => ?_⟩
  · exact ⟨by have := hmem j hj; have := h.base.old.1; omega, ht j hj⟩
  · cases hn
    unfold NodeAt
    refine ⟨_, _, _, _, [], wx, sx, rx, rfl, Sl.nil _ _ _ _, by unfold NodesAt; rfl, Row.sl (h.rw.kept hc (fun j hj => hne j (.inl hj))) (fun j hj => hin h.rw (fun j hj => (h.new j (.inl hj)).1) j hj),
      WordsAt.mono (fun j hj => .inl hj) (WordsAt.kept hc ht h.words),
      Row.sl (h.rs.kept hc (fun j hj => hne j (.inr (.inl hj)))) (fun j hj => hin h.rs (fun j hj => (h.new j (.inr (.inl hj))).1) j hj),
      SetsAt.mono (fun j hj => hj.imp id (fun h4 => ⟨by omega, by omega⟩)) (SetsAt.kept hc (fun j hj hS => by
        rcases hS with h4 | h4
        · exact ht j hj h4
        · simp only [List.mem_cons, List.not_mem_nil, or_false] at hj
          omega) h.sets),
      Row.sl (h.rr.kept hc (fun j hj => hne j (.inr (.inr hj)))) (fun j hj => hin h.rr (fun j hj => (h.new j (.inr (.inr hj))).1) j hj),
      RedsAt.mono (fun j hj => .inl hj) (RedsAt.kept hc ht h.reds)⟩
end

theorem Tryd.infoRedR : (Tryd.prog.info? 84).map (fun i => (i.zero, i.size, i.bytes)) = some (some (.agg #[.int .i64 0, .slice none 0 0]), 2, 32) := by kernel_rfl
theorem Tryd.infoWordR : (Tryd.prog.info? 78).map (fun i => (i.zero, i.size, i.bytes)) = some (some (.slice none 0 0), 1, 24) := by kernel_rfl

end Go.Proofs.YtfgbbmnmblchiaaDoor

namespace Go.Proofs.YtfgbbmnmblchiaaDoor
open Go.RowKit
set_option linter.unusedVariables false

/-- a 'for' under way: the node's block behind the result's. -/
structure WR (w : World) (pb : Nat) (a : Option Addr) (c : Nat) (ts : List Lx.Tok) (vs : List Value) (ln nb : Nat) (st : St) (kv : Value) (nm : List UInt8) (ps : List (List Lx.Part)) (wv : Value) (xs : List Value) (wr : World) : Prop where
  rs : RS wr pb a c ts vs ln st
  nd : wr.heap[nb]? = some (.cells #[.int .i64 8, kv, .string (Lx.strB nm), wv, .slice none 0 0, .slice none 0 0] 42 (0, 0))
  rb : wr.heap[w.heap.size]? = some (.cells (nodeC 0 (.slice none 0 0)) 42 (0, 0))
  row : Row wr 78 1 wv ps.length xs
  words : WordsAt wr (TB (.slice a ts.length c) vs) ps xs
  new : ∀ k ∈ rowBlock wv, w.heap.size < k ∧ k ≠ nb
  nb0 : w.heap.size < nb
  chg : Chg [pb] w wr
  old : pb < w.heap.size ∧ ∀ k, TB (.slice a ts.length c) vs k → k < w.heap.size

section
variable {w wr w' : World} {pb : Nat} {a : Option Addr} {c : Nat} {ts : List Lx.Tok} {vs : List Value} {ln nb : Nat} {st : St} {kv : Value} {nm : List UInt8} {ps : List (List Lx.Part)} {wv : Value} {xs : List Value}

theorem WR.call (h : WR w pb a c ts vs ln nb st kv nm ps wv xs wr) (hc : Chg [pb] wr w') {st' : St} (hr : RS w' pb a c ts vs ln st') : WR w pb a c ts vs ln nb st' kv nm ps wv xs w' :=
  { h with
    rs := hr
    nd := hc.obj h.nd (by have := h.old.1; have := h.nb0; simp; omega)
    rb := hc.obj h.rb (by have := h.old.1; simp; omega)
    row := h.row.kept hc (fun k hk => by have := h.new k hk; have := h.old.1; simp; omega)
    words := WordsAt.kept hc (fun k hk => by simp at hk; subst hk; exact h.rs.out) h.words
    chg := h.chg.trans hc (fun x hx => .inl hx) }
theorem WR.kept0 (h : WR w pb a c ts vs ln nb st kv nm ps wv xs wr) (hc : Chg [] wr w') : WR w pb a c ts vs ln nb st kv nm ps wv xs w' := h.call (hc.mono (by simp)) (h.rs.chg0 hc)
theorem WR.own (h : WR w pb a c ts vs ln nb st kv nm ps wv xs wr) {F : List Nat} (hc : Chg F wr w') (hF : ∀ k ∈ F, w.heap.size < k) : RS w' pb a c ts vs ln st ∧ w'.heap[w.heap.size]? = some (.cells (nodeC 0 (.slice none 0 0)) 42 (0, 0)) ∧ WordsAt w' (TB (.slice a ts.length c) vs) ps xs ∧ Chg [pb] w w' := by
  have ho := h.old
  exact ⟨h.rs.chg hc (fun k hk => by have := hF k hk; exact ⟨by omega, fun ht => by have := ho.2 k ht; omega⟩), hc.obj h.rb (fun hk => by have := hF _ hk; omega), WordsAt.kept hc (fun k hk ht => by have := hF k hk; have := ho.2 k ht; omega) h.words, h.chg.trans hc (fun x hx => .inr (by have := hF x hx; omega))⟩
theorem WR.setName (h : WR w pb a c ts vs ln nb st kv nm ps wv xs wr) (s : List UInt8) : WR w pb a c ts vs ln nb st kv s ps wv xs (wr.setCell ⟨nb, 2, none⟩ (.string (Lx.strB s))) := by
  have hc : Chg [nb] wr (wr.setCell ⟨nb, 2, none⟩ (.string (Lx.strB s))) := (Chg.refl _ _).setCell _ _ (.inl (by simp))
  obtain ⟨h1, h2, h3, h4⟩ := h.own hc (by have := h.nb0; simpa using this)
  exact { rs := h1, nd := obj_setCell h.nd 2 _, rb := h2, row := h.row.kept hc (fun k hk => by have := h.new k hk; simp; omega), words := h3, new := h.new, nb0 := h.nb0, chg := h4, old := h.old }
theorem WR.setKids (h : WR w pb a c ts vs ln nb st kv nm ps wv xs wr) (kb : Nat) : WR w pb a c ts vs ln nb st (.slice (some ⟨kb, 0, none⟩) 1 1) nm ps wv xs (wr.setCell ⟨nb, 1, none⟩ (.slice (some ⟨kb, 0, none⟩) 1 1)) := by
  have hc : Chg [nb] wr (wr.setCell ⟨nb, 1, none⟩ (.slice (some ⟨kb, 0, none⟩) 1 1)) := (Chg.refl _ _).setCell _ _ (.inl (by simp))
  obtain ⟨h1, h2, h3, h4⟩ := h.own hc (by have := h.nb0; simpa using this)
  exact { rs := h1, nd := obj_setCell h.nd 1 _, rb := h2, row := h.row.kept hc (fun k hk => by have := h.new k hk; simp; omega), words := h3, new := h.new, nb0 := h.nb0, chg := h4, old := h.old }
/-- one word more. -/
theorem WR.add {w1 w2 w3 : World} (h : WR w pb a c ts vs ln nb st kv nm ps wv xs w1) {p : List Lx.Part} {u v' : Value} (hn : WordIn w1 (TB (.slice a ts.length c) vs) 0 u p) (h12 : Chg [] w1 w2) (hr : Row w3 78 1 v' (ps.length + 1) (xs ++ [u])) (h23 : Chg (rowBlock wv) w2 w3)
    (hb : ∀ k ∈ rowBlock v', k ∈ rowBlock wv ∨ w1.heap.size ≤ k) : WR w pb a c ts vs ln nb st kv nm (ps ++ [p]) v' (xs ++ [u]) (w3.setCell ⟨nb, 3, none⟩ v') := by
  have h13 : Chg (rowBlock wv) w1 w3 := (h12.mono (by simp)).trans h23 (fun x hx => .inl hx)
  have hs : Chg [nb] w3 (w3.setCell ⟨nb, 3, none⟩ v') := (Chg.refl _ _).setCell _ _ (.inl (by simp))
  have h14 : Chg ((nb) :: rowBlock wv) w1 (w3.setCell ⟨nb, 3, none⟩ v') := (h13.mono (fun x hx => .inl (by simp [hx]))).setCell _ _ (.inl (by simp))
  have hF : ∀ k ∈ (nb) :: rowBlock wv, w.heap.size < k := fun k hk => by
    rcases List.mem_cons.1 hk with rfl | hk
    · exact h.nb0
    · have := h.new k hk; omega
  obtain ⟨h1, h2, h3, h4⟩ := h.own h14 hF
  have hl := lt_of_obj h.nd
  have n2 : ∀ k ∈ rowBlock v', w.heap.size < k ∧ k ≠ nb := fun k hk => by
    rcases hb k hk with h5 | h5
    · exact h.new k h5
    · have := h.nb0; omega
  exact
    { rs := h1
      nd := obj_setCell (h13.obj h.nd (fun hk => by have := h.new _ hk; omega)) 3 v'
      rb := h2
      row := by
        rw [List.length_append, List.length_singleton]
        exact hr.kept hs (fun k hk => by have := n2 k hk; simp; omega)
      words := WordsAt.kept h14 (fun k hk ht => by have := hF k hk; have := h.old.2 k ht; omega) (WordsAt.snoc h.words hn)
      new := n2
      nb0 := h.nb0
      chg := h4
      old := h.old }
theorem WR.start (h : RS w pb a c ts vs ln st) {w1 : World} (hc : Chg [pb] (w.alloc (.cells (nodeC 0 (.slice none 0 0)) 42)) w1) {st' : St} (hr : RS w1 pb a c ts vs ln st') :
    WR w pb a c ts vs ln w1.heap.size st' (.slice none 0 0) [] [] (.slice none 0 0) [] (w1.alloc (.cells (nodeC 8 (.slice none 0 0)) 42)) where
  rs := hr.chg0 ((Chg.refl [] _).alloc _)
  nd := obj_alloc_new _ _
  rb := obj_alloc_old (hc.obj (obj_alloc_new w _) (by have := h.lt; simp; omega)) _
  row := Row.nil _ _ _ _
  words := rfl
  new := by simp [rowBlock]
  nb0 := by have := hc.size; simp at this; omega
  chg := (((Chg.refl [pb] w).alloc _).trans hc (fun x hx => .inl hx)).alloc _
  old := ⟨h.lt, h.tb_lt⟩

/-- at the end: what stands in the node, in the result's block. -/
theorem WR.fin {ka wa : Option Addr} {kn kc wn wc : Nat} (h : WR w pb a c ts vs ln nb st (.slice ka kn kc) nm ps (.slice wa wn wc) xs wr) (hc : Chg [w.heap.size] wr w') {o : Option Ps.Node}
    (ho : ∀ n, o = some n → ∃ x cs kb, n = .mk 8 [x] nm ps [] [] ∧ ka = some ⟨kb, 0, none⟩ ∧ kn = 1 ∧ kc = 1 ∧ wr.heap[kb]? = some (.cells cs.toArray 42 (0, 0)) ∧ w.heap.size < kb ∧ NodeAt wr (Sn (.slice a ts.length c) vs (w.heap.size + 1) wr.heap.size) x cs) :
    SPost w pb a c ts vs ln (st, o) (.returned (.agg #[.int .i64 8, .slice ka kn kc, .string (Lx.strB nm), .slice wa wn wc, .slice none 0 0, .slice none 0 0])) w' := by
  have hsz := hc.size
  have hold := h.old
  refine ⟨[.int .i64 8, .slice ka kn kc, .string (Lx.strB nm), .slice wa wn wc, .slice none 0 0, .slice none 0 0], ⟨8, nm, ka, wa, none, none, kn, kc, wn, wc, 0, 0, 0, 0, rfl⟩, rfl, h.chg.trans hc (fun x hx => .inr (by simp at hx; omega)), h.rs.chg hc (fun j hj => by simp at hj; subst hj; exact ⟨by omega, fun ht => by have := hold.2 _ ht; omega⟩), fun n hn => ?_⟩
  obtain ⟨x, cs, kb, rfl, rfl, rfl, rfl, hkb, hk, hx⟩ := ho n hn
  have hwl : wn = ps.length := by obtain ⟨_, _, hv, _⟩ := h.row.shape; cases hv; rfl
  subst hwl
  have hone := hx.one.1
  have hrow : Row w' 42 6 (.slice (some ⟨kb, 0, none⟩) 1 1) 1 cs := Row.new (hc.obj hkb (by simp; omega)) hone (by decide) (by decide)
  have hN : NodeAt w' (Sn (.slice a ts.length c) vs w.heap.size w'.heap.size) x cs := by
    refine NodeAt.mono (fun j hj => hj.imp id (fun h => ⟨by omega, by omega⟩)) _ _ (NodeAt.kept hc (fun j hj hS => ?_) _ _ hx)
    simp at hj; subst hj
    rcases hS with h2 | h2
    · have := hold.2 _ h2; omega
    · omega
  unfold NodeAt
  refine ⟨_, _, _, _, cs, xs, [], [], rfl, Row.sl hrow (fun j hj => ?_), NodesAt.of1 hN, Row.sl (h.row.kept hc (fun j hj => by have := h.new j hj; simp; omega)) (fun j hj => .inr ⟨by have := h.new j hj; omega, by have := Row.block_lt h.row j hj; omega⟩), WordsAt.mono (fun j hj => .inl hj) (WordsAt.kept hc (fun j hj hS => by simp at hj; subst hj; have := hold.2 _ hS; omega) h.words), Sl.nil _ _ _ _, rfl, Sl.nil _ _ _ _, rfl⟩
  have hj2 : j = kb := by
    simp only [rowBlock] at hj
    split at hj
    · simp at hj
    · simpa using hj
  subst hj2
  exact .inr ⟨by omega, by have := lt_of_obj hkb; omega⟩
end

/-- behind the words of a 'for': an end must stand there. -/
def St.endsMust (ts : List Lx.Tok) (ln : Nat) : St → St
  | .bad e t => .bad e t
  | .ok q d => if Ps.isT ts q 3 [] = true then .ok (Ps.endsP ts q) d else .bad 10 (posR ts ln q)
def St.wordsEnd (ts : List Lx.Tok) : St → St
  | .bad e t => .bad e t
  | .ok q d => .ok (q + (Ps.wordsAt ts q).length) d
def St.wordsOf (ts : List Lx.Tok) : St → List (List Lx.Part)
  | .bad _ _ => []
  | .ok q _ => Ps.wordsAt ts q

theorem eachS (ts : List Lx.Tok) (ln deep : Nat) (cmd : Nat → Ps.Res Ps.Node) (p : Nat) (t : Lx.Tok) (ht : ts[p]? = some t) (hk : t.kind = 1) (hn : Lx.isName t.text = true) (s2 : St) (hs2 : (St.ok (p + 1) (deep + 1)).need ts ln 1 Ps.kwIn = s2) (T : St × Option Ps.Node)
    (hT : (((s2.wordsEnd ts).endsMust ts ln).need ts ln 1 Ps.kwDo).step ts ln (listQ ts cmd true) = T) :
    ∃ o, toS ts ln deep (Ps.eachP ts cmd p) = ((T.1.need ts ln 1 Ps.kwDone).up, o) ∧ ∀ n, o = some n → ∃ x, T.2 = some x ∧ n = .mk 8 [x] t.text (s2.wordsOf ts) [] [] := by
  have bad : ∀ {e : Int} {b : Nat}, Ps.eachP ts cmd p = .bad e b → ∃ o, toS ts ln deep (Ps.eachP ts cmd p) = ((St.bad e (posR ts ln b)).up, o) ∧ ∀ n, o = some n → ∃ x, T.2 = some x ∧ n = .mk 8 [x] t.text (s2.wordsOf ts) [] [] := fun h => by
    rw [h]
    exact ⟨none, rfl, fun n h => by cases h⟩
  cases hb : Ps.isT ts (p + 1) 1 Ps.kwIn with
  | false =>
    obtain ⟨e1, e2⟩ := need_no (ln := ln) (d := deep + 1) hb
    rw [e1] at hs2
    subst hs2
    subst hT
    exact bad (eachP_3 ht hk hn e2)
  | true =>
    obtain ⟨e1, e2⟩ := need_yes (ln := ln) (d := deep + 1) hb
    rw [e1] at hs2
    subst hs2
    generalize p + 1 + 1 = q at *
    obtain ⟨r, hr⟩ : ∃ r, q + (Ps.wordsAt ts q).length = r := ⟨_, rfl⟩
    have hw : (St.ok q (deep + 1)).wordsEnd ts = .ok r (deep + 1) := by rw [← hr]; rfl
    rw [hw] at hT
    cases hb3 : Ps.isT ts r 3 [] with
    | false =>
      have h3 : (St.ok r (deep + 1)).endsMust ts ln = .bad 10 (posR ts ln r) := by simp [St.endsMust, hb3]
      rw [h3] at hT
      subst hT
      exact bad (eachP_4 ht hk hn e2 (by rw [hr]; unfold Ps.wantP; rw [if_neg (by rw [hb3]; decide)]))
    | true =>
      have h3 : (St.ok r (deep + 1)).endsMust ts ln = .ok (Ps.endsP ts (r + 1)) (deep + 1) := by simp [St.endsMust, hb3, endsP_next hb3]
      have h3b : Ps.wantP ts (q + (Ps.wordsAt ts q).length) 3 [] = .ok () (r + 1) := by rw [hr]; unfold Ps.wantP; rw [if_pos hb3]
      rw [h3] at hT
      obtain ⟨b, hb5⟩ : ∃ b, Ps.endsP ts (r + 1) = b := ⟨_, rfl⟩
      rw [hb5] at hT
      have body : ∀ {R : Ps.Res Ps.Node}, Ps.bodyP ts cmd b = R → Ps.bodyP ts cmd (Ps.endsP ts (r + 1)) = R := fun h => by rw [hb5]; exact h
      cases hb4 : Ps.isT ts b 1 Ps.kwDo with
      | false =>
        obtain ⟨f1, f2⟩ := need_no (ln := ln) (d := deep + 1) hb4
        rw [f1] at hT
        subst hT
        exact bad (eachP_5 ht hk hn e2 h3b (body (bodyP_bad f2)))
      | true =>
        obtain ⟨f1, f2⟩ := need_yes (ln := ln) (d := deep + 1) hb4
        rw [f1] at hT
        rcases list_cases ts ln (deep + 1) cmd (b + 1) with ⟨e, b2, g1, g2⟩ | ⟨m, b2, g1, g2⟩
        · rw [g2] at hT
          subst hT
          exact bad (eachP_5 ht hk hn e2 h3b (body (bodyQ_bad f2 g1)))
        · rw [g2] at hT
          subst hT
          have g3 := (listQ_of g1).1
          cases hb6 : Ps.isT ts b2 1 Ps.kwDone with
          | false =>
            obtain ⟨k1, k2⟩ := need_no (ln := ln) (d := deep + 1) hb6
            rw [k1]
            exact bad (eachP_5 ht hk hn e2 h3b (body (bodyP_bad3 f2 g3 k2)))
          | true =>
            obtain ⟨k1, k2⟩ := need_yes (ln := ln) (d := deep + 1) hb6
            rw [k1, eachP_6 ht hk hn e2 h3b (body (bodyP_ok f2 g3 k2))]
            exact ⟨some _, rfl, fun n h => by cases h; exact ⟨m, rfl, rfl⟩⟩

end Go.Proofs.YtfgbbmnmblchiaaDoor
