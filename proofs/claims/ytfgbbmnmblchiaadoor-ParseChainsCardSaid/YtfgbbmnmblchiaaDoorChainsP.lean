/-
  ParseChains' texts: their tokens, and what reading them says, plain.
-/
import Derived.Test.YtfgbbmnmblchiaaDoorCmd
import Derived.Test.YtfgbbmnmblchiaaDoorGood
namespace Go.Proofs.YtfgbbmnmblchiaaDoor
open Lx (Tok Part)
set_option linter.unusedVariables false

def letC (i : Nat) : UInt8 := UInt8.ofNat (97 + i)
/-- a command's name. -/
def nmC (j : Nat) : List UInt8 := if j = 0 then [99, 48] else [99, letC (j - 1)]
/-- a sign with its blanks. -/
def sgC (k : Nat) : List UInt8 := if k = 0 then [32, 59, 32] else if k = 1 then [32, 38, 38, 32] else if k = 2 then [32, 124, 124, 32] else [32, 124, 32]
/-- from command j on, m signs. -/
def segC (ks : List Nat) (j : Nat) : Nat → List UInt8
  | 0 => nmC j
  | m + 1 => segC ks j m ++ sgC (ks.getD (j + m) 0) ++ nmC (j + m + 1)

theorem segC_append (ks : List Nat) (j m : Nat) : ∀ m2, segC ks j m ++ sgC (ks.getD (j + m) 0) ++ segC ks (j + m + 1) m2 = segC ks j (m + 1 + m2)
  | 0 => rfl
  | m2 + 1 => by
    have ih := segC_append ks j m m2
    show _ ++ (segC ks (j + m + 1) m2 ++ sgC (ks.getD (j + m + 1 + m2) 0) ++ nmC (j + m + 1 + m2 + 1)) = segC ks j (m + 1 + m2) ++ sgC (ks.getD (j + (m + 1 + m2)) 0) ++ nmC (j + (m + 1 + m2) + 1)
    rw [← ih, show j + (m + 1 + m2) = j + m + 1 + m2 from by omega]
    simp

/-- texts put together, a sign between. -/
def jnC (sep : List UInt8) (l : List (List UInt8)) : Nat → List UInt8
  | 0 => []
  | i + 1 => jnC sep l i ++ (if 0 < i then sep else []) ++ l.getD i []

theorem jnC_append (sep : List UInt8) (l x : List (List UInt8)) : ∀ i, i ≤ l.length → jnC sep (l ++ x) i = jnC sep l i
  | 0, _ => rfl
  | i + 1, h => by
    unfold jnC
    rw [jnC_append sep l x i (by omega)]
    congr 1
    rw [List.getD_eq_getElem?_getD, List.getD_eq_getElem?_getD, List.getElem?_append_left (by omega)]
theorem jnC_snoc (sep : List UInt8) (l : List (List UInt8)) (t : List UInt8) : jnC sep (l ++ [t]) (l ++ [t]).length = jnC sep l l.length ++ (if 0 < l.length then sep else []) ++ t := by
  rw [List.length_append, List.length_singleton]
  show jnC sep (l ++ [t]) l.length ++ _ ++ _ = _
  rw [jnC_append sep l [t] l.length (Nat.le_refl _)]
  congr 1
  rw [List.getD_eq_getElem?_getD, List.getElem?_append_right (Nat.le_refl _)]
  simp

def cmdC (x : List UInt8) : Ps.Node := .mk 5 [] [] [[⟨1, x⟩]] [] []

/-- what a tree shows as. -/
inductive Sh : Ps.Node → List UInt8 → Prop
  | cmd (x : List UInt8) : Sh (cmdC x) x
  | pipe (l : List (List UInt8)) : Sh (Ps.node 4 (l.map cmdC)) (jnC [32, 124, 32] l l.length)
  | and_ {a b : Ps.Node} {s t : List UInt8} : Sh a s → Sh b t → b.kind ≠ 2 → b.kind ≠ 3 → Sh (Ps.node 2 [a, b]) (s ++ [32, 38, 38, 32] ++ t)
  | or_ {a b : Ps.Node} {s t : List UInt8} : Sh a s → Sh b t → b.kind ≠ 2 → b.kind ≠ 3 → Sh (Ps.node 3 [a, b]) (s ++ [32, 124, 124, 32] ++ t)

/-- the tokens of such a text. -/
structure TS (ts : List Tok) (ks : List Nat) : Prop where
  len : ts.length = 2 * ks.length + 1
  w : ∀ j, j ≤ ks.length → ∃ t, ts[2 * j]? = some t ∧ t.kind = 1 ∧ t.text = nmC j ∧ t.parts = [⟨1, nmC j⟩]
  s : ∀ (j k : Nat), ks[j]? = some k → ∃ t, ts[2 * j + 1]? = some t ∧ ((k = 0 ∧ t.kind = 3 ∧ t.text = [59]) ∨ (k = 1 ∧ t.kind = 2 ∧ t.text = [38, 38]) ∨ (k = 2 ∧ t.kind = 2 ∧ t.text = [124, 124]) ∨ (k = 3 ∧ t.kind = 2 ∧ t.text = [124]))
  few : ks.length ≤ 12

theorem nmC_facts (j : Nat) (hj : j ≤ 12) : Ps.closers.contains (nmC j) = false ∧ Ps.readK (nmC j) = 0 ∧ Lx.idx 61 (nmC j) = none := by
  rcases (show j = 0 ∨ j = 1 ∨ j = 2 ∨ j = 3 ∨ j = 4 ∨ j = 5 ∨ j = 6 ∨ j = 7 ∨ j = 8 ∨ j = 9 ∨ j = 10 ∨ j = 11 ∨ j = 12 from by omega) with rfl | rfl | rfl | rfl | rfl | rfl | rfl | rfl | rfl | rfl | rfl | rfl | rfl <;> decide

section
variable {ts : List Tok} {ks : List Nat}
theorem TS.w3 (h : TS ts ks) {j : Nat} (hj : j ≤ ks.length) : Ps.isT ts (2 * j) 3 [] = false := by
  obtain ⟨t, ht, h1, h2, h3⟩ := h.w j hj
  rw [isT_some ht, h1]
  rfl
theorem TS.wc (h : TS ts ks) {j : Nat} (hj : j ≤ ks.length) : Ps.closing ts (2 * j) = false := by
  obtain ⟨t, ht, h1, h2, h3⟩ := h.w j hj
  rw [closing_some ht, h1, h2, (nmC_facts j (by have := h.few; omega)).1]
  rfl
/-- the token behind a command. -/
theorem TS.after (h : TS ts ks) {j : Nat} (hj : j ≤ ks.length) : (ks[j]? = none ∧ j = ks.length ∧ ts[2 * j + 1]? = none) ∨ ∃ k t, ks[j]? = some k ∧ ts[2 * j + 1]? = some t ∧ ((k = 0 ∧ t.kind = 3 ∧ t.text = [59]) ∨ (k = 1 ∧ t.kind = 2 ∧ t.text = [38, 38]) ∨ (k = 2 ∧ t.kind = 2 ∧ t.text = [124, 124]) ∨ (k = 3 ∧ t.kind = 2 ∧ t.text = [124])) := by
  cases hk : ks[j]? with
  | none =>
    rw [List.getElem?_eq_none_iff] at hk
    exact .inl ⟨rfl, by omega, List.getElem?_eq_none (by rw [h.len]; omega)⟩
  | some k =>
    obtain ⟨t, ht, h1⟩ := h.s j k hk
    exact .inr ⟨k, t, rfl, ht, h1⟩
theorem TS.cmd (h : TS ts ks) (d : Nat) {j : Nat} (hj : j ≤ ks.length) : Ps.cmdP ts d (2 * j) = .ok (cmdC (nmC j)) (2 * j + 1) := by
  have hc := h.wc hj
  obtain ⟨t, ht, h1, h2, h3⟩ := h.w j hj
  have hf := nmC_facts j (by have := h.few; omega)
  have hr : Ps.readK t.text = 0 := by rw [h2]; exact hf.2.1
  rw [cmdP_simple hc ht hr]
  have hp : (⟨[], [], []⟩ : Ps.Cmd).put t = ⟨[[⟨1, nmC j⟩]], [], []⟩ := by
    unfold Ps.Cmd.put
    rw [setP_none (by rw [h2]; exact hf.2.2), h3]
    rfl
  have hl : Ps.simpleL ts (ts.length + 1) (2 * j) ⟨[], [], []⟩ = .ok ⟨[[⟨1, nmC j⟩]], [], []⟩ (2 * j + 1) := by
    rw [simpleL_word ht h1, hp, show ts.length = 2 * ks.length + 1 from h.len]
    rcases h.after hj with ⟨_, _, hn⟩ | ⟨k, u, hk, hu, hs⟩
    · exact simpleL_none hn
    · refine simpleL_stop hu ?_ ?_
      · rcases hs with ⟨_, a, b⟩ | ⟨_, a, b⟩ | ⟨_, a, b⟩ | ⟨_, a, b⟩ <;> rw [a, b] <;> decide
      · rcases hs with ⟨_, a, b⟩ | ⟨_, a, b⟩ | ⟨_, a, b⟩ | ⟨_, a, b⟩ <;> rw [a] <;> decide
  rw [simpleP_ok hl (by omega)]
  rfl
theorem TS.bar (h : TS ts ks) {j : Nat} (hj : j ≤ ks.length) : Ps.isT ts (2 * j + 1) 2 [124] = decide (ks[j]? = some 3) := by
  rcases h.after hj with ⟨hk, _, hn⟩ | ⟨k, u, hk, hu, hs⟩
  · rw [hk]
    unfold Ps.isT
    rw [hn]
    rfl
  · rw [hk, isT_some hu]
    rcases hs with ⟨rfl, a, b⟩ | ⟨rfl, a, b⟩ | ⟨rfl, a, b⟩ | ⟨rfl, a, b⟩ <;> rw [a, b] <;> decide
theorem TS.semi (h : TS ts ks) {j : Nat} (hj : j ≤ ks.length) : Ps.isT ts (2 * j + 1) 3 [] = decide (ks[j]? = some 0) := by
  rcases h.after hj with ⟨hk, _, hn⟩ | ⟨k, u, hk, hu, hs⟩
  · rw [hk]
    unfold Ps.isT
    rw [hn]
    rfl
  · rw [hk, isT_some hu]
    rcases hs with ⟨rfl, a, b⟩ | ⟨rfl, a, b⟩ | ⟨rfl, a, b⟩ | ⟨rfl, a, b⟩ <;> rw [a, b] <;> decide
theorem TS.link (h : TS ts ks) {j : Nat} (hj : j ≤ ks.length) : Ps.linkK ts (2 * j + 1) = if ks[j]? = some 1 then 2 else if ks[j]? = some 2 then 3 else 0 := by
  unfold Ps.linkK
  rcases h.after hj with ⟨hk, _, hn⟩ | ⟨k, u, hk, hu, hs⟩
  · rw [hk]
    unfold Ps.isT
    rw [hn]
    rfl
  · rw [hk, isT_some hu, isT_some hu]
    rcases hs with ⟨rfl, a, b⟩ | ⟨rfl, a, b⟩ | ⟨rfl, a, b⟩ | ⟨rfl, a, b⟩ <;> rw [a, b] <;> decide

/-- the names of m + 1 commands. -/
def nmsC (j m : Nat) : List (List UInt8) := (List.range (m + 1)).map fun i => nmC (j + i)
theorem nmsC_snoc (j m : Nat) : nmsC j (m + 1) = nmsC j m ++ [nmC (j + m + 1)] := by
  unfold nmsC
  rw [List.range_succ, List.map_append]
  rfl
theorem nmsC_cons (j m : Nat) : nmsC j (m + 1) = nmC j :: nmsC (j + 1) m := by
  unfold nmsC
  rw [List.range_succ_eq_map, List.map_cons, List.map_map]
  congr 1
  apply List.map_congr_left
  intro i _
  show nmC (j + (i + 1)) = nmC (j + 1 + i)
  congr 1
  omega
theorem nmsC_len (j m : Nat) : (nmsC j m).length = m + 1 := by simp [nmsC]

theorem nms_seg (j : Nat) : ∀ m, (∀ i, i < m → ks[j + i]? = some 3) → jnC [32, 124, 32] (nmsC j m) (nmsC j m).length = segC ks j m
  | 0, _ => by
    show [] ++ [] ++ nmC (j + 0) = nmC j
    simp
  | m + 1, h => by
    have ih := nms_seg j m (fun i hi => h i (by omega))
    rw [nmsC_snoc, jnC_snoc, ih, if_pos (by rw [nmsC_len]; omega)]
    show _ = segC ks j m ++ sgC (ks.getD (j + m) 0) ++ nmC (j + m + 1)
    rw [List.getD_eq_getElem?_getD, h m (by omega)]
    rfl

theorem TS.pipeL (h : TS ts ks) (d : Nat) : ∀ (f j : Nat) (acc : List Ps.Node), j ≤ ks.length → ks.length - j < f →
    ∃ m, j + m ≤ ks.length ∧ Ps.pipeL ts (Ps.cmdP ts d) f (2 * j) acc = .ok (acc ++ (nmsC j m).map cmdC) (2 * (j + m) + 1) ∧ ks[j + m]? ≠ some 3 ∧ ∀ i, i < m → ks[j + i]? = some 3
  | 0, j, acc, hj, hf => by omega
  | f + 1, j, acc, hj, hf => by
    by_cases hk : ks[j]? = some 3
    · have hb := h.bar hj
      rw [decide_eq_true hk] at hb
      have hlt := (List.getElem?_eq_some_iff.1 hk).1
      obtain ⟨m, h1, h2, h3, h4⟩ := TS.pipeL h d f (j + 1) (acc ++ [cmdC (nmC j)]) (by omega) (by omega)
      refine ⟨m + 1, by omega, ?_, by rw [show j + (m + 1) = j + 1 + m from by omega]; exact h3, fun i hi => ?_⟩
      · rw [pipeL_more (h.cmd d hj) hb, show 2 * j + 1 + 1 = 2 * (j + 1) from by omega, h2, nmsC_cons, show j + (m + 1) = j + 1 + m from by omega]
        simp
      · cases i with
        | zero => exact hk
        | succ i =>
          rw [show j + (i + 1) = j + 1 + i from by omega]
          exact h4 i (by omega)
    · have hb := h.bar hj
      rw [decide_eq_false hk] at hb
      refine ⟨0, by omega, ?_, hk, fun i hi => by omega⟩
      rw [pipeL_end (h.cmd d hj) hb]
      rfl

theorem TS.pipe (h : TS ts ks) (d : Nat) {j : Nat} (hj : j ≤ ks.length) :
    ∃ m n, j + m ≤ ks.length ∧ Ps.pipeP ts (Ps.cmdP ts d) (2 * j) = .ok n (2 * (j + m) + 1) ∧ ks[j + m]? ≠ some 3 ∧ Sh n (segC ks j m) ∧ n.kind ≠ 2 ∧ n.kind ≠ 3 := by
  obtain ⟨m, h1, h2, h3, h4⟩ := h.pipeL d (ts.length + 1) j [] hj (by rw [h.len]; omega)
  refine ⟨m, Ps.pipeN ((nmsC j m).map cmdC), h1, ?_, h3, ?_⟩
  · rw [pipeP_eq, h2]
    rfl
  · rw [← nms_seg j m h4]
    cases m with
    | zero =>
      have e : nmsC j 0 = [nmC j] := rfl
      rw [e]
      refine ⟨?_, ?_, ?_⟩
      · have := Sh.cmd (nmC j)
        show Sh (cmdC (nmC j)) ([] ++ [] ++ nmC j)
        simpa using this
      · show (5 : Int) ≠ 2; decide
      · show (5 : Int) ≠ 3; decide
    | succ m =>
      have e : Ps.pipeN ((nmsC j (m + 1)).map cmdC) = Ps.node 4 ((nmsC j (m + 1)).map cmdC) := by
        rw [nmsC_cons]
        cases m with
        | zero => rfl
        | succ m => rw [nmsC_cons]; rfl
      rw [e]
      refine ⟨Sh.pipe _, ?_, ?_⟩
      · show (4 : Int) ≠ 2; decide
      · show (4 : Int) ≠ 3; decide

theorem TS.ends (h : TS ts ks) {j : Nat} (hj : j ≤ ks.length) : Ps.endsP ts (2 * j) = 2 * j := endsP_here (h.w3 hj)

theorem TS.chainL (h : TS ts ks) (d : Nat) : ∀ (f j m : Nat) (n : Ps.Node), j + m ≤ ks.length → ks.length - (j + m) < f → Sh n (segC ks j m) → ks[j + m]? ≠ some 3 →
    ∃ m' n', m ≤ m' ∧ j + m' ≤ ks.length ∧ Ps.chainL ts (Ps.cmdP ts d) f (2 * (j + m) + 1) n = .ok n' (2 * (j + m') + 1) ∧ Sh n' (segC ks j m') ∧ (ks[j + m']? = some 0 ∨ ks[j + m']? = none)
  | 0, j, m, n, hj, hf, _, _ => by omega
  | f + 1, j, m, n, hj, hf, hs, h3 => by
    have hl := h.link hj
    have key : ∀ (q : Int), Ps.linkK ts (2 * (j + m) + 1) = q → q ≠ 0 → j + m < ks.length → (∀ (p : Ps.Node) (t : List UInt8), Sh p t → p.kind ≠ 2 → p.kind ≠ 3 → Sh (Ps.node q [n, p]) (segC ks j m ++ sgC (ks.getD (j + m) 0) ++ t)) →
        ∃ m' n', m ≤ m' ∧ j + m' ≤ ks.length ∧ Ps.chainL ts (Ps.cmdP ts d) (f + 1) (2 * (j + m) + 1) n = .ok n' (2 * (j + m') + 1) ∧ Sh n' (segC ks j m') ∧ (ks[j + m']? = some 0 ∨ ks[j + m']? = none) := fun q hq hq0 hlt hsh => by
      obtain ⟨m2, p, p1, p2, p3, p4, p5, p6⟩ := h.pipe d (j := j + m + 1) (by omega)
      have hn := hsh p _ p4 p5 p6
      rw [segC_append] at hn
      obtain ⟨m', n', c1, c2, c3, c4, c5⟩ := TS.chainL h d f j (m + 1 + m2) (Ps.node q [n, p]) (by omega) (by omega) hn (by rw [show j + (m + 1 + m2) = j + m + 1 + m2 from by omega]; exact p3)
      refine ⟨m', n', by omega, c2, ?_, c4, c5⟩
      rw [← c3]
      conv => lhs; unfold Ps.chainL
      rw [hq, if_neg hq0, show 2 * (j + m) + 1 + 1 = 2 * (j + m + 1) from by omega, h.ends (by omega), p2]
      show Ps.chainL ts (Ps.cmdP ts d) f (2 * (j + m + 1 + m2) + 1) _ = _
      rw [show j + m + 1 + m2 = j + (m + 1 + m2) from by omega]
    by_cases hk1 : ks[j + m]? = some 1
    · rw [if_pos hk1] at hl
      refine key 2 hl (by decide) (List.getElem?_eq_some_iff.1 hk1).1 (fun p t hp a b => ?_)
      rw [List.getD_eq_getElem?_getD, hk1]
      exact Sh.and_ hs hp a b
    · by_cases hk2 : ks[j + m]? = some 2
      · rw [if_neg hk1, if_pos hk2] at hl
        refine key 3 hl (by decide) (List.getElem?_eq_some_iff.1 hk2).1 (fun p t hp a b => ?_)
        rw [List.getD_eq_getElem?_getD, hk2]
        exact Sh.or_ hs hp a b
      · rw [if_neg hk1, if_neg hk2] at hl
        refine ⟨m, n, Nat.le_refl _, hj, ?_, hs, ?_⟩
        · conv => lhs; unfold Ps.chainL
          rw [if_pos hl]
        · rcases h.after hj with ⟨hk, _⟩ | ⟨k, t, hk, _, hx⟩
          · exact .inr hk
          · rcases hx with ⟨rfl, _⟩ | ⟨rfl, _⟩ | ⟨rfl, _⟩ | ⟨rfl, _⟩
            · exact .inl hk
            · exact absurd hk hk1
            · exact absurd hk hk2
            · exact absurd hk h3

theorem TS.chain (h : TS ts ks) (d : Nat) {j : Nat} (hj : j ≤ ks.length) :
    ∃ m n, j + m ≤ ks.length ∧ Ps.chainP ts (Ps.cmdP ts d) (2 * j) = .ok n (2 * (j + m) + 1) ∧ Sh n (segC ks j m) ∧ (ks[j + m]? = some 0 ∨ ks[j + m]? = none) := by
  obtain ⟨m, n, p1, p2, p3, p4, p5, p6⟩ := h.pipe d hj
  obtain ⟨m', n', c1, c2, c3, c4, c5⟩ := h.chainL d (ts.length + 1) j m n p1 (by rw [h.len]; omega) p4 p3
  refine ⟨m', n', c2, ?_, c4, c5⟩
  unfold Ps.chainP
  rw [p2]
  exact c3

/-- trees and what they show as. -/
def Shs (zs : List (Ps.Node × List UInt8)) : Prop := ∀ z ∈ zs, Sh z.1 z.2

theorem TS.listL (h : TS ts ks) (d : Nat) : ∀ (f j : Nat) (zs : List (Ps.Node × List UInt8)), j ≤ ks.length → ks.length - j < f → Shs zs →
    ((j = 0 ∧ zs = []) ∨ (0 < j ∧ 0 < zs.length ∧ jnC [32, 59, 32] (zs.map (·.2)) zs.length = segC ks 0 (j - 1) ∧ ks[j - 1]? = some 0)) →
    ∃ zs', Ps.listL ts (Ps.cmdP ts d) f (2 * j) (zs.map (·.1)) = .ok (zs'.map (·.1)) ts.length ∧ Shs zs' ∧ 0 < zs'.length ∧ jnC [32, 59, 32] (zs'.map (·.2)) zs'.length = segC ks 0 ks.length
  | 0, j, zs, hj, hf, _, _ => by omega
  | f + 1, j, zs, hj, hf, hs, hpre => by
    obtain ⟨m, n, c1, c2, c3, c4⟩ := h.chain d hj
    have hs' : Shs (zs ++ [(n, segC ks j m)]) := fun z hz => by
      rcases List.mem_append.1 hz with hz | hz
      · exact hs z hz
      · simp at hz
        subst hz
        exact c3
    have hj' : jnC [32, 59, 32] ((zs ++ [(n, segC ks j m)]).map (·.2)) (zs ++ [(n, segC ks j m)]).length = segC ks 0 (j + m) := by
      have := jnC_snoc [32, 59, 32] (zs.map (·.2)) (segC ks j m)
      simp only [List.map_append, List.map_cons, List.map_nil, List.length_append, List.length_map, List.length_cons, List.length_nil] at this ⊢
      rw [this]
      rcases hpre with ⟨rfl, rfl⟩ | ⟨h0, hz, hjn, hk⟩
      · show [] ++ [] ++ segC ks 0 m = segC ks 0 (0 + m)
        simp
      · rw [hjn, if_pos hz]
        have := segC_append ks 0 (j - 1) m
        rw [Nat.zero_add, show j - 1 + 1 = j from by omega, List.getD_eq_getElem?_getD, hk] at this
        exact this
    have hb := h.semi (j := j + m) c1
    have hcl := h.wc hj
    rcases c4 with c4 | c4
    · rw [decide_eq_true c4] at hb
      have hlt := (List.getElem?_eq_some_iff.1 c4).1
      obtain ⟨zs', l1, l2, l3, l4⟩ := TS.listL h d f (j + m + 1) (zs ++ [(n, segC ks j m)]) (by omega) (by omega) hs' (.inr ⟨by omega, by simp, by rw [hj']; congr 1, by rw [show j + m + 1 - 1 = j + m from by omega]; exact c4⟩)
      refine ⟨zs', ?_, l2, l3, l4⟩
      rw [← l1]
      conv => lhs; unfold Ps.listL
      rw [if_neg (by rw [hcl]; decide), c2]
      show (if _ then _ else _) = _
      rw [if_pos hb, endsP_next hb, show 2 * (j + m) + 1 + 1 = 2 * (j + m + 1) from by omega, h.ends (by omega)]
      simp
    · rw [decide_eq_false (by rw [c4]; simp)] at hb
      have hlen : j + m = ks.length := by
        rw [List.getElem?_eq_none_iff] at c4
        omega
      refine ⟨zs ++ [(n, segC ks j m)], ?_, hs', by simp, by rw [hj', hlen]⟩
      conv => lhs; unfold Ps.listL
      rw [if_neg (by rw [hcl]; decide), c2]
      show (if _ then _ else _) = _
      rw [if_neg (by rw [hb]; decide), hlen, h.len]
      simp

/-- what reading such a text says. -/
theorem TS.list (h : TS ts ks) (d : Nat) : ∃ zs, Ps.listP ts (Ps.cmdP ts d) false 0 = .ok (Ps.node 1 (zs.map (·.1))) ts.length ∧ Shs zs ∧ 0 < zs.length ∧ jnC [32, 59, 32] (zs.map (·.2)) zs.length = segC ks 0 ks.length := by
  obtain ⟨zs, l1, l2, l3, l4⟩ := h.listL d (ts.length + 1) 0 [] (Nat.zero_le _) (by rw [h.len]; omega) (fun z hz => by simp at hz) (.inl ⟨rfl, rfl⟩)
  refine ⟨zs, ?_, l2, l3, l4⟩
  unfold Ps.listP
  have e := h.ends (j := 0) (Nat.zero_le _)
  rw [Nat.mul_zero] at e l1
  rw [e]
  simp only [List.map_nil] at l1
  rw [l1]
  rfl
end

theorem letC_spec (i : Nat) (h : i < 12) : Lx.specB (letC i) = false := by
  rcases (show i = 0 ∨ i = 1 ∨ i = 2 ∨ i = 3 ∨ i = 4 ∨ i = 5 ∨ i = 6 ∨ i = 7 ∨ i = 8 ∨ i = 9 ∨ i = 10 ∨ i = 11 from by omega) with rfl | rfl | rfl | rfl | rfl | rfl | rfl | rfl | rfl | rfl | rfl | rfl <;> decide

/-- what may stand behind a word. -/
def Opn (r : List UInt8) : Prop := r = [] ∨ ∃ t, r = 32 :: t

theorem word_tok (x : UInt8) (hx : Lx.specB x = false) (r : List UInt8) (hr : Opn r) (g p : Nat) (acc : List Tok) : Lx.tokP (g + 1) (99 :: x :: r) p acc = Lx.tokP g r (p + 2) (acc ++ [⟨1, [99, x], [⟨1, [99, x]⟩], p⟩]) := by
  have hs : Lx.signOf (99 :: x :: r) = [] := by simp [Lx.signOf, Lx.signs]
  have hw : Lx.wordP ((99 :: x :: r).length + 1) (99 :: x :: r) p [] = .ok ([⟨1, [99, x]⟩], p + 2) := by
    have h1 := wordP_plain 2 (r.length + 1) (99 :: x :: r) p [] (by simp) (fun j hj => by
      rcases (show j = 0 ∨ j = 1 from by omega) with rfl | rfl
      · rfl
      · exact hx)
    have e : (99 :: x :: r).length + 1 = r.length + 1 + 2 := by simp
    rw [e, h1]
    have e2 : addRun [] ((99 :: x :: r).take 2) = [⟨1, [99, x]⟩] := rfl
    rw [e2]
    show Lx.wordP (r.length + 1) r (p + 2) _ = _
    rcases hr with rfl | ⟨t, rfl⟩
    · rfl
    · rw [wordP_cons]
      exact if_pos rfl
  refine ((tokP_word g 99 (x :: r) p acc (by decide) (by decide) (by decide) hs (by decide)).2 _ _ hw).trans ?_
  rw [show p + 2 - p = 2 from by omega]
  rfl

theorem blank_tok (r : List UInt8) (g p : Nat) (acc : List Tok) : Lx.tokP (g + 1) (32 :: r) p acc = Lx.tokP g r (p + 1) acc := by
  rw [tokP_cons]
  exact if_pos (.inl rfl)

/-- a sign and its blanks. -/
theorem sign_tok (k : Nat) (hk : k < 4) (r : List UInt8) (g p : Nat) (acc : List Tok) : ∃ (q : Nat) (t : Tok), Lx.tokP (g + 3) (sgC k ++ r) p acc = Lx.tokP g r q (acc ++ [t]) ∧ ((k = 0 ∧ t.kind = 3 ∧ t.text = [59]) ∨ (k = 1 ∧ t.kind = 2 ∧ t.text = [38, 38]) ∨ (k = 2 ∧ t.kind = 2 ∧ t.text = [124, 124]) ∨ (k = 3 ∧ t.kind = 2 ∧ t.text = [124])) := by
  rcases (show k = 0 ∨ k = 1 ∨ k = 2 ∨ k = 3 from by omega) with rfl | rfl | rfl | rfl
  · refine ⟨p + 1 + 1 + 1, ⟨3, [59], [], p + 1⟩, ?_, .inl ⟨rfl, rfl, rfl⟩⟩
    show Lx.tokP (g + 2 + 1) (32 :: 59 :: 32 :: r) p acc = _
    rw [blank_tok, tokP_cons, if_neg (by decide), if_neg (by decide), if_pos (by decide)]
    exact blank_tok _ _ _ _
  · have hs : Lx.signOf (38 :: 38 :: 32 :: r) = [38, 38] := by simp [Lx.signOf, Lx.signs]
    refine ⟨p + 1 + 2 + 1, ⟨2, [38, 38], [], p + 1⟩, ?_, .inr (.inl ⟨rfl, rfl, rfl⟩)⟩
    show Lx.tokP (g + 2 + 1) (32 :: 38 :: 38 :: 32 :: r) p acc = _
    rw [blank_tok, tokP_cons, if_neg (by decide), if_neg (by decide), if_neg (by decide), hs, if_pos (by decide)]
    exact blank_tok _ _ _ _
  · have hs : Lx.signOf (124 :: 124 :: 32 :: r) = [124, 124] := by simp [Lx.signOf, Lx.signs]
    refine ⟨p + 1 + 2 + 1, ⟨2, [124, 124], [], p + 1⟩, ?_, .inr (.inr (.inl ⟨rfl, rfl, rfl⟩))⟩
    show Lx.tokP (g + 2 + 1) (32 :: 124 :: 124 :: 32 :: r) p acc = _
    rw [blank_tok, tokP_cons, if_neg (by decide), if_neg (by decide), if_neg (by decide), hs, if_pos (by decide)]
    exact blank_tok _ _ _ _
  · have hs : Lx.signOf (124 :: 32 :: r) = [124] := by simp [Lx.signOf, Lx.signs]
    refine ⟨p + 1 + 1 + 1, ⟨2, [124], [], p + 1⟩, ?_, .inr (.inr (.inr ⟨rfl, rfl, rfl⟩))⟩
    show Lx.tokP (g + 2 + 1) (32 :: 124 :: 32 :: r) p acc = _
    rw [blank_tok, tokP_cons, if_neg (by decide), if_neg (by decide), if_neg (by decide), hs, if_pos (by decide)]
    exact blank_tok _ _ _ _

theorem sgC_opn (k : Nat) (r : List UInt8) : Opn (sgC k ++ r) := by
  unfold sgC
  repeat' split
  all_goals exact .inr ⟨_, rfl⟩

/-- the tokens of the first m signs and their commands. -/
structure TSm (ts : List Tok) (ks : List Nat) (m : Nat) : Prop where
  len : ts.length = 2 * m + 1
  w : ∀ j, j ≤ m → ∃ t, ts[2 * j]? = some t ∧ t.kind = 1 ∧ t.text = nmC j ∧ t.parts = [⟨1, nmC j⟩]
  s : ∀ (j k : Nat), j < m → ks[j]? = some k → ∃ t, ts[2 * j + 1]? = some t ∧ ((k = 0 ∧ t.kind = 3 ∧ t.text = [59]) ∨ (k = 1 ∧ t.kind = 2 ∧ t.text = [38, 38]) ∨ (k = 2 ∧ t.kind = 2 ∧ t.text = [124, 124]) ∨ (k = 3 ∧ t.kind = 2 ∧ t.text = [124]))

theorem seg_tok (ks : List Nat) (h12 : ks.length ≤ 12) (h4 : ∀ k ∈ ks, k < 4) : ∀ (m g : Nat) (r : List UInt8), m ≤ ks.length → Opn r → ∃ (q : Nat) (ts : List Tok), Lx.tokP (g + 4 * m + 1) (segC ks 0 m ++ r) 0 [] = Lx.tokP g r q ts ∧ TSm ts ks m
  | 0, g, r, hm, hr => by
    refine ⟨2, [⟨1, [99, 48], [⟨1, [99, 48]⟩], 0⟩], word_tok 48 (by decide) r hr g 0 [], ⟨rfl, fun j hj => ?_, fun j k hj => by omega⟩⟩
    obtain rfl : j = 0 := by omega
    exact ⟨_, rfl, rfl, rfl, rfl⟩
  | m + 1, g, r, hm, hr => by
    obtain ⟨k, hk⟩ : ∃ k, ks[m]? = some k := ⟨_, List.getElem?_eq_getElem (by omega)⟩
    have hk4 := h4 k (List.mem_of_getElem? hk)
    obtain ⟨q, ts, h1, h2⟩ := seg_tok ks h12 h4 m (g + 4) (sgC k ++ (nmC (m + 1) ++ r)) (by omega) (sgC_opn _ _)
    obtain ⟨q2, t, h3, h5⟩ := sign_tok k hk4 (nmC (m + 1) ++ r) (g + 1) q ts
    have hn : nmC (m + 1) ++ r = 99 :: letC m :: r := by
      unfold nmC
      rw [if_neg (by omega)]
      rfl
    refine ⟨q2 + 2, ts ++ [t] ++ [⟨1, [99, letC m], [⟨1, [99, letC m]⟩], q2⟩], ?_, ?_⟩
    · have e : segC ks 0 (m + 1) ++ r = segC ks 0 m ++ (sgC k ++ (nmC (m + 1) ++ r)) := by
        show segC ks 0 m ++ sgC (ks.getD (0 + m) 0) ++ nmC (0 + m + 1) ++ r = _
        rw [Nat.zero_add, List.getD_eq_getElem?_getD, hk]
        simp
      rw [e, show g + 4 * (m + 1) + 1 = g + 4 + 4 * m + 1 from by omega, h1, show g + 4 = g + 1 + 3 from by omega, h3, hn]
      exact word_tok (letC m) (letC_spec m (by omega)) r hr g q2 _
    · have hl := h2.len
      refine ⟨by simp [hl]; omega, fun j hj => ?_, fun j k' hj hk' => ?_⟩
      · by_cases hjm : j ≤ m
        · obtain ⟨u, u1, u2⟩ := h2.w j hjm
          refine ⟨u, ?_, u2⟩
          rw [List.append_assoc, List.getElem?_append_left (by omega)]
          exact u1
        · obtain rfl : j = m + 1 := by omega
          refine ⟨⟨1, [99, letC m], [⟨1, [99, letC m]⟩], q2⟩, ?_, rfl, ?_, ?_⟩
          · rw [List.getElem?_append_right (by simp [hl]; omega)]
            simp [hl]
            rw [show 2 * (m + 1) - (2 * m + 1 + 1) = 0 from by omega]
            rfl
          · unfold nmC; rw [if_neg (by omega)]; rfl
          · unfold nmC; rw [if_neg (by omega)]; rfl
      · by_cases hjm : j < m
        · obtain ⟨u, u1, u2⟩ := h2.s j k' hjm hk'
          refine ⟨u, ?_, u2⟩
          rw [List.append_assoc, List.getElem?_append_left (by omega)]
          exact u1
        · obtain rfl : j = m := by omega
          rw [hk] at hk'
          cases hk'
          refine ⟨t, ?_, h5⟩
          rw [List.getElem?_append_left (by simp [hl]), List.getElem?_append_right (by omega), hl]
          simp

theorem badP_plain : ∀ (a : List UInt8) (f p : Nat), (∀ c ∈ a, 32 ≤ c.toNat ∧ c.toNat < 127) → Lx.badP f a p = none
  | _, 0, _, _ => rfl
  | [], f + 1, _, _ => rfl
  | c :: t, f + 1, p, h => by
    have hc := h c (by simp)
    conv => lhs; unfold Lx.badP
    rw [if_neg (by simp), (Lx.dec_ascii c t (by omega)).1, (Lx.dec_ascii c t (by omega)).2, if_neg, List.drop_succ_cons, List.drop_zero]
    · exact badP_plain t f _ fun d hd => h d (by simp [hd])
    · have h1 : decide (c.toNat < 32) = false := decide_eq_false (by omega)
      have h2 : (c.toNat == 127) = false := by rw [beq_eq_false_iff_ne]; omega
      have h3 : (c.toNat == 65533) = false := by rw [beq_eq_false_iff_ne]; omega
      unfold Lx.wrongB
      rw [h1, h2, h3]
      simp

theorem nmC_ascii (j : Nat) (hj : j ≤ 12) : ∀ c ∈ nmC j, 32 ≤ c.toNat ∧ c.toNat < 127 := by
  rcases (show j = 0 ∨ j = 1 ∨ j = 2 ∨ j = 3 ∨ j = 4 ∨ j = 5 ∨ j = 6 ∨ j = 7 ∨ j = 8 ∨ j = 9 ∨ j = 10 ∨ j = 11 ∨ j = 12 from by omega) with rfl | rfl | rfl | rfl | rfl | rfl | rfl | rfl | rfl | rfl | rfl | rfl | rfl <;> decide
theorem sgC_ascii (k : Nat) : ∀ c ∈ sgC k, 32 ≤ c.toNat ∧ c.toNat < 127 := by
  unfold sgC
  repeat' split
  all_goals decide
theorem segC_ascii (ks : List Nat) : ∀ m, m ≤ 12 → ∀ c ∈ segC ks 0 m, 32 ≤ c.toNat ∧ c.toNat < 127
  | 0, _ => nmC_ascii 0 (by omega)
  | m + 1, h => fun c hc => by
    have hc : c ∈ segC ks 0 m ++ sgC (ks.getD (0 + m) 0) ++ nmC (0 + m + 1) := hc
    rcases List.mem_append.1 hc with hc | hc
    · rcases List.mem_append.1 hc with hc | hc
      · exact segC_ascii ks m (by omega) c hc
      · exact sgC_ascii _ c hc
    · exact nmC_ascii _ (by omega) c hc
theorem nmC_len (j : Nat) : (nmC j).length = 2 := by unfold nmC; split <;> rfl
theorem sgC_len (k : Nat) : 3 ≤ (sgC k).length ∧ (sgC k).length ≤ 4 := by
  unfold sgC
  repeat' split
  all_goals decide
theorem segC_len (ks : List Nat) : ∀ m, 5 * m + 2 ≤ (segC ks 0 m).length ∧ (segC ks 0 m).length ≤ 6 * m + 2
  | 0 => by rw [show segC ks 0 0 = nmC 0 from rfl, nmC_len]; omega
  | m + 1 => by
    have ih := segC_len ks m
    have h1 := sgC_len (ks.getD (0 + m) 0)
    rw [show segC ks 0 (m + 1) = segC ks 0 m ++ sgC (ks.getD (0 + m) 0) ++ nmC (0 + m + 1) from rfl, List.length_append, List.length_append, nmC_len]
    omega

theorem seg_tokens (ks : List Nat) (h12 : ks.length ≤ 12) (h4 : ∀ k ∈ ks, k < 4) : ∃ ts, Lx.tokens (segC ks 0 ks.length) = (0, 0, ts) ∧ TS ts ks := by
  have hl := segC_len ks ks.length
  obtain ⟨q, ts, h1, h2⟩ := seg_tok ks h12 h4 ks.length ((segC ks 0 ks.length).length - 4 * ks.length) [] (Nat.le_refl _) (.inl rfl)
  refine ⟨ts, ?_, ⟨h2.len, h2.w, fun j k hk => h2.s j k (List.getElem?_eq_some_iff.1 hk).1 hk, h12⟩⟩
  rw [tokens_good (by omega) (badP_plain _ _ _ (segC_ascii ks _ h12))]
  rw [List.append_nil, tokP_nil, show (segC ks 0 ks.length).length - 4 * ks.length + 4 * ks.length + 1 = (segC ks 0 ks.length).length + 1 from by omega] at h1
  rw [h1]
  rfl

/-- what reading says. -/
theorem seg_program (ks : List Nat) (h12 : ks.length ≤ 12) (h4 : ∀ k ∈ ks, k < 4) : ∃ zs, Ps.program (segC ks 0 ks.length) = (0, 0, Ps.node 1 (zs.map (·.1))) ∧ Shs zs ∧ 0 < zs.length ∧ jnC [32, 59, 32] (zs.map (·.2)) zs.length = segC ks 0 ks.length := by
  obtain ⟨ts, h1, h2⟩ := seg_tokens ks h12 h4
  obtain ⟨zs, l1, l2, l3, l4⟩ := h2.list 16
  refine ⟨zs, ?_, l2, l3, l4⟩
  unfold Ps.program
  rw [h1]
  show (if _ then _ else _) = _
  rw [if_neg (by decide), l1]
  exact if_neg (Nat.lt_irrefl _)

end Go.Proofs.YtfgbbmnmblchiaaDoor
