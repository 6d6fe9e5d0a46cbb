/-
  A word in plain words: how far reading up to the second quote comes; that the fuel does not count; a run of plain bytes at once.
  slices.Clip at pieces and at tokens: walked.
  A scope with a label that the run comes back to and one that it leaves for; the frame at a jump back within a word.
-/
import Derived.Test.YtfgbbmnmblchiaaDoorQuot
import Derived.WalkMore
import Derived.ScopeJumps
namespace Go.Proofs.YtfgbbmnmblchiaaDoor
set_option linter.unusedVariables false

theorem quotP_ok (q : Nat) : ∀ (f : Nat) (r : List UInt8) (p : Nat) (ps ps' : List Lx.Part) (p' : Nat), Sm ps p → Lx.quotP q f r p ps = .ok (ps', p') → p < p' ∧ p' ≤ p + r.length ∧ Sm ps' p'
  | 0, _, _, _, _, _, _, h => by simp [Lx.quotP] at h
  | f + 1, [], _, _, _, _, _, h => by simp [Lx.quotP] at h
  | f + 1, b :: t, p, ps, ps', p', hs, h => by
    rw [quotP_cons] at h
    split at h
    · cases h
      exact ⟨by omega, by simp, hs.mono (by omega)⟩
    · split at h
      · cases hv : Lx.varP ps 3 t with
        | none => rw [hv] at h; cases h
        | some pm =>
          obtain ⟨l', m⟩ := pm
          rw [hv] at h
          have hm := varP_some hv
          have := quotP_ok q f _ _ _ _ _ (hs.var hv) h
          rw [List.length_drop, List.length_cons] at this
          rw [List.length_cons]
          exact ⟨by omega, by omega, this.2.2⟩
      · split at h
        · rename_i hc
          have hne : t ≠ [] := by rintro rfl; simp [Lx.escB] at hc
          have hl : 1 ≤ t.length := by cases t with
            | nil => exact absurd rfl hne
            | cons _ _ => simp
          have := quotP_ok q f _ _ _ _ _ ((hs.add 1 (t.take 1) (M := 2) (by rw [List.length_take]; omega) (by omega))) h
          rw [List.length_drop] at this
          rw [List.length_cons]
          exact ⟨by omega, by omega, this.2.2⟩
        · have := quotP_ok q f _ _ _ _ _ ((hs.add 1 [b] (M := 1) (by simp) (by omega))) h
          rw [List.length_cons]
          exact ⟨by omega, by omega, this.2.2⟩

theorem wordP_cons (f : Nat) (c : UInt8) (t : List UInt8) (p : Nat) (l : List Lx.Part) : Lx.wordP (f + 1) (c :: t) p l =
    if Lx.endB c = true then .ok (l, p)
    else if c = 39 then (match Lx.idx 39 t with | none => .bad p | some k => Lx.wordP f (t.drop (k + 1)) (p + k + 2) (Lx.addP l 1 (t.take k)))
    else if c = 34 then (match Lx.quotP p (t.length + 1) t (p + 1) l with | .bad e => .bad e | .ok (l', p') => Lx.wordP f ((c :: t).drop (p' - p)) p' l')
    else if c = 36 then (match Lx.varP l 2 t with | none => .bad p | some (l', n) => Lx.wordP f ((c :: t).drop n) (p + n) l')
    else if c = 92 then (if t = [] then .bad p else Lx.wordP f (t.drop (Lx.wid t)) (p + 1 + Lx.wid t) (if t.head? = some 10 then l else Lx.addP l 1 (t.take (Lx.wid t))))
    else Lx.wordP f t (p + 1) (Lx.addP l 1 [c]) := rfl

theorem wordP_nil (f p : Nat) (l : List Lx.Part) : Lx.wordP f [] p l = .ok (l, p) := by cases f <;> rfl

theorem quotP_lt (q : Nat) : ∀ (f : Nat) (r : List UInt8) (p : Nat) (ps ps' : List Lx.Part) (p' : Nat), Lx.quotP q f r p ps = .ok (ps', p') → p < p'
  | 0, _, _, _, _, _, h => by simp [Lx.quotP] at h
  | f + 1, [], _, _, _, _, h => by simp [Lx.quotP] at h
  | f + 1, b :: t, p, ps, ps', p', h => by
    rw [quotP_cons] at h
    split at h
    · cases h; omega
    · split at h
      · cases hv : Lx.varP ps 3 t with
        | none => rw [hv] at h; cases h
        | some pm =>
          obtain ⟨l', m⟩ := pm
          rw [hv] at h
          have hm := varP_some hv
          have := quotP_lt q f _ _ _ _ _ h
          omega
      · split at h
        · have := quotP_lt q f _ _ _ _ _ h; omega
        · have := quotP_lt q f _ _ _ _ _ h; omega

theorem wordP_fuel : ∀ (n f f' : Nat) (r : List UInt8) (p : Nat) (l : List Lx.Part), r.length ≤ n → n < f → n < f' → Lx.wordP f r p l = Lx.wordP f' r p l
  | n, f, f', [], p, l, _, _, _ => by rw [wordP_nil, wordP_nil]
  | 0, _, _, _ :: _, _, _, h, _, _ => by simp at h
  | n + 1, 0, _, _ :: _, _, _, _, h, _ => by omega
  | n + 1, _ + 1, 0, _ :: _, _, _, _, _, h => by omega
  | n + 1, f + 1, f' + 1, c :: t, p, l, h, h1, h2 => by
    have key := fun (r' : List UInt8) (p' : Nat) (l' : List Lx.Part) (hl : r'.length ≤ n) => wordP_fuel n f f' r' p' l' hl (by omega) (by omega)
    rw [List.length_cons] at h
    rw [wordP_cons, wordP_cons]
    split
    · rfl
    · split
      · split
        · rfl
        · exact key _ _ _ (by rw [List.length_drop]; omega)
      · split
        · split
          · rfl
          · rename_i hq
            have := quotP_lt _ _ _ _ _ _ _ hq
            exact key _ _ _ (by rw [List.length_drop, List.length_cons]; omega)
        · split
          · split
            · rfl
            · rename_i hv
              have := varP_some hv
              exact key _ _ _ (by rw [List.length_drop, List.length_cons]; omega)
          · split
            · split
              · rfl
              · exact key _ _ _ (by rw [List.length_drop]; omega)
            · exact key _ _ _ (by omega)

theorem addP_two (ps : List Lx.Part) (c : UInt8) (x : List UInt8) : Lx.addP (Lx.addP ps 1 [c]) 1 x = Lx.addP ps 1 (c :: x) := by
  rcases List.eq_nil_or_concat ps with rfl | ⟨l', p, hl⟩
  · have e : Lx.addP [] 1 [c] = [] ++ [⟨1, [c]⟩] := rfl
    rw [e, addP_last, if_pos ⟨rfl, rfl⟩]
    rfl
  · have hl : ps = l' ++ [p] := by simpa using hl
    subst hl
    by_cases hp : p.kind = 1
    · rw [addP_last, if_pos ⟨rfl, hp⟩, addP_last, if_pos ⟨rfl, hp⟩, addP_last, if_pos ⟨rfl, hp⟩]
      simp
    · rw [addP_last, if_neg (fun e => hp e.2), if_neg (by simp), addP_last, if_pos ⟨rfl, rfl⟩, addP_last, if_neg (fun e => hp e.2), if_neg (by simp)]
      simp

/-- a run of plain bytes. -/
def addRun (ps : List Lx.Part) (x : List UInt8) : List Lx.Part := if x = [] then ps else Lx.addP ps 1 x

theorem addRun_cons (ps : List Lx.Part) (c : UInt8) (x : List UInt8) : addRun (Lx.addP ps 1 [c]) x = addRun ps (c :: x) := by
  unfold addRun
  by_cases h : x = []
  · subst h; simp
  · rw [if_neg h, if_neg (by simp), addP_two]

theorem spec_end (c : UInt8) (h : Lx.specB c = false) : Lx.endB c = false ∧ c ≠ 39 ∧ c ≠ 34 ∧ c ≠ 92 ∧ c ≠ 36 := by
  refine ⟨?_, ?_, ?_, ?_, ?_⟩
  · cases he : Lx.endB c with
    | false => rfl
    | true =>
      simp only [Lx.endB, Lx.specB, List.contains_cons, List.contains_nil, Bool.or_false, Bool.or_eq_true, Bool.or_eq_false_iff, beq_iff_eq, beq_eq_false_iff_ne] at he h
      obtain ⟨a, b, c, d, e, f, g, i, j, k, _⟩ := h
      rcases he with he | he | he | he | he | he | he | he | he | he
      all_goals contradiction
  all_goals
    rintro rfl
    simp [Lx.specB] at h

theorem wordP_plain : ∀ (n f : Nat) (r : List UInt8) (p : Nat) (ps : List Lx.Part), n ≤ r.length → (∀ j, j < n → Lx.specB (r.getD j 0) = false) →
    Lx.wordP (f + n) r p ps = Lx.wordP f (r.drop n) (p + n) (addRun ps (r.take n))
  | 0, f, r, p, ps, _, _ => by simp [addRun]
  | n + 1, f, [], p, ps, h, _ => by simp at h
  | n + 1, f, c :: t, p, ps, h, hs => by
    have h0 : Lx.specB c = false := hs 0 (by omega)
    obtain ⟨e1, e2, e3, e4, e5⟩ := spec_end c h0
    rw [show f + (n + 1) = (f + n) + 1 from by omega, wordP_cons, if_neg (by rw [e1]; simp), if_neg e2, if_neg e3, if_neg e5, if_neg e4,
      wordP_plain n f t (p + 1) (Lx.addP ps 1 [c]) (by simpa using h) (fun j hj => hs (j + 1) (by omega)), List.drop_succ_cons, List.take_succ_cons, addRun_cons, show p + 1 + n = p + (n + 1) from by omega]

end Go.Proofs.YtfgbbmnmblchiaaDoor

namespace Go.Proofs.YtfgbbmnmblchiaaDoor
open Go.RowKit
set_option linter.unusedVariables false

set_option maxRecDepth 10000 in
theorem clip_parts (a : Option Addr) (n c : Nat) (hn : n ≤ c) (hc : c ≤ maxLen) (w : World) :
    Calls Tryd.prog 44 #[.slice a n c] w fun e w' => e = .returned (.slice a n n) ∧ w' = w := by
  have h1 : (n : Int) ≤ (c : Int) := by omega
  have h0 : (0 : Int) ≤ (n : Int) := by omega
  go_enter Tryd.func44, Tryd.ntmps44
  go_wp2
  go_ret
  exact ⟨rfl, rfl⟩

set_option maxRecDepth 10000 in
theorem clip_toks (a : Option Addr) (n c : Nat) (hn : n ≤ c) (hc : c ≤ maxLen) (w : World) :
    Calls Tryd.prog 25 #[.slice a n c] w fun e w' => e = .returned (.slice a n n) ∧ w' = w := by
  have h1 : (n : Int) ≤ (c : Int) := by omega
  have h0 : (0 : Int) ≤ (n : Int) := by omega
  go_enter Tryd.func25, Tryd.ntmps25
  go_wp2
  go_ret
  exact ⟨rfl, rfl⟩

end Go.Proofs.YtfgbbmnmblchiaaDoor

namespace Go.Proofs.YtfgbbmnmblchiaaDoor
open Go.RowKit
set_option linter.unusedVariables false

/-- what a jump asks: to label 0: J; to label 1: that what stands behind it goes; to another: no way out. -/
def ExitTwo (P : Program) (r1 : Code) (J : Act → World → Prop) (Q : Exit → Act → World → Prop) : Exit → Act → World → Prop
  | .goto 0, a, w => J a w
  | .goto 1, a, w => r1.wp P (Exit.noGoto Q) a w
  | .goto _, _, _ => False
  | e, a, w => Q e a w

section
variable {P : Program} {r1 : Code} {J : Act → World → Prop} {Q : Exit → Act → World → Prop} {a : Act} {w : World}
theorem ExitTwo_normal : ExitTwo P r1 J Q .normal a w = Q .normal a w := rfl
theorem ExitTwo_exit (id : Nat) : ExitTwo P r1 J Q (.exit id) a w = Q (.exit id) a w := rfl
theorem ExitTwo_ret : ExitTwo P r1 J Q .ret a w = Q .ret a w := rfl
theorem ExitTwo_zero : ExitTwo P r1 J Q (.goto 0) a w = J a w := rfl
theorem ExitTwo_one : ExitTwo P r1 J Q (.goto 1) a w = r1.wp P (Exit.noGoto Q) a w := rfl
end

theorem ExitTwo_mono {P : Program} {r1 : Code} {J J' : Act → World → Prop} {Q : Exit → Act → World → Prop} (h : ∀ a w, J a w → J' a w) (e : Exit) (a : Act) (w : World) (hq : ExitTwo P r1 J Q e a w) : ExitTwo P r1 J' Q e a w := by
  cases e with
  | goto l =>
    match l with
    | 0 => exact h _ _ hq
    | 1 => exact hq
    | _ + 2 => exact hq.elim
  | _ => exact hq

/-- a scope with a label that the run comes back to, and one that it leaves for. -/
theorem wp_scope_two' {P : Program} {a : Act} {w : World} {Q : Exit → Act → World → Prop} {c r0 r1 : Code} (J : Nat → Act → World → Prop) (h0 : findLabel c 0 = some r0) (h1 : findLabel c 1 = some r1)
    (first : c.wp P (ExitTwo P r1 (fun a w => ∃ g, J g a w) Q) a w)
    (pass : ∀ g a w, J g a w → r0.wp P (ExitTwo P r1 (fun a' w' => ∃ g', g' < g ∧ J g' a' w') Q) a w) : (Code.scope c).wp P Q a w := by
  intro b k cs
  have hg0 : gotoIn 0 (.inScope c :: k) = some (.code r0 :: .inScope c :: k) := by simp [gotoIn, h0]
  have hg1 : gotoIn 1 (.inScope c :: k) = some (.code r1 :: .inScope c :: k) := by simp [gotoIn, h1]
  have last : ∀ a w, r1.wp P (Exit.noGoto Q) a w → ∃ e a' w', Q e a' w' ∧ Arrives P (lone (b.at a (.code r1 :: .inScope c :: k)) cs w) b k cs e a' w' := by
    intro a w h
    obtain ⟨e, a₁, w₁, hq, harr⟩ := h b (.inScope c :: k) cs
    cases e with
    | normal => exact ⟨.normal, a₁, w₁, hq, Steps.trans harr (.one step_inScope)⟩
    | exit id => exact ⟨.exit id, a₁, w₁, hq, fun k' hk => harr k' (by simp [exitTo, hk])⟩
    | goto l' => exact hq.elim
    | ret => exact ⟨_, a₁, w₁, hq, harr⟩
    | panic ch => exact ⟨_, a₁, w₁, hq, harr⟩
    | outgrown => exact ⟨_, a₁, w₁, hq, harr⟩
  have key : ∀ n a w, J n a w → ∃ e a' w', Q e a' w' ∧ Arrives P (lone (b.at a (.code r0 :: .inScope c :: k)) cs w) b k cs e a' w' := by
    intro n
    induction n using Nat.strongRecOn with
    | _ n ih =>
      intro a w hJ
      obtain ⟨e, a₁, w₁, hq, harr⟩ := pass n a w hJ b (.inScope c :: k) cs
      cases e with
      | normal => exact ⟨.normal, a₁, w₁, hq, Steps.trans harr (.one step_inScope)⟩
      | exit id => exact ⟨.exit id, a₁, w₁, hq, fun k' hk => harr k' (by simp [exitTo, hk])⟩
      | goto l' =>
        match l', hq, harr with
        | 0, hq, harr =>
          obtain ⟨g', hlt, hJ'⟩ := hq
          obtain ⟨e₂, a₂, w₂, hq₂, harr₂⟩ := ih g' hlt a₁ w₁ hJ'
          exact ⟨e₂, a₂, w₂, hq₂, .of_steps (harr _ hg0) harr₂⟩
        | 1, hq, harr =>
          obtain ⟨e₂, a₂, w₂, hq₂, harr₂⟩ := last a₁ w₁ hq
          exact ⟨e₂, a₂, w₂, hq₂, .of_steps (harr _ hg1) harr₂⟩
        | _ + 2, hq, _ => exact hq.elim
      | ret => exact ⟨_, a₁, w₁, hq, harr⟩
      | panic ch => exact ⟨_, a₁, w₁, hq, harr⟩
      | outgrown => exact ⟨_, a₁, w₁, hq, harr⟩
  obtain ⟨e, a₁, w₁, hq, harr⟩ := first b (.inScope c :: k) cs
  cases e with
  | normal => exact ⟨.normal, a₁, w₁, hq, .head step_scope (Steps.trans harr (.one step_inScope))⟩
  | exit id => exact ⟨.exit id, a₁, w₁, hq, fun k' hk => .head step_scope (harr k' (by simp [exitTo, hk]))⟩
  | goto l' =>
    match l', hq, harr with
    | 0, hq, harr =>
      obtain ⟨g', hJ'⟩ := hq
      obtain ⟨e₂, a₂, w₂, hq₂, harr₂⟩ := key g' a₁ w₁ hJ'
      exact ⟨e₂, a₂, w₂, hq₂, .of_steps (.head step_scope (harr _ hg0)) harr₂⟩
    | 1, hq, harr =>
      obtain ⟨e₂, a₂, w₂, hq₂, harr₂⟩ := last a₁ w₁ hq
      exact ⟨e₂, a₂, w₂, hq₂, .of_steps (.head step_scope (harr _ hg1)) harr₂⟩
    | _ + 2, hq, _ => exact hq.elim
  | ret => exact ⟨_, a₁, w₁, hq, .of_steps (.one step_scope) harr⟩
  | panic ch => exact ⟨_, a₁, w₁, hq, .of_steps (.one step_scope) harr⟩
  | outgrown => exact ⟨_, a₁, w₁, hq, .of_steps (.one step_scope) harr⟩

/-- the same, the first way taken by the later ways' proof. -/
theorem wp_scope_two {P : Program} {a : Act} {w : World} {Q : Exit → Act → World → Prop} {c r0 r1 : Code} (J : Nat → Act → World → Prop) (h0 : findLabel c 0 = some (.seq .skip r0)) (h1 : findLabel c 1 = some r1)
    (pass : ∀ g a w, J g a w → r0.wp P (ExitTwo P r1 (fun a' w' => ∃ g', g' < g ∧ J g' a' w') Q) a w)
    (first : (∀ g a w, J g a w → r0.wp P (ExitTwo P r1 (fun a' w' => ∃ g', J g' a' w') Q) a w) → c.wp P (ExitTwo P r1 (fun a w => ∃ g, J g a w) Q) a w) : (Code.scope c).wp P Q a w :=
  wp_scope_two' J h0 h1 (first fun g a w hJ => wp_mono (pass g a w hJ) (ExitTwo_mono fun a w ⟨g', _, h⟩ => ⟨g', h⟩)) fun g a w hJ => wp_seq (wp_skip (pass g a w hJ))

set_option maxRecDepth 100000 in
/-- the frame at a jump back. -/
def WordAct (rb q : Nat) (v : Value) (us : Nat → Value) : Array Value := #[.pointer (some ⟨rb, 0, none⟩), us 1, us 2, .int .i64 (q : Int), v, us 5, us 6, us 7, us 8, us 9, us 10, us 11, us 12, us 13, us 14, us 15, us 16, us 17, us 18, us 19, us 20, us 21, us 22, us 23, us 24, us 25, us 26, us 27, us 28, us 29, us 30, us 31, us 32, us 33, us 34, us 35, us 36, us 37, us 38, us 39, us 40, us 41, us 42, us 43, us 44, us 45, us 46, us 47, us 48, us 49, us 50, us 51, us 52, us 53, us 54, us 55, us 56, us 57, us 58, us 59, us 60, us 61, us 62, us 63, us 64, us 65, us 66, us 67, us 68, us 69, us 70, us 71, us 72, us 73, us 74, us 75, us 76, us 77, us 78, us 79, us 80, us 81, us 82, us 83, us 84, us 85, us 86, us 87, us 88, us 89, us 90, us 91, us 92, us 93, us 94, us 95, us 96, us 97, us 98, us 99, us 100, us 101, us 102, us 103, us 104, us 105, us 106, us 107, us 108, us 109, us 110, us 111, us 112, us 113, us 114, us 115, us 116, us 117, us 118, us 119, us 120, us 121, us 122, us 123, us 124, us 125, us 126, us 127, us 128, us 129, us 130, us 131, us 132, us 133, us 134, us 135, us 136, us 137, us 138, us 139, us 140, us 141, us 142, us 143, us 144, us 145, us 146, us 147, us 148, us 149, us 150, us 151, us 152, us 153, us 154, us 155, us 156, us 157, us 158, us 159, us 160, us 161, us 162, us 163, us 164, us 165, us 166, us 167, us 168, us 169, us 170, us 171, us 172, us 173, us 174, us 175, us 176, us 177, us 178, us 179, us 180, us 181, us 182, us 183, us 184, us 185, us 186, us 187, us 188, us 189, us 190, us 191, us 192, us 193, us 194, us 195, us 196, us 197, us 198, us 199, us 200, us 201, us 202, us 203, us 204, us 205, us 206, us 207, us 208, us 209, us 210, us 211, us 212, us 213, us 214, us 215, us 216, us 217, us 218, us 219, us 220, us 221, us 222, us 223, us 224, us 225, us 226, us 227, us 228]

theorem WordAct_intro {rb q : Nat} {v : Value} {t : Array Value} (h : t = WordAct rb q v (fun i => t.getD i undef)) : ∃ us, ({ tmps := t, defers := [] } : Act) = { tmps := WordAct rb q v us, defers := [] } := ⟨_, congrArg (fun t => ({ tmps := t, defers := [] } : Act)) h⟩

end Go.Proofs.YtfgbbmnmblchiaaDoor
