/-
  A word in plain words: how far reading up to the second quote comes; that the fuel does not count; a run of plain bytes at once.
-/
import Derived.Test.YtfgbbmnmblchiaaDoorQuot
namespace Go.Proofs.YtfgbbmnmblchiaaDoor
set_option linter.unusedVariables false

theorem quotP_ok (q : Nat) : ∀ (f : Nat) (r : List UInt8) (p : Nat) (ps ps' : List Lx.Part) (p' : Nat), Sm ps p → Lx.quotP q f r p ps = .ok (ps', p') → p < p' ∧ p' ≤ p + r.length ∧ Sm ps' p'
  | 0, _, _, _, _, _, _, h => by simp [Lx.quotP] at h
  | f + 1, [], _, _, _, _, _, h => by simp [Lx.quotP] at h
  | f + 1, b :: t, p, ps, ps', p', hs, h => by
    rw [quotP_cons] at h
    split at h
    · cases h
      exact ⟨by omega, by simp, hs.mono (by omega)⟩
    · split at h
      · cases hv : Lx.varP ps 3 t with
        | none => rw [hv] at h; cases h
        | some pm =>
          obtain ⟨l', m⟩ := pm
          rw [hv] at h
          have hm := varP_some hv
          have := quotP_ok q f _ _ _ _ _ (hs.var hv) h
          rw [List.length_drop, List.length_cons] at this
          rw [List.length_cons]
          exact ⟨by omega, by omega, this.2.2⟩
      · split at h
        · rename_i hc
          have hne : t ≠ [] := by rintro rfl; simp [Lx.escB] at hc
          have hl : 1 ≤ t.length := by cases t with
            | nil => exact absurd rfl hne
            | cons _ _ => simp
          have := quotP_ok q f _ _ _ _ _ ((hs.add 1 (t.take 1) (M := 2) (by rw [List.length_take]; omega) (by omega))) h
          rw [List.length_drop] at this
          rw [List.length_cons]
          exact ⟨by omega, by omega, this.2.2⟩
        · have := quotP_ok q f _ _ _ _ _ ((hs.add 1 [b] (M := 1) (by simp) (by omega))) h
          rw [List.length_cons]
          exact ⟨by omega, by omega, this.2.2⟩

theorem wordP_cons (f : Nat) (c : UInt8) (t : List UInt8) (p : Nat) (l : List Lx.Part) : Lx.wordP (f + 1) (c :: t) p l =
    if Lx.endB c = true then .ok (l, p)
    else if c = 39 then (match Lx.idx 39 t with | none => .bad p | some k => Lx.wordP f (t.drop (k + 1)) (p + k + 2) (Lx.addP l 1 (t.take k)))
    else if c = 34 then (match Lx.quotP p (t.length + 1) t (p + 1) l with | .bad e => .bad e | .ok (l', p') => Lx.wordP f ((c :: t).drop (p' - p)) p' l')
    else if c = 36 then (match Lx.varP l 2 t with | none => .bad p | some (l', n) => Lx.wordP f ((c :: t).drop n) (p + n) l')
    else if c = 92 then (if t = [] then .bad p else Lx.wordP f (t.drop (Lx.wid t)) (p + 1 + Lx.wid t) (if t.head? = some 10 then l else Lx.addP l 1 (t.take (Lx.wid t))))
    else Lx.wordP f t (p + 1) (Lx.addP l 1 [c]) := rfl

theorem wordP_nil (f p : Nat) (l : List Lx.Part) : Lx.wordP f [] p l = .ok (l, p) := by cases f <;> rfl

theorem quotP_lt (q : Nat) : ∀ (f : Nat) (r : List UInt8) (p : Nat) (ps ps' : List Lx.Part) (p' : Nat), Lx.quotP q f r p ps = .ok (ps', p') → p < p'
  | 0, _, _, _, _, _, h => by simp [Lx.quotP] at h
  | f + 1, [], _, _, _, _, h => by simp [Lx.quotP] at h
  | f + 1, b :: t, p, ps, ps', p', h => by
    rw [quotP_cons] at h
    split at h
    · cases h; omega
    · split at h
      · cases hv : Lx.varP ps 3 t with
        | none => rw [hv] at h; cases h
        | some pm =>
          obtain ⟨l', m⟩ := pm
          rw [hv] at h
          have hm := varP_some hv
          have := quotP_lt q f _ _ _ _ _ h
          omega
      · split at h
        · have := quotP_lt q f _ _ _ _ _ h; omega
        · have := quotP_lt q f _ _ _ _ _ h; omega

theorem wordP_fuel : ∀ (n f f' : Nat) (r : List UInt8) (p : Nat) (l : List Lx.Part), r.length ≤ n → n < f → n < f' → Lx.wordP f r p l = Lx.wordP f' r p l
  | n, f, f', [], p, l, _, _, _ => by rw [wordP_nil, wordP_nil]
  | 0, _, _, _ :: _, _, _, h, _, _ => by simp at h
  | n + 1, 0, _, _ :: _, _, _, _, h, _ => by omega
  | n + 1, _ + 1, 0, _ :: _, _, _, _, _, h => by omega
  | n + 1, f + 1, f' + 1, c :: t, p, l, h, h1, h2 => by
    have key := fun (r' : List UInt8) (p' : Nat) (l' : List Lx.Part) (hl : r'.length ≤ n) => wordP_fuel n f f' r' p' l' hl (by omega) (by omega)
    rw [List.length_cons] at h
    rw [wordP_cons, wordP_cons]
    split
    · rfl
    · split
      · split
        · rfl
        · exact key _ _ _ (by rw [List.length_drop]; omega)
      · split
        · split
          · rfl
          · rename_i hq
            have := quotP_lt _ _ _ _ _ _ _ hq
            exact key _ _ _ (by rw [List.length_drop, List.length_cons]; omega)
        · split
          · split
            · rfl
            · rename_i hv
              have := varP_some hv
              exact key _ _ _ (by rw [List.length_drop, List.length_cons]; omega)
          · split
            · split
              · rfl
              · exact key _ _ _ (by rw [List.length_drop]; omega)
            · exact key _ _ _ (by omega)

theorem addP_two (ps : List Lx.Part) (c : UInt8) (x : List UInt8) : Lx.addP (Lx.addP ps 1 [c]) 1 x = Lx.addP ps 1 (c :: x) := by
  rcases List.eq_nil_or_concat ps with rfl | ⟨l', p, hl⟩
  · have e : Lx.addP [] 1 [c] = [] ++ [⟨1, [c]⟩] := rfl
    rw [e, addP_last, if_pos ⟨rfl, rfl⟩]
    rfl
  · have hl : ps = l' ++ [p] := by simpa using hl
    subst hl
    by_cases hp : p.kind = 1
    · rw [addP_last, if_pos ⟨rfl, hp⟩, addP_last, if_pos ⟨rfl, hp⟩, addP_last, if_pos ⟨rfl, hp⟩]
      simp
    · rw [addP_last, if_neg (fun e => hp e.2), if_neg (by simp), addP_last, if_pos ⟨rfl, rfl⟩, addP_last, if_neg (fun e => hp e.2), if_neg (by simp)]
      simp

/-- a run of plain bytes. -/
def addRun (ps : List Lx.Part) (x : List UInt8) : List Lx.Part := if x = [] then ps else Lx.addP ps 1 x

theorem addRun_cons (ps : List Lx.Part) (c : UInt8) (x : List UInt8) : addRun (Lx.addP ps 1 [c]) x = addRun ps (c :: x) := by
  unfold addRun
  by_cases h : x = []
  · subst h; simp
  · rw [if_neg h, if_neg (by simp), addP_two]

theorem spec_end (c : UInt8) (h : Lx.specB c = false) : Lx.endB c = false ∧ c ≠ 39 ∧ c ≠ 34 ∧ c ≠ 92 ∧ c ≠ 36 := by
  refine ⟨?_, ?_, ?_, ?_, ?_⟩
  · cases he : Lx.endB c with
    | false => rfl
    | true =>
      simp only [Lx.endB, Lx.specB, List.contains_cons, List.contains_nil, Bool.or_false, Bool.or_eq_true, Bool.or_eq_false_iff, beq_iff_eq, beq_eq_false_iff_ne] at he h
      obtain ⟨a, b, c, d, e, f, g, i, j, k, _⟩ := h
      rcases he with he | he | he | he | he | he | he | he | he | he
      all_goals contradiction
  all_goals
    rintro rfl
    simp [Lx.specB] at h

theorem wordP_plain : ∀ (n f : Nat) (r : List UInt8) (p : Nat) (ps : List Lx.Part), n ≤ r.length → (∀ j, j < n → Lx.specB (r.getD j 0) = false) →
    Lx.wordP (f + n) r p ps = Lx.wordP f (r.drop n) (p + n) (addRun ps (r.take n))
  | 0, f, r, p, ps, _, _ => by simp [addRun]
  | n + 1, f, [], p, ps, h, _ => by simp at h
  | n + 1, f, c :: t, p, ps, h, hs => by
    have h0 : Lx.specB c = false := hs 0 (by omega)
    obtain ⟨e1, e2, e3, e4, e5⟩ := spec_end c h0
    rw [show f + (n + 1) = (f + n) + 1 from by omega, wordP_cons, if_neg (by rw [e1]; simp), if_neg e2, if_neg e3, if_neg e5, if_neg e4,
      wordP_plain n f t (p + 1) (Lx.addP ps 1 [c]) (by simpa using h) (fun j hj => hs (j + 1) (by omega)), List.drop_succ_cons, List.take_succ_cons, addRun_cons, show p + 1 + n = p + (n + 1) from by omega]

end Go.Proofs.YtfgbbmnmblchiaaDoor
