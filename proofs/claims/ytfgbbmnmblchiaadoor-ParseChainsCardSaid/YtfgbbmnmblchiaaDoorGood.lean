/-
  Tokens are such as the reader of commands wants them: short, a word that begins with 'name=' begins with a piece that holds it.
-/
import Derived.Test.YtfgbbmnmblchiaaDoorFail
namespace Go.Proofs.YtfgbbmnmblchiaaDoor
open Go.RowKit
set_option linter.unusedVariables false

def Big (k : Nat) (l : List Lx.Part) : Prop := ∃ p r, l = p :: r ∧ k ≤ p.text.length

theorem Big.add {k : Nat} {l : List Lx.Part} (h : Big k l) (q : Int) (t : List UInt8) : Big k (Lx.addP l q t) := by
  obtain ⟨p, r, rfl, hk⟩ := h
  rcases List.eq_nil_or_concat r with rfl | ⟨r', x, rfl⟩
  · have := addP_last [] p q t
    rw [List.nil_append] at this
    rw [this]
    split
    · exact ⟨_, [], rfl, by simp; omega⟩
    · split
      · exact ⟨p, [], rfl, hk⟩
      · exact ⟨p, _, rfl, hk⟩
  · have := addP_last (p :: r') x q t
    rw [List.concat_eq_append, ← List.cons_append, this]
    split
    · exact ⟨p, _, rfl, hk⟩
    · split
      · exact ⟨p, _, rfl, hk⟩
      · exact ⟨p, _, rfl, hk⟩

theorem Big.var {k : Nat} {l l' : List Lx.Part} (h : Big k l) {q : Int} {r : List UInt8} {n : Nat} (hv : Lx.varP l q r = some (l', n)) : Big k l' := by
  unfold Lx.varP at hv
  split at hv
  · cases hv
  · cases hv
    split
    · exact h.add _ _
    · exact h.add _ _

theorem Big.quot {k : Nat} (q : Nat) : ∀ (f : Nat) (r : List UInt8) (p : Nat) (l l' : List Lx.Part) (p' : Nat), Big k l → Lx.quotP q f r p l = .ok (l', p') → Big k l'
  | 0, _, _, _, _, _, _, h => by simp [Lx.quotP] at h
  | f + 1, [], _, _, _, _, _, h => by simp [Lx.quotP] at h
  | f + 1, b :: t, p, l, l', p', hb, h => by
    rw [quotP_cons] at h
    split at h
    · cases h; exact hb
    · split at h
      · split at h
        · cases h
        · rename_i hv
          exact Big.quot q f _ _ _ _ _ (hb.var hv) h
      · split at h
        · exact Big.quot q f _ _ _ _ _ (hb.add _ _) h
        · exact Big.quot q f _ _ _ _ _ (hb.add _ _) h

theorem Big.word {k : Nat} : ∀ (f : Nat) (r : List UInt8) (p : Nat) (l l' : List Lx.Part) (p' : Nat), Big k l → Lx.wordP f r p l = .ok (l', p') → Big k l'
  | 0, _, _, _, _, _, hb, h => by cases h; exact hb
  | f + 1, [], _, _, _, _, hb, h => by cases h; exact hb
  | f + 1, c :: t, p, l, l', p', hb, h => by
    rw [wordP_cons] at h
    split at h
    · cases h; exact hb
    · split at h
      · split at h
        · cases h
        · exact Big.word f _ _ _ _ _ (hb.add _ _) h
      · split at h
        · split at h
          · cases h
          · rename_i hq
            exact Big.word f _ _ _ _ _ (Big.quot _ _ _ _ _ _ _ hb hq) h
        · split at h
          · split at h
            · cases h
            · rename_i hv
              exact Big.word f _ _ _ _ _ (hb.var hv) h
          · split at h
            · split at h
              · cases h
              · refine Big.word f _ _ _ _ _ ?_ h
                split
                · exact hb
                · exact hb.add _ _
            · exact Big.word f _ _ _ _ _ (hb.add _ _) h

theorem later_spec (c : UInt8) (h : Lx.laterB c = true) : Lx.specB c = false := by
  cases hs : Lx.specB c with
  | false => rfl
  | true =>
    exfalso
    unfold Lx.specB at hs
    rw [List.contains_iff_mem] at hs
    simp only [List.mem_cons, List.not_mem_nil, or_false] at hs
    rcases hs with rfl | rfl | rfl | rfl | rfl | rfl | rfl | rfl | rfl | rfl | rfl | rfl | rfl | rfl <;> exact absurd h (by decide)

theorem isName_later {l : List UInt8} (h : Lx.isName l = true) : ∀ c ∈ l, Lx.laterB c = true := by
  unfold Lx.isName at h
  simp only [Bool.and_eq_true, decide_eq_true_eq] at h
  obtain ⟨hne, hn⟩ := h
  rw [nameLen_eq] at hn
  have hl : l.length ≠ 0 := fun h => hne (List.eq_nil_of_length_eq_zero h)
  split at hn
  · have h1 := (List.takeWhile_sublist Lx.laterB (l := l)).length_le
    have h2 : (l.takeWhile Lx.laterB).length = l.length := by omega
    have h3 : l.takeWhile Lx.laterB = l := (List.takeWhile_sublist Lx.laterB (l := l)).eq_of_length h2
    intro c hc
    rw [← h3] at hc
    exact List.all_eq_true.1 (List.all_takeWhile (p := Lx.laterB) (l := l)) c hc
  · omega

theorem idx_at : ∀ (l : List UInt8) (c : UInt8) (k : Nat), Lx.idx c l = some k → l[k]? = some c
  | [], c, k, h => by simp [Lx.idx] at h
  | b :: t, c, k, h => by
    unfold Lx.idx at h
    rw [List.findIdx?_cons] at h
    split at h
    · rename_i hb
      cases h
      have : b = c := by simpa using hb
      simp [this]
    · cases hk : t.findIdx? (· == c) with
      | none => rw [hk] at h; cases h
      | some j =>
        rw [hk] at h
        cases h
        simpa using idx_at t c j hk

/-- a word that begins with 'name=' begins with a piece that holds it. -/
theorem word_good {r : List UInt8} {p : Nat} {l : List Lx.Part} {p' : Nat} (h : Lx.wordP (r.length + 1) r p [] = .ok (l, p')) (n k : Nat) (hi : Lx.idx 61 (r.take n) = some k) (hn : Lx.isName ((r.take n).take k) = true) : Big (k + 1) l := by
  have hk := idx_lt _ _ _ hi
  rw [List.length_take] at hk
  have ha := idx_at _ _ _ hi
  have hlat := isName_later hn
  have hw := wordP_plain (k + 1) (r.length - k) r p [] (by omega) (fun j hj => by
    by_cases hjk : j = k
    · subst hjk
      rw [List.getElem?_take] at ha
      split at ha
      · rw [List.getD_eq_getElem?_getD, ha]
        decide
      · cases ha
    · refine later_spec _ (hlat _ ?_)
      rw [List.take_take, List.getD_eq_getElem?_getD]
      have hj2 : j < r.length := by omega
      rw [List.getElem?_eq_getElem hj2]
      refine List.mem_take_iff_getElem.2 ⟨j, by omega, rfl⟩)
  rw [show r.length - k + (k + 1) = r.length + 1 from by omega] at hw
  rw [hw] at h
  refine Big.word _ _ _ _ _ _ ?_ h
  unfold addRun
  rw [if_neg (fun e => by have := congrArg List.length e; rw [List.length_take, List.length_nil] at this; omega)]
  unfold Lx.addP
  simp only [List.getLast?_nil]
  rw [if_neg (fun e => by have := congrArg List.length e.2; rw [List.length_take, List.length_nil] at this; omega)]
  exact ⟨_, [], rfl, by rw [List.length_take]; omega⟩

theorem word_sm : ∀ (f : Nat) (r : List UInt8) (p : Nat) (l l' : List Lx.Part) (p' : Nat), Sm l p → Lx.wordP f r p l = .ok (l', p') → Sm l' p' ∧ p ≤ p' ∧ p' ≤ p + r.length
  | 0, _, _, _, _, _, hs, h => by cases h; exact ⟨hs, by omega, by omega⟩
  | f + 1, [], _, _, _, _, hs, h => by cases h; exact ⟨hs, by omega, by omega⟩
  | f + 1, c :: t, p, l, l', p', hs, h => by
    rw [wordP_cons] at h
    rw [List.length_cons]
    split at h
    · cases h; exact ⟨hs, by omega, by omega⟩
    · split at h
      · split at h
        · cases h
        · rename_i k hk
          have hlt := idx_lt _ _ _ hk
          obtain ⟨h1, h2, h3⟩ := word_sm f _ _ _ _ _ (hs.add 1 _ (M := k + 2) (by rw [List.length_take]; omega) (by omega)) h
          rw [List.length_drop] at h3
          exact ⟨h1, by omega, by omega⟩
      · split at h
        · split at h
          · cases h
          · rename_i hq
            obtain ⟨q1, q2, q3⟩ := quotP_ok _ _ _ _ _ _ _ (hs.mono (by omega)) hq
            obtain ⟨h1, h2, h3⟩ := word_sm f _ _ _ _ _ q3 h
            rw [List.length_drop, List.length_cons] at h3
            exact ⟨h1, by omega, by omega⟩
        · split at h
          · split at h
            · cases h
            · rename_i hv
              have hv2 := varP_some hv
              obtain ⟨h1, h2, h3⟩ := word_sm f _ _ _ _ _ (hs.var hv) h
              rw [List.length_drop, List.length_cons] at h3
              exact ⟨h1, by omega, by omega⟩
          · split at h
            · split at h
              · cases h
              · rename_i hne
                have hw := Lx.wid_le t hne
                obtain ⟨h1, h2, h3⟩ := word_sm f _ _ _ _ _ (by
                  split
                  · exact hs.mono (by omega)
                  · rw [Nat.add_assoc]
                    exact hs.add 1 _ (M := 1 + Lx.wid t) (by rw [List.length_take]; omega) (by omega)) h
                rw [List.length_drop] at h3
                exact ⟨h1, by omega, by omega⟩
            · obtain ⟨h1, h2, h3⟩ := word_sm f _ _ _ _ _ (hs.add 1 [c] (M := 1) (by simp) (by omega)) h
              exact ⟨h1, by omega, by omega⟩

theorem tokP_good : ∀ (f : Nat) (r : List UInt8) (p : Nat) (acc ts : List Lx.Tok), (∀ t ∈ acc, GoodT t) → p + r.length ≤ 2048 → Lx.tokP f r p acc = .ok ts → (∀ t ∈ ts, GoodT t) ∧ ts.length ≤ acc.length + r.length
  | 0, _, _, _, _, ha, _, h => by cases h; exact ⟨ha, by omega⟩
  | f + 1, [], _, _, _, ha, _, h => by cases h; exact ⟨ha, by omega⟩
  | f + 1, c :: t, p, acc, ts, ha, hl, h => by
    rw [List.length_cons] at hl
    have snoc : ∀ x : Lx.Tok, GoodT x → ∀ y ∈ acc ++ [x], GoodT y := by
      intro x hx y hy
      rcases List.mem_append.1 hy with hy | hy
      · exact ha y hy
      · simp at hy; subst hy; exact hx
    rw [tokP_cons] at h
    rw [List.length_cons]
    split at h
    · obtain ⟨h1, h2⟩ := tokP_good f _ _ _ _ ha (by omega) h
      exact ⟨h1, by omega⟩
    · split at h
      · have := noteLen_le (c :: t)
        rw [List.length_cons] at this
        obtain ⟨h1, h2⟩ := tokP_good f _ _ _ _ ha (by rw [List.length_drop, List.length_cons]; omega) h
        rw [List.length_drop, List.length_cons] at h2
        exact ⟨h1, by omega⟩
      · split at h
        · obtain ⟨h1, h2⟩ := tokP_good f _ _ _ _ (snoc _ ⟨by simp, by simp, by simp⟩) (by omega) h
          rw [List.length_append, List.length_singleton] at h2
          exact ⟨h1, by omega⟩
        · split at h
          · rename_i hsg
            have := signOf_len (c :: t)
            rw [List.length_cons] at this
            have hs0 : (Lx.signOf (c :: t)).length ≠ 0 := fun e => hsg (List.eq_nil_of_length_eq_zero e)
            obtain ⟨h1, h2⟩ := tokP_good f _ _ _ _ (snoc _ ⟨by simp; omega, by simp, by simp⟩) (by rw [List.length_drop, List.length_cons]; omega) h
            rw [List.length_append, List.length_singleton, List.length_drop, List.length_cons] at h2
            exact ⟨h1, by omega⟩
          · split at h
            · cases h
            · rename_i n1 n2 n3 n4 n5
              split at h
              · cases h
              · rename_i l' p' hw
                have hc : Lx.endB c = false := sign_end c t (by simpa using n4) n5 n1 n3
                have h0 := wordP_gt _ _ _ _ _ _ _ hc hw
                obtain ⟨s1, s2, s3⟩ := word_sm _ _ _ _ _ _ (Sm.nil p) hw
                rw [List.length_cons] at s3
                obtain ⟨h1, h2⟩ := tokP_good f _ _ _ _ (snoc ⟨1, (c :: t).take (p' - p), l', p⟩ ⟨by rw [List.length_take, List.length_cons]; omega, fun _ k hi hn => word_good hw _ k hi hn, by have := s1.len; show l'.length ≤ 2048; omega⟩) (by rw [List.length_drop, List.length_cons]; omega) h
                rw [List.length_append, List.length_singleton, List.length_drop, List.length_cons] at h2
                exact ⟨h1, by omega⟩

theorem tokens_ok {l : List UInt8} (hl : ¬ 2048 < l.length) {e : Int} {a : Nat} {ts : List Lx.Tok} (h : Lx.tokens l = (e, a, ts)) : (∀ t ∈ ts, GoodT t) ∧ ts.length ≤ 2048 := by
  unfold Lx.tokens at h
  rw [if_neg hl] at h
  split at h
  · cases h; exact ⟨by simp, by simp⟩
  · split at h
    · cases h; exact ⟨by simp, by simp⟩
    · rename_i hr
      cases h
      obtain ⟨h1, h2⟩ := tokP_good _ _ _ _ _ (by simp) (by omega) hr
      exact ⟨h1, by simp at h2; omega⟩

end Go.Proofs.YtfgbbmnmblchiaaDoor
