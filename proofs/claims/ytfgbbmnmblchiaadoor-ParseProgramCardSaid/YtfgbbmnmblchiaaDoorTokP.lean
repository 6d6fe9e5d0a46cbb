/-
  Tokens in plain words, and how tokens lie in memory.
-/
import Derived.Test.YtfgbbmnmblchiaaDoorWord
namespace Go.Proofs.YtfgbbmnmblchiaaDoor
open Go.RowKit
set_option linter.unusedVariables false

theorem tokP_nil (f p : Nat) (acc : List Lx.Tok) : Lx.tokP f [] p acc = .ok acc := by cases f <;> rfl

theorem tokP_cons (f : Nat) (c : UInt8) (t : List UInt8) (p : Nat) (acc : List Lx.Tok) : Lx.tokP (f + 1) (c :: t) p acc =
    if c = 32 ∨ c = 9 then Lx.tokP f t (p + 1) acc
    else if c = 35 then Lx.tokP f ((c :: t).drop (Lx.noteLen (c :: t))) (p + Lx.noteLen (c :: t)) acc
    else if c = 59 ∨ c = 10 then Lx.tokP f t (p + 1) (acc ++ [⟨3, [59], [], p⟩])
    else if Lx.signOf (c :: t) ≠ [] then Lx.tokP f ((c :: t).drop (Lx.signOf (c :: t)).length) (p + (Lx.signOf (c :: t)).length) (acc ++ [⟨2, Lx.signOf (c :: t), [], p⟩])
    else if c = 38 then .bad p
    else (match Lx.wordP ((c :: t).length + 1) (c :: t) p [] with | .bad e => .bad e | .ok (l, p') => Lx.tokP f ((c :: t).drop (p' - p)) p' (acc ++ [⟨1, (c :: t).take (p' - p), l, p⟩])) := rfl

theorem wordP_ge : ∀ (f : Nat) (r : List UInt8) (p : Nat) (l l' : List Lx.Part) (p' : Nat), Lx.wordP f r p l = .ok (l', p') → p ≤ p'
  | 0, _, _, _, _, _, h => by cases h; exact Nat.le_refl _
  | f + 1, [], _, _, _, _, h => by cases h; exact Nat.le_refl _
  | f + 1, c :: t, p, l, l', p', h => by
    rw [wordP_cons] at h
    split at h
    · cases h; exact Nat.le_refl _
    · split at h
      · split at h
        · cases h
        · have := wordP_ge f _ _ _ _ _ h; omega
      · split at h
        · split at h
          · cases h
          · rename_i hq
            have := quotP_lt _ _ _ _ _ _ _ hq
            have := wordP_ge f _ _ _ _ _ h; omega
        · split at h
          · split at h
            · cases h
            · have := wordP_ge f _ _ _ _ _ h; omega
          · split at h
            · split at h
              · cases h
              · have := wordP_ge f _ _ _ _ _ h; omega
            · have := wordP_ge f _ _ _ _ _ h; omega

theorem wordP_gt (f : Nat) (c : UInt8) (t : List UInt8) (p : Nat) (l l' : List Lx.Part) (p' : Nat) (hc : Lx.endB c = false) (h : Lx.wordP (f + 1) (c :: t) p l = .ok (l', p')) : p < p' := by
  rw [wordP_cons, if_neg (by rw [hc]; simp)] at h
  split at h
  · split at h
    · cases h
    · have := wordP_ge f _ _ _ _ _ h; omega
  · split at h
    · split at h
      · cases h
      · rename_i hq
        have := quotP_lt _ _ _ _ _ _ _ hq
        have := wordP_ge f _ _ _ _ _ h; omega
    · split at h
      · split at h
        · cases h
        · rename_i hv
          have := varP_some hv
          have := wordP_ge f _ _ _ _ _ h; omega
      · split at h
        · split at h
          · cases h
          · have := wordP_ge f _ _ _ _ _ h; omega
        · have := wordP_ge f _ _ _ _ _ h; omega

theorem signOf_prefix (r : List UInt8) : Lx.signOf r <+: r := by
  unfold Lx.signOf
  cases h : Lx.signs.find? (fun x => x.isPrefixOf r) with
  | none => exact List.nil_prefix
  | some x => exact List.isPrefixOf_iff_prefix.1 (List.find?_some (p := fun (x : List UInt8) => x.isPrefixOf r) h)

theorem signOf_len (r : List UInt8) : (Lx.signOf r).length ≤ r.length := (signOf_prefix r).length_le

theorem sign_end (c : UInt8) (t : List UInt8) (h : Lx.signOf (c :: t) = []) (h38 : c ≠ 38) (h1 : ¬ (c = 32 ∨ c = 9)) (h2 : ¬ (c = 59 ∨ c = 10)) : Lx.endB c = false := by
  have hn : ∀ x ∈ Lx.signs, x.isPrefixOf (c :: t) = false := by
    unfold Lx.signOf at h
    cases hf : Lx.signs.find? (fun x => x.isPrefixOf (c :: t)) with
    | none =>
      intro x hx
      have := List.find?_eq_none.1 hf x hx
      exact eq_false_of_ne_true this
    | some x =>
      rw [hf] at h
      have hm := List.mem_of_find?_eq_some hf
      simp only [Option.getD_some] at h
      subst h
      simp [Lx.signs] at hm
  have key : ∀ d : UInt8, [d] ∈ Lx.signs → c ≠ d := by
    rintro d hd rfl
    have := hn _ hd
    simp at this
  have k1 := key 124 (by decide)
  have k2 := key 60 (by decide)
  have k3 := key 62 (by decide)
  have k4 := key 40 (by decide)
  have k5 := key 41 (by decide)
  cases he : Lx.endB c with
  | false => rfl
  | true =>
    simp only [Lx.endB, List.contains_cons, List.contains_nil, Bool.or_false, Bool.or_eq_true, beq_iff_eq] at he
    exfalso
    rcases he with he | he | he | he | he | he | he | he | he | he
    · exact h1 (.inl he)
    · exact h1 (.inr he)
    · exact h2 (.inr he)
    · exact h2 (.inl he)
    all_goals contradiction

theorem noteLen_pos (c : UInt8) (t : List UInt8) (h : c = 35) : 1 ≤ Lx.noteLen (c :: t) := by
  subst h
  simp [Lx.noteLen]

theorem noteLen_le (r : List UInt8) : Lx.noteLen r ≤ r.length := (List.takeWhile_prefix _).length_le

/-- the cells of tokens: vs are the pieces' slices. -/
def tcells (ts : List Lx.Tok) (vs : List Value) : List Value := (List.zip ts vs).flatMap fun x => tokCells x.1.kind x.1.text x.2 x.1.pos

/-- tokens in memory. -/
structure ToksAt (w : World) (v : Value) (ts : List Lx.Tok) (vs : List Value) : Prop where
  row : Row w 65 4 v ts.length (tcells ts vs)
  len : vs.length = ts.length
  parts : ∀ (i : Nat) (t : Lx.Tok) (u : Value), ts[i]? = some t → vs[i]? = some u → PartsAt w u t.parts ∧ ∃ a n, u = .slice a n n
  out : ∀ u ∈ vs, ∀ k ∈ rowBlock u, k ∉ rowBlock v

theorem ToksAt.nil (w : World) (a : Option Addr) : ToksAt w (.slice a 0 0) [] [] where
  row := Row.nil _ _ _ _
  len := rfl
  parts := by simp
  out := by simp

theorem ToksAt.kept {w w' : World} {F : List Nat} {v : Value} {ts : List Lx.Tok} {vs : List Value} (h : ToksAt w v ts vs) (hc : Chg F w w') (h1 : ∀ k ∈ rowBlock v, k ∉ F) (h2 : ∀ u ∈ vs, ∀ k ∈ rowBlock u, k ∉ F) : ToksAt w' v ts vs where
  row := h.row.kept hc h1
  len := h.len
  parts := fun i t u ht hu => ⟨(h.parts i t u ht hu).1.kept hc (h2 u (List.mem_of_getElem? hu)), (h.parts i t u ht hu).2⟩
  out := h.out

theorem ToksAt.kept0 {w w' : World} {v : Value} {ts : List Lx.Tok} {vs : List Value} (h : ToksAt w v ts vs) (hc : Chg [] w w') : ToksAt w' v ts vs := h.kept hc (by simp) (by simp)

theorem tcells_snoc (ts : List Lx.Tok) (vs : List Value) (t : Lx.Tok) (u : Value) (h : vs.length = ts.length) : tcells (ts ++ [t]) (vs ++ [u]) = tcells ts vs ++ tokCells t.kind t.text u t.pos := by
  unfold tcells
  rw [List.zip_append h.symm]
  simp

/-- one token more. -/
theorem ToksAt.snoc {w w' : World} {F : List Nat} {v v' : Value} {ts : List Lx.Tok} {vs : List Value} (h : ToksAt w v ts vs) (hc : Chg F w w') (h2 : ∀ u ∈ vs, ∀ k ∈ rowBlock u, k ∉ F) (t : Lx.Tok) (u : Value)
    (hr : Row w' 65 4 v' (ts.length + 1) (tcells ts vs ++ tokCells t.kind t.text u t.pos)) (hp : PartsAt w' u t.parts) (hu : ∃ a n, u = .slice a n n) (ho : ∀ k ∈ rowBlock u, k ∉ rowBlock v')
    (hb : ∀ k ∈ rowBlock v', k ∈ rowBlock v ∨ w.heap.size ≤ k) : ToksAt w' v' (ts ++ [t]) (vs ++ [u]) where
  row := by rw [tcells_snoc _ _ _ _ h.len, List.length_append]; exact hr
  len := by simp [h.len]
  parts := by
    intro i t' u' ht hu'
    rw [List.getElem?_append] at ht hu'
    by_cases hi : i < ts.length
    · rw [if_pos hi] at ht
      rw [if_pos (by rw [h.len]; exact hi)] at hu'
      exact ⟨(h.parts i t' u' ht hu').1.kept hc (h2 u' (List.mem_of_getElem? hu')), (h.parts i t' u' ht hu').2⟩
    · rw [if_neg hi] at ht
      rw [if_neg (by rw [h.len]; exact hi), h.len] at hu'
      have hz : i - ts.length = 0 := by
        cases hz : i - ts.length with
        | zero => rfl
        | succ j => rw [hz] at ht; simp at ht
      rw [hz] at ht hu'
      simp at ht hu'
      subst ht hu'
      exact ⟨hp, hu⟩
  out := by
    intro x hx k hk hkv
    rcases List.mem_append.1 hx with hx | hx
    · rcases hb k hkv with h1 | h1
      · exact h.out x hx k hk h1
      · obtain ⟨i, hi⟩ := List.mem_iff_getElem?.1 hx
        have hlt : i < ts.length := by rw [← h.len]; exact (List.getElem?_eq_some_iff.1 hi).1
        have := Row.block_lt (h.parts i _ x (List.getElem?_eq_getElem hlt) hi).1 k hk
        omega
    · simp at hx
      subst hx
      exact ho k hk hkv

/-- what holds at the head of each round. -/
structure TokAt (w : World) (rb : Nat) (l : List UInt8) (p : Nat) (v : Value) (ts : List Lx.Tok) (vs : List Value) (wr : World) : Prop where
  read : ReadAt wr rb l p v
  toks : ToksAt wr v ts vs
  out : rb ∉ rowBlock v
  outs : ∀ u ∈ vs, rb ∉ rowBlock u
  new : w.heap.size ≤ rb
  news : ∀ k ∈ rowBlock v, w.heap.size ≤ k
  chg : Chg [] w wr
  few : ts.length ≤ p
  le : p ≤ l.length

theorem TokAt.kept0 {w wr w' : World} {rb : Nat} {l : List UInt8} {p : Nat} {v : Value} {ts : List Lx.Tok} {vs : List Value} (h : TokAt w rb l p v ts vs wr) (hc : Chg [] wr w') : TokAt w rb l p v ts vs w' :=
  { h with read := h.read.kept0 hc, toks := h.toks.kept0 hc, chg := h.chg.then0 hc }

theorem TokAt.moved {w wr : World} {rb : Nat} {l : List UInt8} {p : Nat} {v : Value} {ts : List Lx.Tok} {vs : List Value} (h : TokAt w rb l p v ts vs wr) (q : Nat) (z : Int) (hz : z = q) (h1 : p ≤ q) (h2 : q ≤ l.length) :
    TokAt w rb l q v ts vs (wr.setCell ⟨rb, 1, none⟩ (.int .i64 z)) := by
  subst hz
  have hc : Chg [rb] wr (wr.setCell ⟨rb, 1, none⟩ (.int .i64 q)) := (Chg.refl [rb] wr).setCell _ _ (.inl (by simp))
  refine { h with read := h.read.set q, toks := h.toks.kept hc ?_ ?_, chg := h.chg.trans hc ?_, few := Nat.le_trans h.few h1, le := h2 }
  · intro k hk; simp only [List.mem_singleton]; rintro rfl; exact h.out hk
  · intro u hu k hk; simp only [List.mem_singleton]; rintro rfl; exact h.outs u hu hk
  · intro x hx; simp at hx; subst hx; exact .inr h.new

theorem TokAt.rb_lt {w wr : World} {rb : Nat} {l : List UInt8} {p : Nat} {v : Value} {ts : List Lx.Tok} {vs : List Value} (h : TokAt w rb l p v ts vs wr) : rb < wr.heap.size := h.read.lt

/-- one token more: the row written, the reader's third cell set, then its place. -/
theorem TokAt.added {w wr w1 w2 : World} {rb : Nat} {l : List UInt8} {p : Nat} {v v' : Value} {ts : List Lx.Tok} {vs : List Value} (h : TokAt w rb l p v ts vs wr) (h1 : Chg [] wr w1) (h2 : Chg (rowBlock v) w1 w2) (k : Int) (t : List UInt8)
    (hr : Row w2 65 4 v' (ts.length + 1) (tcells ts vs ++ tokCells k t (.slice none 0 0) p)) (hb : ∀ x ∈ rowBlock v', x ∈ rowBlock v ∨ w1.heap.size ≤ x) (q : Nat) (z : Int) (hz : z = q) (hq : p < q) (hl : q ≤ l.length) :
    TokAt w rb l q v' (ts ++ [⟨k, t, [], p⟩]) (vs ++ [.slice none 0 0]) ((w2.setCell ⟨rb, 2, none⟩ v').setCell ⟨rb, 1, none⟩ (.int .i64 z)) := by
  subst hz
  have hlt := h.read.lt
  have h12 : Chg (rowBlock v) wr w2 := (h1.mono (by simp)).trans h2 (fun x hx => .inl hx)
  have hb' : ∀ x ∈ rowBlock v', x ∈ rowBlock v ∨ wr.heap.size ≤ x := fun x hx => (hb x hx).imp id (Nat.le_trans h1.size)
  have hrv : rb ∉ rowBlock v' := fun hx => by
    rcases hb' rb hx with h3 | h3
    · exact h.out h3
    · omega
  have hT : ToksAt w2 v' (ts ++ [⟨k, t, [], p⟩]) (vs ++ [.slice none 0 0]) :=
    h.toks.snoc h12 (fun u hu x hx => h.toks.out u hu x hx) ⟨k, t, [], p⟩ (.slice none 0 0) hr (PartsAt.nil _ _) ⟨none, 0, rfl⟩ (by simp [rowBlock]) hb'
  have hR2 : ReadAt w2 rb l p v := (h.read.kept0 h1).kept h2 h.out
  have hs2 : Chg [rb] w2 (w2.setCell ⟨rb, 2, none⟩ v') := (Chg.refl [rb] w2).setCell _ _ (.inl (by simp))
  have hs1 : Chg [rb] (w2.setCell ⟨rb, 2, none⟩ v') ((w2.setCell ⟨rb, 2, none⟩ v').setCell ⟨rb, 1, none⟩ (.int .i64 q)) := (Chg.refl [rb] _).setCell _ _ (.inl (by simp))
  have hs : Chg [rb] w2 ((w2.setCell ⟨rb, 2, none⟩ v').setCell ⟨rb, 1, none⟩ (.int .i64 q)) := hs2.trans hs1 (fun x hx => .inl hx)
  have houts : ∀ u ∈ vs ++ [Value.slice none 0 0], rb ∉ rowBlock u := by
    intro u hu
    rcases List.mem_append.1 hu with hu | hu
    · exact h.outs u hu
    · simp at hu; subst hu; simp [rowBlock]
  exact
    { read := (hR2.setOut v').set q
      toks := hT.kept hs (fun k hk => by simp only [List.mem_singleton]; rintro rfl; exact hrv hk) (fun u hu k hk => by simp only [List.mem_singleton]; rintro rfl; exact houts u hu hk)
      out := hrv
      outs := houts
      new := h.new
      news := fun x hx => by
        rcases hb' x hx with h3 | h3
        · exact h.news x h3
        · exact Nat.le_trans h.chg.size h3
      chg := (h.chg.trans h12 (fun x hx => .inr (h.news x hx))).trans hs (fun x hx => by simp at hx; subst hx; exact .inr h.new)
      few := by rw [List.length_append, List.length_singleton]; have := h.few; omega
      le := hl }

/-- a word more. -/
theorem TokAt.word {w wr w' : World} {rb : Nat} {l : List UInt8} {p p' : Nat} {v : Value} {ts : List Lx.Tok} {vs : List Value} {ps : List Lx.Part} {e : Ending} (h : TokAt w rb l p v ts vs wr)
    (hw : WordPost wr rb l v ts.length (tcells ts vs) p (.ok (ps, p')) e w') (hp : p < p') :
    e = .returned (.int .i64 (-1)) ∧ ∃ v' u, TokAt w rb l p' v' (ts ++ [⟨1, (l.drop p).take (p' - p), ps, p⟩]) (vs ++ [u]) w' := by
  obtain ⟨rfl, hqp, hle, v', a, n, hR, hrow, hP, hC, hne, hb⟩ := hw
  have hlt := h.read.lt
  refine ⟨rfl, v', .slice a n n, ?_⟩
  have hrv : rb ∉ rowBlock v' := fun hx => by
    rcases hb rb hx with h3 | h3
    · exact h.out h3
    · omega
  have hT : ToksAt w' v' (ts ++ [⟨1, (l.drop p).take (p' - p), ps, p⟩]) (vs ++ [.slice a n n]) :=
    h.toks.snoc hC (fun u hu x hx => by
      simp only [List.mem_cons, not_or]
      exact ⟨fun e => h.outs u hu (e ▸ hx), h.toks.out u hu x hx⟩) ⟨1, (l.drop p).take (p' - p), ps, p⟩ (.slice a n n) hrow hP ⟨a, n, rfl⟩ (fun k hk => (hne k hk).2) hb
  exact
    { read := hR
      toks := hT
      out := hrv
      outs := fun u hu => by
        rcases List.mem_append.1 hu with hu | hu
        · exact h.outs u hu
        · simp at hu; subst hu
          intro hx
          have := (hne rb hx).1
          omega
      new := h.new
      news := fun x hx => by
        rcases hb x hx with h3 | h3
        · exact h.news x h3
        · exact Nat.le_trans h.chg.size h3
      chg := h.chg.trans hC (fun x hx => by
        rcases List.mem_cons.1 hx with rfl | hx
        · exact .inr h.new
        · exact .inr (h.news x hx))
      few := by rw [List.length_append, List.length_singleton]; have := h.few; omega
      le := hle }

end Go.Proofs.YtfgbbmnmblchiaaDoor
