/-
  A 'for': walked.
-/
import Derived.Test.YtfgbbmnmblchiaaDoorMoves
namespace Go.Proofs.YtfgbbmnmblchiaaDoor
open Go.RowKit
set_option linter.unusedVariables false

/-- a row of words that grows beside a node's other cells. -/
structure WordsB (w : World) (pb : Nat) (a : Option Addr) (c : Nat) (ts : List Lx.Tok) (vs : List Value) (rb nb : Nat) (k : Int) (nm : List UInt8) (q deep : Nat) (ps : List (List Lx.Part)) (wv : Value) (xs : List Value) (wr : World) : Prop where
  base : Base w pb a c ts vs q deep wr
  nd : wr.heap[nb]? = some (.cells #[.int .i64 k, .slice none 0 0, .string (Lx.strB nm), wv, .slice none 0 0, .slice none 0 0] 30 (0, 0))
  row : Row wr 49 1 wv ps.length xs
  words : WordsAt wr (TB (.slice a ts.length c) vs) ps xs
  new : ∀ k ∈ rowBlock wv, w.heap.size < k ∧ k ≠ nb
  nb0 : w.heap.size < nb
  few : ps.length ≤ q + 1

theorem Tryd.infoWord : (Tryd.prog.info? 49).map (fun i => (i.zero, i.size, i.bytes)) = some (some (.slice none 0 0), 1, 24) := by kernel_rfl

theorem ToksAt.cell5 {w : World} {a : Option Addr} {n c : Nat} {ts : List Lx.Tok} {vs : List Value} (h : ToksAt w (.slice a n c) ts vs) (k : Nat) (t : Lx.Tok) (hk : ts[k]? = some t) :
    ∃ g a' n', a = some ⟨g, 0, none⟩ ∧ w.cell? ⟨g, k * 4, none⟩ = some (.int .i64 t.kind) ∧ w.cell? ⟨g, k * 4 + 1, none⟩ = some (.string (Lx.strB t.text)) ∧ w.cell? ⟨g, k * 4 + 2, none⟩ = some (.slice a' n' n') ∧ WordIn w (TB (.slice a n c) vs) 0 (.slice a' n' n') t.parts := by
  have hlt := (List.getElem?_eq_some_iff.1 hk).1
  obtain ⟨g, rfl, _, _, hc⟩ := h.cells (by omega)
  obtain ⟨u, hu⟩ : ∃ u, vs[k]? = some u := ⟨_, List.getElem?_eq_getElem (by rw [h.len]; exact hlt)⟩
  obtain ⟨hp, a', n', rfl⟩ := h.parts k t u hk hu
  have := hc k t _ hk hu
  exact ⟨g, a', n', rfl, by rw [Nat.mul_comm]; exact this.kind, by rw [Nat.mul_comm]; exact this.text, by rw [Nat.mul_comm]; exact this.ps, PartsAt.word hp (fun j hj => .inr (.inr ⟨_, List.mem_of_getElem? hu, hj⟩))⟩

section
variable {w wr w' : World} {pb : Nat} {a : Option Addr} {c : Nat} {ts : List Lx.Tok} {vs : List Value} {rb nb : Nat} {k : Int} {nm : List UInt8} {q deep : Nat} {ps : List (List Lx.Part)} {wv : Value} {xs : List Value}

theorem WordsB.call (h : WordsB w pb a c ts vs rb nb k nm q deep ps wv xs wr) (hc : Chg [pb] wr w') {q' : Nat} (hp : PS w' pb a c ts vs q' deep 0) (hq : q ≤ q') : WordsB w pb a c ts vs rb nb k nm q' deep ps wv xs w' := by
  have h1 := h.base.old.1
  have h2 := h.nb0
  exact
    { h with
      base := h.base.call hc hp
      nd := hc.obj h.nd (by simp; omega)
      row := h.row.kept hc (fun j hj => by have := (h.new j hj).1; simp; omega)
      words := WordsAt.kept hc (fun j hj => by simp at hj; subst hj; exact h.base.ps.out) h.words
      few := Nat.le_trans h.few (Nat.succ_le_succ hq) }
theorem WordsB.kept0 (h : WordsB w pb a c ts vs rb nb k nm q deep ps wv xs wr) (hc : Chg [] wr w') : WordsB w pb a c ts vs rb nb k nm q deep ps wv xs w' := h.call (hc.mono (by simp)) (h.base.ps.chg0 hc) (Nat.le_refl _)

theorem Base.turnL (h : Base w pb a c ts vs q deep wr) {F : List Nat} (hc : Chg F wr w') (hb : ∀ j ∈ F, w.heap.size < j) : Base w pb a c ts vs q deep w' :=
  { h with
    ps := h.ps.chg hc (fun j hj => by have := hb j hj; exact ⟨by have := h.old.1; omega, fun ht => by have := h.old.2 _ ht; omega⟩)
    rs := hc.obj h.rs (fun hj => by have := hb _ hj; omega)
    chg := h.chg.trans hc (fun x hx => .inr (by have := hb x hx; omega)) }

theorem WordsB.add {w1 w2 w3 : World} (h : WordsB w pb a c ts vs rb nb k nm q deep ps wv xs w1) {p : List Lx.Part} {u v' : Value} (hn : WordIn w1 (TB (.slice a ts.length c) vs) 0 u p) (h12 : Chg [] w1 w2) (hr : Row w3 49 1 v' (ps.length + 1) (xs ++ [u]))
    (h23 : Chg (rowBlock wv) w2 w3) (hb : ∀ k ∈ rowBlock v', k ∈ rowBlock wv ∨ w1.heap.size ≤ k) (hf : ps.length + 1 ≤ q + 1) : WordsB w pb a c ts vs rb nb k nm q deep (ps ++ [p]) v' (xs ++ [u]) (w3.setCell ⟨nb, 3, none⟩ v') := by
  have h13 : Chg (rowBlock wv) w1 w3 := (h12.mono (by simp)).trans h23 (fun x hx => .inl hx)
  have hs : Chg [nb] w3 (w3.setCell ⟨nb, 3, none⟩ v') := (Chg.refl [nb] w3).setCell _ _ (.inl (by simp))
  have hlt := lt_of_obj h.nd
  have hsz := h.base.chg.size
  have hnb := h.nb0
  have n2 : ∀ j ∈ rowBlock v', w.heap.size < j ∧ j ≠ nb := fun j hj => by
    rcases hb j hj with h1 | h1
    · exact h.new j h1
    · exact ⟨by omega, by omega⟩
  have nt : ∀ j, w.heap.size < j → ¬ TB (.slice a ts.length c) vs j := fun j hj ht => by have := h.base.old.2 j ht; omega
  exact
    { base := (h.base.turnL h13 (fun j hj => (h.new j hj).1)).turnL hs (fun j hj => by simp at hj; omega)
      nd := obj_setCell (h13.obj h.nd (fun hj => (h.new _ hj).2 rfl)) 3 v'
      row := by
        rw [List.length_append, List.length_singleton]
        exact hr.kept hs (fun j hj => by simp; exact (n2 j hj).2)
      words := WordsAt.kept hs (fun j hj => by simp at hj; subst hj; exact nt _ hnb) (WordsAt.kept h13 (fun j hj => nt _ (h.new j hj).1) (WordsAt.snoc h.words hn))
      new := n2
      nb0 := hnb
      few := by rw [List.length_append, List.length_singleton]; exact hf }
end

section
variable {ts : List Lx.Tok} {cmd : Nat → Ps.Res Ps.Node} {p q r : Nat} {e : Int} {x : Ps.Node} {t : Lx.Tok} {u v : Unit}
theorem eachP_1 (h : Ps.isT ts p 1 [] = false) : Ps.eachP ts cmd p = .bad 10 p := by
  unfold Ps.eachP
  cases ht : ts[p]? with
  | none => rfl
  | some t =>
    rw [isT_some ht] at h
    have hk : ¬ t.kind = 1 := by simpa using h
    exact if_neg (fun h => hk h.1)
theorem eachP_2 (ht : ts[p]? = some t) (h : Lx.isName t.text = false) : Ps.eachP ts cmd p = .bad 10 p := by
  unfold Ps.eachP
  rw [ht]
  exact if_neg (fun h2 => by rw [h] at h2; exact absurd h2.2 (by decide))
theorem eachP_3 (ht : ts[p]? = some t) (hk : t.kind = 1) (hn : Lx.isName t.text = true) (h : Ps.wantP ts (p + 1) 1 Ps.kwIn = .bad e q) : Ps.eachP ts cmd p = .bad e q := by simp [Ps.eachP, ht, hk, hn, h]
theorem eachP_4 (ht : ts[p]? = some t) (hk : t.kind = 1) (hn : Lx.isName t.text = true) (h : Ps.wantP ts (p + 1) 1 Ps.kwIn = .ok u q) (h2 : Ps.wantP ts (q + (Ps.wordsAt ts q).length) 3 [] = .bad e r) : Ps.eachP ts cmd p = .bad e r := by simp [Ps.eachP, ht, hk, hn, h, h2]
theorem eachP_5 {s : Nat} (ht : ts[p]? = some t) (hk : t.kind = 1) (hn : Lx.isName t.text = true) (h : Ps.wantP ts (p + 1) 1 Ps.kwIn = .ok u q) (h2 : Ps.wantP ts (q + (Ps.wordsAt ts q).length) 3 [] = .ok v r) (h3 : Ps.bodyP ts cmd (Ps.endsP ts r) = .bad e s) : Ps.eachP ts cmd p = .bad e s := by simp [Ps.eachP, ht, hk, hn, h, h2, h3]
theorem eachP_6 {s : Nat} (ht : ts[p]? = some t) (hk : t.kind = 1) (hn : Lx.isName t.text = true) (h : Ps.wantP ts (p + 1) 1 Ps.kwIn = .ok u q) (h2 : Ps.wantP ts (q + (Ps.wordsAt ts q).length) 3 [] = .ok v r) (h3 : Ps.bodyP ts cmd (Ps.endsP ts r) = .ok x s) : Ps.eachP ts cmd p = .ok (.mk 8 [x] t.text (Ps.wordsAt ts q) [] []) s := by simp [Ps.eachP, ht, hk, hn, h, h2, h3]
end

theorem wordsAt_here {ts : List Lx.Tok} {p : Nat} (h : Ps.isT ts p 1 [] = false) : Ps.wordsAt ts p = [] := by
  unfold Ps.wordsAt
  cases hd : ts.drop p with
  | nil => rfl
  | cons t r =>
    have ht : ts[p]? = some t := by
      have := congrArg List.head? hd
      simpa [List.head?_drop] using this
    rw [isT_some ht] at h
    have h3 : (t.kind == 1) = false := by simpa using h
    rw [List.takeWhile_cons_of_neg (by rw [h3]; decide)]
    rfl
theorem wordsAt_next {ts : List Lx.Tok} {p : Nat} {t : Lx.Tok} (ht : ts[p]? = some t) (h : Ps.isT ts p 1 [] = true) : Ps.wordsAt ts p = t.parts :: Ps.wordsAt ts (p + 1) := by
  have hlt := isT_lt h
  have he : ts[p] = t := by
    have := List.getElem?_eq_getElem hlt
    rw [ht] at this
    exact (Option.some.inj this).symm
  unfold Ps.wordsAt
  rw [List.drop_eq_getElem_cons hlt, he]
  rw [isT_some ht] at h
  have h3 : (t.kind == 1) = true := by simpa using h
  have h4 : List.takeWhile (fun t : Lx.Tok => t.kind == 1) (t :: List.drop (p + 1) ts) = t :: List.takeWhile (fun t : Lx.Tok => t.kind == 1) (List.drop (p + 1) ts) := List.takeWhile_cons_of_pos h3
  rw [h4]
  rfl

theorem WordsB.start {w : World} {pb : Nat} {a : Option Addr} {c : Nat} {ts : List Lx.Tok} {vs : List Value} {q deep : Nat} (h : PS w pb a c ts vs q deep 0) (k : Int) :
    WordsB w pb a c ts vs w.heap.size (w.heap.size + 1) k [] q deep [] (.slice none 0 0) [] ((w.alloc (.cells (nodeC 0 (.slice none 0 0)) 30)).alloc (.cells (nodeC k (.slice none 0 0)) 30)) := by
  have e : (w.alloc (.cells (nodeC 0 (.slice none 0 0)) 30)).heap.size = w.heap.size + 1 := by simp
  exact
    { base := (Base.start h).kept0 ((Chg.refl [] _).alloc _)
      nd := by rw [← e]; exact obj_alloc_new _ _
      row := Row.nil _ _ _ _
      words := rfl
      new := by simp [rowBlock]
      nb0 := by omega
      few := Nat.zero_le _ }

end Go.Proofs.YtfgbbmnmblchiaaDoor
