/-
  Which reading a word begins: walked.
  A reader of commands moves on: plain.
  A 'for': walked.
  A 'for': its words' block turned; how it ends.
  The variable that a word sets: walked.
  A command of words: how it lies in memory while it grows; plain steps; redirections' signs.
  The table of the redirections' signs, made anew and looked into.
-/
import Derived.Test.YtfgbbmnmblchiaaDoorBranch
import Derived.Test.YtfgbbmnmblchiaaDoorPm04
import Derived.Maps.OwnSet
import Derived.Maps.Range
namespace Go.Proofs.YtfgbbmnmblchiaaDoor
open Go.RowKit
set_option linter.unusedVariables false

/-- the reading of a kind, as a function value. -/
def readV (k : Nat) : Value := if k = 1 then (.func (.func 78) #[] #[]) else if k = 2 then (.func (.func 79) #[] #[]) else if k = 3 then (.func (.func 80) #[] #[]) else if k = 4 then (.func (.func 81) #[] #[]) else .nilFunc

theorem ret_v {a b : Value} (h : a = b) : Ending.returned a = .returned b := by rw [h]

set_option maxHeartbeats 4000000 in
set_option maxRecDepth 10000 in
theorem readings_any (x : List UInt8) (w : World) : Calls Tryd.prog 66 #[.string (Lx.strB x)] w fun e w' => e = .returned (readV (Ps.readK x)) ∧ w' = w := by
  have key : ∀ y : List UInt8, ((Lx.strB x).toList == y) = decide (x = y) := fun y => by
    rw [Lx.strB_toList]
    by_cases h : x = y
    · rw [decide_eq_true h]; simp [h]
    · rw [decide_eq_false h]; simp [h]
  have e1 := key [40]
  have e2 := key [105, 102]
  have e3 := key [119, 104, 105, 108, 101]
  have e4 := key [102, 111, 114]
  have HV := Lib.hid (show readV (Ps.readK x) = if decide (x = [40]) = true then readV 1 else if decide (x = [105, 102]) = true then readV 2 else if decide (x = [119, 104, 105, 108, 101]) = true then readV 3 else if decide (x = [102, 111, 114]) = true then readV 4 else readV 0 from by
    unfold Ps.readK Ps.kwIf Ps.kwWhile Ps.kwFor
    simp only [decide_eq_true_eq]
    repeat' split
    all_goals first | rfl | contradiction)
  clear key
  generalize decide (x = [40]) = b1 at *
  generalize decide (x = [105, 102]) = b2 at *
  generalize decide (x = [119, 104, 105, 108, 101]) = b3 at *
  generalize decide (x = [102, 111, 114]) = b4 at *
  cases b1 <;> cases b2 <;> cases b3 <;> cases b4
  all_goals
    go_enter Tryd.func66, Tryd.ntmps66
    go_wp2_with fail
    go_ret
    exact ⟨ret_v HV.out.symm, rfl⟩

end Go.Proofs.YtfgbbmnmblchiaaDoor

namespace Go.Proofs.YtfgbbmnmblchiaaDoor
open Go.RowKit
set_option linter.unusedVariables false

section
variable {ts : List Lx.Tok} {cmd : Nat → Ps.Res Ps.Node}

theorem endsP_ge (p : Nat) : p ≤ Ps.endsP ts p := Nat.le_add_right _ _

theorem listL_mono (hmv : Moves cmd) : ∀ (f p : Nat) (acc l : List Ps.Node) (b : Nat), Ps.listL ts cmd f p acc = .ok l b → p ≤ b
  | 0, p, acc, l, b, h => by
    unfold Ps.listL at h
    cases h
    exact Nat.le_refl _
  | f + 1, p, acc, l, b, h => by
    cases hc : Ps.closing ts p with
    | true => rw [listL_end hc] at h; cases h; exact Nat.le_refl _
    | false =>
      rw [listL_more hc] at h
      cases hk : Ps.chainP ts cmd p with
      | bad e q => rw [hk] at h; cases h
      | ok k q =>
        rw [hk] at h
        have h1 := chain_moves hmv hk
        replace h : (if Ps.isT ts q 3 [] = true then Ps.listL ts cmd f (Ps.endsP ts q) (acc ++ [k]) else .ok (acc ++ [k]) q) = .ok l b := h
        split at h
        · have := listL_mono hmv f _ _ _ _ h
          have := endsP_ge (ts := ts) q
          omega
        · cases h; omega
theorem listP_mono (hmv : Moves cmd) {sm : Bool} {p : Nat} {n : Ps.Node} {q : Nat} (h : Ps.listP ts cmd sm p = .ok n q) : p ≤ q := by
  rw [listP_eq] at h
  cases hl : Ps.listL ts cmd (ts.length + 1) (Ps.endsP ts p) [] with
  | bad e b => rw [hl] at h; cases h
  | ok l b =>
    rw [hl] at h
    have h1 := listL_mono hmv _ _ _ _ _ hl
    have h2 := endsP_ge (ts := ts) p
    replace h : (if sm = true ∧ l = [] then Ps.Res.bad 10 b else .ok (Ps.node 1 l) b) = .ok n q := h
    split at h
    · cases h
    · cases h; omega
theorem wantP_ok {p : Nat} {k : Int} {x : List UInt8} {u : Unit} {q : Nat} (h : Ps.wantP ts p k x = .ok u q) : q = p + 1 := by
  unfold Ps.wantP at h
  split at h
  · cases h; rfl
  · cases h

theorem groupP_mono (hmv : Moves cmd) {p : Nat} {n : Ps.Node} {q : Nat} (h : Ps.groupP ts cmd p = .ok n q) : p ≤ q := by
  cases hl : Ps.listP ts cmd true p with
  | bad e b => rw [groupP_bad hl] at h; cases h
  | ok x b =>
    have h1 := listP_mono hmv hl
    cases hw : Ps.wantP ts b 2 [41] with
    | bad e c => rw [groupP_bad2 hl hw] at h; cases h
    | ok u c =>
      have h2 := wantP_ok hw
      rw [groupP_ok hl hw] at h; cases h; omega
theorem bodyP_mono (hmv : Moves cmd) {p : Nat} {n : Ps.Node} {q : Nat} (h : Ps.bodyP ts cmd p = .ok n q) : p ≤ q := by
  cases hw : Ps.wantP ts p 1 Ps.kwDo with
  | bad e c => rw [bodyP_bad hw] at h; cases h
  | ok u c =>
    have h2 := wantP_ok hw
    cases hl : Ps.listP ts cmd true c with
    | bad e b => rw [bodyP_bad2 hw hl] at h; cases h
    | ok x b =>
      have h1 := listP_mono hmv hl
      cases hw2 : Ps.wantP ts b 1 Ps.kwDone with
      | bad e d => rw [bodyP_bad3 hw hl hw2] at h; cases h
      | ok v d =>
        have h3 := wantP_ok hw2
        rw [bodyP_ok hw hl hw2] at h; cases h; omega
theorem loopP_mono (hmv : Moves cmd) {p : Nat} {n : Ps.Node} {q : Nat} (h : Ps.loopP ts cmd p = .ok n q) : p ≤ q := by
  cases hl : Ps.listP ts cmd true p with
  | bad e b => rw [loopP_bad hl] at h; cases h
  | ok x b =>
    have h1 := listP_mono hmv hl
    cases hw : Ps.bodyP ts cmd b with
    | bad e c => rw [loopP_bad2 hl hw] at h; cases h
    | ok u c =>
      have h2 := bodyP_mono hmv hw
      rw [loopP_ok hl hw] at h; cases h; omega
theorem branchP_mono (hmv : Moves cmd) {p : Nat} {n : Ps.Node} {q : Nat} (h : Ps.branchP ts cmd p = .ok n q) : p ≤ q := by
  cases h1 : Ps.listP ts cmd true p with
  | bad e b => rw [branchP_1 h1] at h; cases h
  | ok x b =>
    have m1 := listP_mono hmv h1
    cases h2 : Ps.wantP ts b 1 Ps.kwThen with
    | bad e c => rw [branchP_2 h1 h2] at h; cases h
    | ok u c =>
      have m2 := wantP_ok h2
      cases h3 : Ps.listP ts cmd true c with
      | bad e d => rw [branchP_3 h1 h2 h3] at h; cases h
      | ok y d =>
        have m3 := listP_mono hmv h3
        cases h4 : Ps.isT ts d 1 Ps.kwElse with
        | true =>
          cases h5 : Ps.listP ts cmd true (d + 1) with
          | bad e f => rw [branchP_4 h1 h2 h3 h4 h5] at h; cases h
          | ok z f =>
            have m5 := listP_mono hmv h5
            cases h6 : Ps.wantP ts f 1 Ps.kwFi with
            | bad e g => rw [branchP_5 h1 h2 h3 h4 h5 h6] at h; cases h
            | ok v g =>
              have m6 := wantP_ok h6
              rw [branchP_6 h1 h2 h3 h4 h5 h6] at h; cases h; omega
        | false =>
          cases h6 : Ps.wantP ts d 1 Ps.kwFi with
          | bad e g => rw [branchP_7 h1 h2 h3 h4 h6] at h; cases h
          | ok v g =>
            have m6 := wantP_ok h6
            rw [branchP_8 h1 h2 h3 h4 h6] at h; cases h; omega
end

end Go.Proofs.YtfgbbmnmblchiaaDoor

namespace Go.Proofs.YtfgbbmnmblchiaaDoor
open Go.RowKit
set_option linter.unusedVariables false

/-- a row of words that grows beside a node's other cells. -/
structure WordsB (w : World) (pb : Nat) (a : Option Addr) (c : Nat) (ts : List Lx.Tok) (vs : List Value) (rb nb : Nat) (k : Int) (nm : List UInt8) (q deep : Nat) (ps : List (List Lx.Part)) (wv : Value) (xs : List Value) (wr : World) : Prop where
  base : Base w pb a c ts vs q deep wr
  nd : wr.heap[nb]? = some (.cells #[.int .i64 k, .slice none 0 0, .string (Lx.strB nm), wv, .slice none 0 0, .slice none 0 0] 30 (0, 0))
  row : Row wr 49 1 wv ps.length xs
  words : WordsAt wr (TB (.slice a ts.length c) vs) ps xs
  new : ∀ k ∈ rowBlock wv, w.heap.size < k ∧ k ≠ nb
  nb0 : w.heap.size < nb
  few : ps.length ≤ q + 1

theorem Tryd.infoWord : (Tryd.prog.info? 49).map (fun i => (i.zero, i.size, i.bytes)) = some (some (.slice none 0 0), 1, 24) := by kernel_rfl

theorem ToksAt.cell5 {w : World} {a : Option Addr} {n c : Nat} {ts : List Lx.Tok} {vs : List Value} (h : ToksAt w (.slice a n c) ts vs) (k : Nat) (t : Lx.Tok) (hk : ts[k]? = some t) :
    ∃ g a' n', a = some ⟨g, 0, none⟩ ∧ w.cell? ⟨g, k * 4, none⟩ = some (.int .i64 t.kind) ∧ w.cell? ⟨g, k * 4 + 1, none⟩ = some (.string (Lx.strB t.text)) ∧ w.cell? ⟨g, k * 4 + 2, none⟩ = some (.slice a' n' n') ∧ WordIn w (TB (.slice a n c) vs) 0 (.slice a' n' n') t.parts := by
  have hlt := (List.getElem?_eq_some_iff.1 hk).1
  obtain ⟨g, rfl, _, _, hc⟩ := h.cells (by omega)
  obtain ⟨u, hu⟩ : ∃ u, vs[k]? = some u := ⟨_, List.getElem?_eq_getElem (by rw [h.len]; exact hlt)⟩
  obtain ⟨hp, a', n', rfl⟩ := h.parts k t u hk hu
  have := hc k t _ hk hu
  exact ⟨g, a', n', rfl, by rw [Nat.mul_comm]; exact this.kind, by rw [Nat.mul_comm]; exact this.text, by rw [Nat.mul_comm]; exact this.ps, PartsAt.word hp (fun j hj => .inr (.inr ⟨_, List.mem_of_getElem? hu, hj⟩))⟩

section
variable {w wr w' : World} {pb : Nat} {a : Option Addr} {c : Nat} {ts : List Lx.Tok} {vs : List Value} {rb nb : Nat} {k : Int} {nm : List UInt8} {q deep : Nat} {ps : List (List Lx.Part)} {wv : Value} {xs : List Value}

theorem WordsB.call (h : WordsB w pb a c ts vs rb nb k nm q deep ps wv xs wr) (hc : Chg [pb] wr w') {q' : Nat} (hp : PS w' pb a c ts vs q' deep 0) (hq : q ≤ q') : WordsB w pb a c ts vs rb nb k nm q' deep ps wv xs w' := by
  have h1 := h.base.old.1
  have h2 := h.nb0
  exact
    { h with
      base := h.base.call hc hp
      nd := hc.obj h.nd (by simp; omega)
      row := h.row.kept hc (fun j hj => by have := (h.new j hj).1; simp; omega)
      words := WordsAt.kept hc (fun j hj => by simp at hj; subst hj; exact h.base.ps.out) h.words
      few := Nat.le_trans h.few (Nat.succ_le_succ hq) }
theorem WordsB.kept0 (h : WordsB w pb a c ts vs rb nb k nm q deep ps wv xs wr) (hc : Chg [] wr w') : WordsB w pb a c ts vs rb nb k nm q deep ps wv xs w' := h.call (hc.mono (by simp)) (h.base.ps.chg0 hc) (Nat.le_refl _)

theorem Base.turnL (h : Base w pb a c ts vs q deep wr) {F : List Nat} (hc : Chg F wr w') (hb : ∀ j ∈ F, w.heap.size < j) : Base w pb a c ts vs q deep w' :=
  { h with
    ps := h.ps.chg hc (fun j hj => by have := hb j hj; exact ⟨by have := h.old.1; omega, fun ht => by have := h.old.2 _ ht; omega⟩)
    rs := hc.obj h.rs (fun hj => by have := hb _ hj; omega)
    chg := h.chg.trans hc (fun x hx => .inr (by have := hb x hx; omega)) }

theorem WordsB.add {w1 w2 w3 : World} (h : WordsB w pb a c ts vs rb nb k nm q deep ps wv xs w1) {p : List Lx.Part} {u v' : Value} (hn : WordIn w1 (TB (.slice a ts.length c) vs) 0 u p) (h12 : Chg [] w1 w2) (hr : Row w3 49 1 v' (ps.length + 1) (xs ++ [u]))
    (h23 : Chg (rowBlock wv) w2 w3) (hb : ∀ k ∈ rowBlock v', k ∈ rowBlock wv ∨ w1.heap.size ≤ k) (hf : ps.length + 1 ≤ q + 1) : WordsB w pb a c ts vs rb nb k nm q deep (ps ++ [p]) v' (xs ++ [u]) (w3.setCell ⟨nb, 3, none⟩ v') := by
  have h13 : Chg (rowBlock wv) w1 w3 := (h12.mono (by simp)).trans h23 (fun x hx => .inl hx)
  have hs : Chg [nb] w3 (w3.setCell ⟨nb, 3, none⟩ v') := (Chg.refl [nb] w3).setCell _ _ (.inl (by simp))
  have hlt := lt_of_obj h.nd
  have hsz := h.base.chg.size
  have hnb := h.nb0
  have n2 : ∀ j ∈ rowBlock v', w.heap.size < j ∧ j ≠ nb := fun j hj => by
    rcases hb j hj with h1 | h1
    · exact h.new j h1
    · exact ⟨by omega, by omega⟩
  have nt : ∀ j, w.heap.size < j → ¬ TB (.slice a ts.length c) vs j := fun j hj ht => by have := h.base.old.2 j ht; omega
  exact
    { base := (h.base.turnL h13 (fun j hj => (h.new j hj).1)).turnL hs (fun j hj => by simp at hj; omega)
      nd := obj_setCell (h13.obj h.nd (fun hj => (h.new _ hj).2 rfl)) 3 v'
      row := by
        rw [List.length_append, List.length_singleton]
        exact hr.kept hs (fun j hj => by simp; exact (n2 j hj).2)
      words := WordsAt.kept hs (fun j hj => by simp at hj; subst hj; exact nt _ hnb) (WordsAt.kept h13 (fun j hj => nt _ (h.new j hj).1) (WordsAt.snoc h.words hn))
      new := n2
      nb0 := hnb
      few := by rw [List.length_append, List.length_singleton]; exact hf }
end

section
variable {ts : List Lx.Tok} {cmd : Nat → Ps.Res Ps.Node} {p q r : Nat} {e : Int} {x : Ps.Node} {t : Lx.Tok} {u v : Unit}
theorem eachP_1 (h : Ps.isT ts p 1 [] = false) : Ps.eachP ts cmd p = .bad 10 p := by
  unfold Ps.eachP
  cases ht : ts[p]? with
  | none => rfl
  | some t =>
    rw [isT_some ht] at h
    have hk : ¬ t.kind = 1 := by simpa using h
    exact if_neg (fun h => hk h.1)
theorem eachP_2 (ht : ts[p]? = some t) (h : Lx.isName t.text = false) : Ps.eachP ts cmd p = .bad 10 p := by
  unfold Ps.eachP
  rw [ht]
  exact if_neg (fun h2 => by rw [h] at h2; exact absurd h2.2 (by decide))
theorem eachP_3 (ht : ts[p]? = some t) (hk : t.kind = 1) (hn : Lx.isName t.text = true) (h : Ps.wantP ts (p + 1) 1 Ps.kwIn = .bad e q) : Ps.eachP ts cmd p = .bad e q := by simp [Ps.eachP, ht, hk, hn, h]
theorem eachP_4 (ht : ts[p]? = some t) (hk : t.kind = 1) (hn : Lx.isName t.text = true) (h : Ps.wantP ts (p + 1) 1 Ps.kwIn = .ok u q) (h2 : Ps.wantP ts (q + (Ps.wordsAt ts q).length) 3 [] = .bad e r) : Ps.eachP ts cmd p = .bad e r := by simp [Ps.eachP, ht, hk, hn, h, h2]
theorem eachP_5 {s : Nat} (ht : ts[p]? = some t) (hk : t.kind = 1) (hn : Lx.isName t.text = true) (h : Ps.wantP ts (p + 1) 1 Ps.kwIn = .ok u q) (h2 : Ps.wantP ts (q + (Ps.wordsAt ts q).length) 3 [] = .ok v r) (h3 : Ps.bodyP ts cmd (Ps.endsP ts r) = .bad e s) : Ps.eachP ts cmd p = .bad e s := by simp [Ps.eachP, ht, hk, hn, h, h2, h3]
theorem eachP_6 {s : Nat} (ht : ts[p]? = some t) (hk : t.kind = 1) (hn : Lx.isName t.text = true) (h : Ps.wantP ts (p + 1) 1 Ps.kwIn = .ok u q) (h2 : Ps.wantP ts (q + (Ps.wordsAt ts q).length) 3 [] = .ok v r) (h3 : Ps.bodyP ts cmd (Ps.endsP ts r) = .ok x s) : Ps.eachP ts cmd p = .ok (.mk 8 [x] t.text (Ps.wordsAt ts q) [] []) s := by simp [Ps.eachP, ht, hk, hn, h, h2, h3]
end

theorem wordsAt_here {ts : List Lx.Tok} {p : Nat} (h : Ps.isT ts p 1 [] = false) : Ps.wordsAt ts p = [] := by
  unfold Ps.wordsAt
  cases hd : ts.drop p with
  | nil => rfl
  | cons t r =>
    have ht : ts[p]? = some t := by
      have := congrArg List.head? hd
      simpa [List.head?_drop] using this
    rw [isT_some ht] at h
    have h3 : (t.kind == 1) = false := by simpa using h
    rw [List.takeWhile_cons_of_neg (by rw [h3]; decide)]
    rfl
theorem wordsAt_next {ts : List Lx.Tok} {p : Nat} {t : Lx.Tok} (ht : ts[p]? = some t) (h : Ps.isT ts p 1 [] = true) : Ps.wordsAt ts p = t.parts :: Ps.wordsAt ts (p + 1) := by
  have hlt := isT_lt h
  have he : ts[p] = t := by
    have := List.getElem?_eq_getElem hlt
    rw [ht] at this
    exact (Option.some.inj this).symm
  unfold Ps.wordsAt
  rw [List.drop_eq_getElem_cons hlt, he]
  rw [isT_some ht] at h
  have h3 : (t.kind == 1) = true := by simpa using h
  have h4 : List.takeWhile (fun t : Lx.Tok => t.kind == 1) (t :: List.drop (p + 1) ts) = t :: List.takeWhile (fun t : Lx.Tok => t.kind == 1) (List.drop (p + 1) ts) := List.takeWhile_cons_of_pos h3
  rw [h4]
  rfl

theorem WordsB.start {w : World} {pb : Nat} {a : Option Addr} {c : Nat} {ts : List Lx.Tok} {vs : List Value} {q deep : Nat} (h : PS w pb a c ts vs q deep 0) (k : Int) :
    WordsB w pb a c ts vs w.heap.size (w.heap.size + 1) k [] q deep [] (.slice none 0 0) [] ((w.alloc (.cells (nodeC 0 (.slice none 0 0)) 30)).alloc (.cells (nodeC k (.slice none 0 0)) 30)) := by
  have e : (w.alloc (.cells (nodeC 0 (.slice none 0 0)) 30)).heap.size = w.heap.size + 1 := by simp
  exact
    { base := (Base.start h).kept0 ((Chg.refl [] _).alloc _)
      nd := by rw [← e]; exact obj_alloc_new _ _
      row := Row.nil _ _ _ _
      words := rfl
      new := by simp [rowBlock]
      nb0 := by omega
      few := Nat.zero_le _ }

end Go.Proofs.YtfgbbmnmblchiaaDoor

namespace Go.Proofs.YtfgbbmnmblchiaaDoor
open Go.RowKit
set_option linter.unusedVariables false

set_option maxRecDepth 10000 in
theorem clip_words (a : Option Addr) (n c : Nat) (hn : n ≤ c) (hc : c ≤ maxLen) (w : World) :
    Calls Tryd.prog 83 #[.slice a n c] w fun e w' => e = .returned (.slice a n n) ∧ w' = w := by
  have h1 : (n : Int) ≤ (c : Int) := by omega
  have h0 : (0 : Int) ≤ (n : Int) := by omega
  go_enter Tryd.func83, Tryd.ntmps83
  go_wp2
  go_ret
  exact ⟨rfl, rfl⟩

section
variable {w wr w' : World} {pb : Nat} {a : Option Addr} {c : Nat} {ts : List Lx.Tok} {vs : List Value} {rb nb : Nat} {k : Int} {nm : List UInt8} {q deep : Nat} {ps : List (List Lx.Part)} {wv : Value} {xs : List Value}

theorem BadB.fin6F {er : Int} {rb : Nat} {F : List Nat} (h : BadB w pb a c ts vs rb q deep er wr) {cs : List Value} (h6 : Six cs) (hc : Chg F wr w') (hF : ∀ j ∈ F, w.heap.size ≤ j) : RdPost w pb a c ts vs deep (.bad er q) (.returned (.tuple #[.agg cs.toArray, .bool false])) w' := by
  exact ⟨_, h6, rfl, h.ps.chg hc (fun j hj => by have := hF j hj; exact ⟨by have := h.old.1; omega, fun ht => by have := h.old.2 j ht; omega⟩), h.chg.trans hc (fun x hx => .inr (hF x hx))⟩

/-- what a reading leaves, its kind apart. -/
def Got (w : World) (pb : Nat) (a : Option Addr) (c : Nat) (ts : List Lx.Tok) (vs : List Value) (deep : Nat) (r : Ps.Res Ps.Node) (cs : List Value) (b : Bool) (w' : World) : Prop :=
  match r with
  | .bad er q => b = false ∧ PS w' pb a c ts vs q deep er
  | .ok n q => b = true ∧ NodeAt w' (Sn (.slice a ts.length c) vs w.heap.size w'.heap.size) n cs ∧ PS w' pb a c ts vs q deep 0
theorem RdPost.got {r : Ps.Res Ps.Node} {e : Ending} (h : RdPost w pb a c ts vs deep r e w') : ∃ cs b, Six cs ∧ e = .returned (.tuple #[.agg cs.toArray, .bool b]) ∧ Chg [pb] w w' ∧ Got w pb a c ts vs deep r cs b w' := by
  cases r with
  | bad er q =>
    obtain ⟨cs, h6, he, hp, hc⟩ := h
    exact ⟨cs, false, h6, he, hc, rfl, hp⟩
  | ok n q =>
    obtain ⟨cs, hn, he, hp, hc⟩ := h
    exact ⟨cs, true, hn.Six, he, hc, rfl, hn, hp⟩

theorem WordsB.setName (h : WordsB w pb a c ts vs rb nb k nm q deep ps wv xs wr) (s : List UInt8) : WordsB w pb a c ts vs rb nb k s q deep ps wv xs (wr.setCell ⟨nb, 2, none⟩ (.string (Lx.strB s))) := by
  have hs : Chg [nb] wr (wr.setCell ⟨nb, 2, none⟩ (.string (Lx.strB s))) := (Chg.refl [nb] wr).setCell _ _ (.inl (by simp))
  have hnb := h.nb0
  exact
    { base := h.base.turnL hs (fun j hj => by simp at hj; omega)
      nd := obj_setCell h.nd 2 _
      row := h.row.kept hs (fun j hj => by simp; exact (h.new j hj).2)
      words := WordsAt.kept hs (fun j hj ht => by simp at hj; subst hj; have := h.base.old.2 _ ht; omega) h.words
      new := h.new
      nb0 := hnb
      few := h.few }

theorem WordsB.setAt (h : WordsB w pb a c ts vs rb nb k nm q deep ps wv xs wr) (z : Int) (hz : z = ((q + 1 : Nat) : Int)) (hq : q + 1 ≤ ts.length) : WordsB w pb a c ts vs rb nb k nm (q + 1) deep ps wv xs (wr.setCell ⟨pb, 1, none⟩ (.int .i64 z)) :=
  h.call (Chg.setP _ _ _ _) (h.base.ps.setAt (q + 1) z hz hq) (by omega)

/-- a 'for' at its end. -/
theorem WordsB.fin {wa : Option Addr} {wn wc : Nat} (h : WordsB w pb a c ts vs rb nb k nm q deep ps (.slice wa wn wc) xs wr) (hwn : wn = ps.length) {x : Ps.Node} {cs : List Value} {lo kb : Nat} (hlo : nb < lo) (hlw : ∀ j ∈ rowBlock (.slice wa wn wc), j < lo)
    (hx : NodeAt wr (Sn (.slice a ts.length c) vs lo wr.heap.size) x cs) (hc : Chg [w.heap.size, nb] wr w') (hk : w.heap.size ≤ kb) (hkb : w'.heap[kb]? = some (.cells cs.toArray 30 (0, 0))) :
    RdPost w pb a c ts vs deep (.ok (.mk k [x] nm ps [] []) q) (.returned (.tuple #[.agg #[.int .i64 k, .slice (some ⟨kb, 0, none⟩) 1 1, .string (Lx.strB nm), .slice wa wn wn, .slice none 0 0, .slice none 0 0], .bool true])) w' := by
  subst hwn
  have hnb := h.nb0
  have hsz := hc.size
  have hmem : ∀ j ∈ [w.heap.size, nb], w.heap.size ≤ j := fun j hj => by
    simp only [List.mem_cons, List.not_mem_nil, or_false] at hj
    omega
  have hlow : w.heap.size ≤ nb := by omega
  have hone := hx.one.1
  have hrow : Row w' 30 6 (.slice (some ⟨kb, 0, none⟩) 1 1) 1 cs :=
    ⟨hone, .inr ⟨kb, _, _, rfl, hkb, Nat.le_refl _, by decide, by simp [hone], by rw [List.take_of_length_le (by simp [hone])]⟩⟩
  have hN : NodeAt w' (Sn (.slice a ts.length c) vs w.heap.size w'.heap.size) x cs := by
    refine NodeAt.mono (fun j hj => hj.imp id (fun h => ⟨by omega, by omega⟩)) _ _ (NodeAt.kept hc (fun j hj hS => ?_) _ _ hx)
    have h1 := hmem j hj
    rcases hS with h2 | h2
    · have := h.base.old.2 _ h2; omega
    · simp only [List.mem_cons, List.not_mem_nil, or_false] at hj
      rcases hj with rfl | rfl <;> omega
  have hle : ps.length ≤ wc := by
    obtain ⟨a', cap, hv, hle, _⟩ := h.row.shape
    cases hv
    exact hle
  have hr : Row w' 49 1 (.slice wa ps.length ps.length) ps.length xs := Row.clip (h.row.kept hc (fun j hj hm => by
    have h1 := h.new j hj
    simp only [List.mem_cons, List.not_mem_nil, or_false] at hm
    omega))
  have hW : WordsAt w' (Sn (.slice a ts.length c) vs w.heap.size w'.heap.size) ps xs := WordsAt.mono (fun j hj => .inl hj) (WordsAt.kept hc (fun j hj hS => by have := hmem j hj; have := h.base.old.2 _ hS; omega) h.words)
  refine ⟨_, ?_, rfl, h.base.ps.chg hc (fun j hj => ?_), h.base.chg.trans hc (fun x hx => .inr (hmem x hx))⟩
  · unfold NodeAt
    refine ⟨_, _, _, _, cs, xs, [], [], rfl, Row.sl hrow (fun j hj => ?_), NodesAt.of1 hN, Row.sl hr (fun j hj => ?_), hW, Sl.nil _ _ _ _, rfl, Sl.nil _ _ _ _, rfl⟩
    · have hj2 : j = kb := by
        simp only [rowBlock] at hj
        split at hj
        · simp at hj
        · simpa using hj
      subst hj2
      exact .inr ⟨hk, lt_of_obj hkb⟩
    · have h1 := rowBlock_clip wa ps.length ps.length wc hle j hj
      have h2 := Row.block_lt h.row j h1
      exact .inr ⟨by have := (h.new j h1).1; omega, by omega⟩
  · have h1 := hmem j hj
    exact ⟨by have := h.base.old.1; omega, fun ht => by have := h.base.old.2 _ ht; omega⟩
end

end Go.Proofs.YtfgbbmnmblchiaaDoor

namespace Go.Proofs.YtfgbbmnmblchiaaDoor
open Go.RowKit
set_option linter.unusedVariables false

def cutP (l : List UInt8) : List UInt8 × List UInt8 × Bool := match Lx.idx 61 l with | none => (l, [], false) | some k => (l.take k, l.drop (k + 1), true)

theorem cut_eq (l : List UInt8) : Lib.cut l [61] = cutP l := by
  unfold Lib.cut cutP
  rw [Lib.index_one, ib_idx]
  cases h : Lx.idx 61 l with
  | none => rfl
  | some k =>
    have e : (0 : Int) ≤ placeI (some k) := by simp only [placeI]; omega
    rw [if_pos e]
    rfl

theorem cut_any (l : List UInt8) (m : Int) (w : World) (hl : l.length ≤ 2048) (hm : w.cell? ⟨2, 0, none⟩ = some (.int .i64 m)) :
    Calls Tryd.prog 91 #[.string (Lx.strB l), .string ⟨#[61]⟩] w fun e w' => e = .returned (.tuple #[.string (Lx.strB (cutP l).1), .string (Lx.strB (cutP l).2.1), .bool (cutP l).2.2]) ∧ ∃ n, w' = w.drewN n := by
  have h := Tryd.strings_Cut (Lx.strB l) ⟨#[61]⟩ m w (by rw [Lx.strB_size]; omega) hm
  rw [Lx.strB_data, show (⟨#[61]⟩ : ByteArray).data.toList = [61] from rfl, cut_eq] at h
  exact h

set_option maxHeartbeats 2000000 in
set_option maxRecDepth 10000 in
theorem clone_parts (g n c : Nat) (ps : List Lx.Part) (w : World) (h : PartsAt w (.slice (some ⟨g, 0, none⟩) n c) ps) (h0 : 0 < ps.length) (hl : ps.length ≤ 100000) :
    Calls Tryd.prog 92 #[.slice (some ⟨g, 0, none⟩) n c] w fun e w' => ∃ v, e = .returned v ∧ PartsAt w' v ps ∧ Chg [] w w' ∧ ∀ k ∈ rowBlock v, w.heap.size ≤ k := by
  obtain ⟨i0, hi, hz0, hz1, hz2⟩ := info_parts Tryd.infoPart
  have hlen := h.len
  obtain rfl : n = ps.length := hlen.1
  have HS := Lib.hid (Row.src h)
  have hnil := fun W => Lib.run_eql_slice_nil (P := Tryd.prog) W 49 53 (some ⟨g, 0, none⟩) ps.length c 0 0 Tryd.underlying49
  have HL := Lib.hid (pcells_len ps)
  have HO := Lib.hid (pcells_one ps)
  clear h hlen
  go_enter Tryd.func92, Tryd.ntmps92
  go_wp2_with (at_builtin; refine wpList_append_row _ rfl _ _ 49 rfl 53 i0 _ 2 24 Tryd.underlying49 hi hz0 hz1 hz2 rfl (by decide) _ 0 [] rfl (Row.nil _ _ _ _) _ ps.length c (pcells ps) rfl HL.out (HS.out.kept0 ((Chg.refl [] _).alloc _)) HO.out (by unfold maxLen; omega) (by omega) ?_)
  intro v1 w1 r1 q1 g1
  have r1 : PartsAt w1 v1 ps := by unfold PartsAt; simpa using r1
  have HQ1 := Lib.hid (show Chg [] w w1 from ((Chg.refl [] w).alloc _).then0 q1)
  have HG1 := Lib.hid (show ∀ x ∈ rowBlock v1, w.heap.size ≤ x from fun x hx => by
    rcases g1 x hx with h1 | h1
    · simp [rowBlock] at h1
    · have h1 : w.heap.size + 1 ≤ x := by simpa using h1
      omega)
  have HR1 := Lib.hid r1
  clear r1 q1 g1 HS
  go_wp2
  go_ret
  exact ⟨v1, rfl, HR1.out, HQ1.out, HG1.out⟩

/-- a token handed on by value. -/
def tokV (t : Lx.Tok) (v : Value) : Value := .agg #[.int .i64 t.kind, .string (Lx.strB t.text), v, .int .i64 t.pos]

/-- what 'set' tells. -/
def SetPost (w : World) (t : Lx.Tok) (e : Ending) (w' : World) : Prop :=
  Chg [] w w' ∧ match Ps.setP t with
  | some s => ∃ a n c off, e = .returned (.tuple #[.agg #[.string (Lx.strB s.name), .slice a n c], .bool true]) ∧ WordIn w' (fun k => w.heap.size ≤ k ∧ k < w'.heap.size) off (.slice a n c) s.word
  | none => e = .returned (.tuple #[.agg #[.string ⟨#[]⟩, .slice none 0 0], .bool false])

section
variable {t : Lx.Tok}
theorem setP_none (h : Lx.idx 61 t.text = none) : Ps.setP t = none := by unfold Ps.setP; rw [h]
theorem setP_none2 {k : Nat} (h : Lx.idx 61 t.text = some k) (h2 : Lx.isName (t.text.take k) = false) : Ps.setP t = none := by
  unfold Ps.setP
  rw [h]
  exact if_neg (by rw [h2]; decide)
theorem setP_some {k : Nat} {p : Lx.Part} {r : List Lx.Part} (h : Lx.idx 61 t.text = some k) (h2 : Lx.isName (t.text.take k) = true) (h3 : t.parts = p :: r) : Ps.setP t = some ⟨t.text.take k, if p.text.drop (k + 1) = [] then r else ⟨p.kind, p.text.drop (k + 1)⟩ :: r⟩ := by
  unfold Ps.setP
  rw [h]
  show (if _ then _ else _) = _
  rw [if_pos h2, h3]
end

theorem cutP_none {l : List UInt8} (h : Lx.idx 61 l = none) : cutP l = (l, [], false) := by unfold cutP; rw [h]
theorem cutP_some {l : List UInt8} {k : Nat} (h : Lx.idx 61 l = some k) : cutP l = (l.take k, l.drop (k + 1), true) := by unfold cutP; rw [h]

theorem wordIn_of {w : World} {S : Nat → Prop} {g off : Nat} {r : List Lx.Part} (hS : S g) (h : ∀ (j : Nat) (u : Value), (pcells r)[j]? = some u → w.cell? ⟨g, off + j, none⟩ = some u) (hn : r.length ≤ maxLen) :
    WordIn w S off (.slice (some ⟨g, off, none⟩) r.length r.length) r := ⟨_, r.length, rfl, Nat.le_refl _, hn, fun _ => ⟨g, rfl, hS, h⟩⟩
theorem wordIn_0 {w : World} {S : Nat → Prop} {off : Nat} {a : Option Addr} {r : List Lx.Part} (h : r.length = 0) : WordIn w S off (.slice a r.length r.length) r := by
  obtain rfl : r = [] := List.eq_nil_of_length_eq_zero h
  exact Sl.nil _ _ _ _

/-- the cells of a word that was cloned and turned. -/
theorem Row.cellsAt {w w' : World} {E : TypeId} {g n c N : Nat} {xs : List Value} {F : List Nat} (h : Row w E 2 (.slice (some ⟨g, 0, none⟩) n c) N xs) (hc : Chg F w w') (hF : g ∉ F) : ∀ (j : Nat) (u : Value), xs[j]? = some u → w'.cell? ⟨g, j, none⟩ = some u := fun j u hj => by
  obtain ⟨b, off, hb, hx⟩ := Row.src h (fun e => by rw [e] at hj; simp at hj)
  cases hb
  have := hx j u hj
  rw [Nat.zero_add] at this
  exact hc.cell this hF

set_option maxHeartbeats 4000000 in
set_option maxRecDepth 10000 in
theorem set_any (t : Lx.Tok) (a : Option Addr) (n c : Nat) (m : Int) (w : World) (hp : PartsAt w (.slice a n c) t.parts) (hk : t.kind = 1) (hg : GoodT t) (hm : w.cell? ⟨2, 0, none⟩ = some (.int .i64 m)) :
    Calls Tryd.prog 82 #[tokV t (.slice a n c)] w fun e w' => SetPost w t e w' := by
  have HM := Lib.hid hm
  have HKD := Lib.hid hk
  have HG := Lib.hid hg.2.1
  have hlen : t.parts.length ≤ 100000 := by have := hg.2.2; omega
  have HL := Lib.hid hg.1
  have CU := Lib.hid (fun W (h : W.cell? ⟨2, 0, none⟩ = some (.int .i64 m)) => cut_any t.text m W HL.out h)
  have HP := Lib.hid hp
  have HC := Lib.hid (((Chg.refl [] w).alloc (.cells #[.int .i64 t.kind, .string (Lx.strB t.text), .slice a n c, .int .i64 t.pos] 65)).alloc (.cells #[.string ⟨#[]⟩, .slice none 0 0] 77))
  have HB := Lib.hid (obj_alloc_old (obj_alloc_new w (.cells #[.int .i64 t.kind, .string (Lx.strB t.text), .slice a n c, .int .i64 t.pos] 65)) (.cells #[.string ⟨#[]⟩, .slice none 0 0] 77))
  have HS := Lib.hid (obj_alloc_new (w.alloc (.cells #[.int .i64 t.kind, .string (Lx.strB t.text), .slice a n c, .int .i64 t.pos] 65)) (.cells #[.string ⟨#[]⟩, .slice none 0 0] 77))
  have hsz : (w.alloc (.cells #[.int .i64 t.kind, .string (Lx.strB t.text), .slice a n c, .int .i64 t.pos] 65)).heap.size = w.heap.size + 1 := by simp
  rw [hsz] at HS
  clear hm hp hsz hk
  unfold tokV
  cases hx : Lx.idx 61 t.text with
  | none =>
    have HR := Lib.hid (setP_none hx)
    rw [cutP_none hx] at CU
    clear hg hx
    go_enter Tryd.func82, Tryd.ntmps82
    go_upto_region 1 with (fail)
    generalize (w.alloc (.cells #[.int .i64 t.kind, .string (Lx.strB t.text), .slice a n c, .int .i64 t.pos] 65)).alloc (.cells #[.string ⟨#[]⟩, .slice none 0 0] 77) = w2 at *
    have t1 := cell_of_obj HB.out (j := 1) rfl
    go_wp2_with fail
    refine (CU.out _ (HC.out.cell HM.out (by simp))).mono ?_
    rintro e w3 ⟨rfl, n1, rfl⟩
    have s0 := cell_of_obj HS.out (j := 0) rfl
    have s1 := cell_of_obj HS.out (j := 1) rfl
    have sf := free_of_obj HS.out
    go_wp2_with fail
    refine bodyPost_ret (v := .tuple #[.agg #[.string ⟨#[]⟩, .slice none 0 0], .bool false]) (by simp [results, Tryd.results82, go_sem, s0, s1]) rfl ?_
    refine ⟨?_, ?_⟩
    · exact ((HC.out.drewN n1).setCell _ _ (.inr (by simp))).setCell _ _ (.inr (by simp))
    · rw [HR.out]
  | some k =>
    rw [cutP_some hx] at CU
    cases hnm : Lx.isName (t.text.take k) with
    | false =>
      have HR := Lib.hid (setP_none2 hx hnm)
      have NM := Lib.hid (fun W => Name_any (t.text.take k) W (by have := HL.out; rw [List.length_take]; omega))
      rw [hnm] at NM
      clear hg hx hnm
      go_enter Tryd.func82, Tryd.ntmps82
      go_upto_region 1 with (fail)
      generalize (w.alloc (.cells #[.int .i64 t.kind, .string (Lx.strB t.text), .slice a n c, .int .i64 t.pos] 65)).alloc (.cells #[.string ⟨#[]⟩, .slice none 0 0] 77) = w2 at *
      have t1 := cell_of_obj HB.out (j := 1) rfl
      go_wp2_with fail
      refine (CU.out _ (HC.out.cell HM.out (by simp))).mono ?_
      rintro e w3 ⟨rfl, n1, rfl⟩
      go_wp2_with fail
      refine (NM.out _).mono ?_
      rintro e w4 ⟨rfl, hC4⟩
      have HC4 := Lib.hid ((HC.out.drewN n1).then0 hC4)
      have HS4 := Lib.hid (((Chg.refl [] w2).drewN n1 |>.then0 hC4).obj HS.out (by simp))
      clear hC4
      have s0 := cell_of_obj HS4.out (j := 0) rfl
      have s1 := cell_of_obj HS4.out (j := 1) rfl
      have sf := free_of_obj HS4.out
      go_wp2_with fail
      refine bodyPost_ret (v := .tuple #[.agg #[.string ⟨#[]⟩, .slice none 0 0], .bool false]) (by simp [results, Tryd.results82, go_sem, s0, s1]) rfl ?_
      refine ⟨?_, ?_⟩
      · exact (HC4.out.setCell _ _ (.inr (by simp))).setCell _ _ (.inr (by simp))
      · rw [HR.out]
    | true =>
      obtain ⟨p, r, hpr, hpl⟩ := HG.out HKD.out k hx hnm
      have HR := Lib.hid (setP_some hx hnm hpr)
      have NM := Lib.hid (fun W => Name_any (t.text.take k) W (by have := HL.out; rw [List.length_take]; omega))
      rw [hnm] at NM
      have hkl := idx_lt _ _ _ hx
      have HK := Lib.hid (show (t.text.take k).length = k from by rw [List.length_take]; omega)
      clear hg hx hnm
      have HPL := Lib.hid hpl
      go_enter Tryd.func82, Tryd.ntmps82
      go_upto_region 1 with (fail)
      generalize (w.alloc (.cells #[.int .i64 t.kind, .string (Lx.strB t.text), .slice a n c, .int .i64 t.pos] 65)).alloc (.cells #[.string ⟨#[]⟩, .slice none 0 0] 77) = w2 at *
      have t1 := cell_of_obj HB.out (j := 1) rfl
      go_wp2_with fail
      refine (CU.out _ (HC.out.cell HM.out (by simp))).mono ?_
      rintro e w3 ⟨rfl, n1, rfl⟩
      go_wp2_with fail
      refine (NM.out _).mono ?_
      rintro e w4 ⟨rfl, hC4⟩
      have HC24 := Lib.hid ((Chg.refl [] w2).drewN n1 |>.then0 hC4)
      have HC4 := Lib.hid (HC.out.then0 HC24.out)
      have t2 := cell_of_obj (HC24.out.obj HB.out (by simp)) (j := 2) rfl
      clear hC4 t1
      have hlen2 : n = t.parts.length := HP.out.len.1
      have hn0 : 0 < t.parts.length := by rw [hpr]; simp
      have HPC := HC4.out
      obtain ⟨g, cur, rfl, hob, htk, hnc, hcm⟩ := Row.obj (hlen2 ▸ HP.out) hn0
      have CL := Lib.hid (clone_parts g n c t.parts _ (HP.out.kept0 HC4.out) hn0 hlen)
      clear HPC hob htk hnc hcm hlen2
      have HPR := Lib.hid hpr
      have HLN := Lib.hid (show t.parts.length = r.length + 1 from by rw [hpr]; simp)
      clear hpr
      go_wp2_with fail
      refine CL.out.mono ?_
      rintro e w5 ⟨v, rfl, hv, hC5, hB5⟩
      obtain ⟨g5, cur5, hv5⟩ : ∃ g5 cur5, v = .slice (some ⟨g5, 0, none⟩) t.parts.length cur5 := by
        obtain ⟨a5, c5, rfl, _⟩ := Row.shape hv
        obtain ⟨g5, cur5, rfl, _⟩ := Row.obj hv hn0
        exact ⟨g5, c5, rfl⟩
      subst hv5
      obtain ⟨g6, cur, hg6, hob, htk, hnc, hcm⟩ := Row.obj hv hn0
      cases hg6
      have HOB := Lib.hid hob
      have HR5 := Lib.hid (Row.set hv hn0 1 (.string (Lx.strB (p.text.drop (k + 1)))))
      have hgb := hB5 g5 (rowBlock_head g5 _ _ hnc hn0)
      have HC5 := Lib.hid (HC24.out.then0 hC5)
      have HS5 := Lib.hid (HC5.out.obj HS.out (by simp))
      have HGB := Lib.hid (show w.heap.size + 2 ≤ g5 from by have := HC24.out.size; have := lt_of_obj HS.out; omega)
      have y0 : w5.cell? ⟨g5, 0, none⟩ = some (.int .i64 p.kind) := cells_of_take hob htk (by rw [HPR.out]; rfl)
      have y1 : w5.cell? ⟨g5, 1, none⟩ = some (.string (Lx.strB p.text)) := cells_of_take hob htk (by rw [HPR.out]; rfl)
      have yf := free_of_obj hob
      have hs1 : (Lx.strB (t.text.take k)).size = k := by rw [Lx.strB_size, HK.out]
      have hs2 := Lx.strB_size p.text
      have hst := Lx.strB_tail p.text (k + 1)
      rw [hs2] at hst
      have k1 : (k : Int) + 1 ≤ p.text.length := by omega
      have k2 : (k : Int) ≤ 2048 := by have := HL.out; omega
      have k0 : (0 : Int) ≤ (k : Int) := by omega
      have HPN := Lib.hid (show pcells t.parts = [.int .i64 p.kind, .string (Lx.strB p.text)] ++ pcells r from by rw [HPR.out]; rfl)
      have HLN2 := HLN.out
      clear hob htk hC5 hB5 hv hgb hpl hn0 hkl CL
      generalize t.parts.length = N at *
      have HC6' : Chg [] w (w5.setCell ⟨g5, 1, none⟩ (.string (Lx.strB (p.text.drop (k + 1))))) := (HC.out.then0 HC5.out).trans (Chg.setP w5 g5 1 (.string (Lx.strB (p.text.drop (k + 1))))) (fun x hx => .inr (by simp at hx; have := HGB.out; omega))
      have HC6 := Lib.hid HC6'
      have HS6 := Lib.hid (obj_setCell_other HS5.out (p := ⟨g5, 1, none⟩) (by have := HGB.out; simp; omega) (.string (Lx.strB (p.text.drop (k + 1)))))
      have HG6 := Lib.hid (show g5 < (w5.setCell ⟨g5, 1, none⟩ (.string (Lx.strB (p.text.drop (k + 1))))).heap.size from lt_of_obj (obj_setCell HOB.out 1 _))
      clear HC6'
      have hcm2 : (cur5 : Int) ≤ maxLen := by unfold maxLen at *; omega
      have hnc2 : ((r.length : Int) + 1) ≤ (cur5 : Int) := by omega
      by_cases hd : p.text.drop (k + 1) = []
      · have e1 : (Lx.strB (p.text.drop (k + 1))).toList.isEmpty = true := by rw [Lx.strB_toList, hd]; rfl
        have HD := Lib.hid hd
        clear hd
        go_upto_region 8 with (fail)
        generalize w5.setCell ⟨g5, 1, none⟩ (.string (Lx.strB (p.text.drop (k + 1)))) = w6 at *
        have s0 := cell_of_obj HS6.out (j := 0) rfl
        have s1 := cell_of_obj HS6.out (j := 1) rfl
        have sf := free_of_obj HS6.out
        go_wp2_with fail
        all_goals
          refine (clip_parts _ _ _ (by omega) (by omega) _).mono ?_
          rintro e w7 ⟨rfl, rfl⟩
          go_wp2_with fail
        · refine bodyPost_ret (v := .tuple #[.agg #[.string (Lx.strB (t.text.take k)), .slice (some ⟨g5, 0, none⟩) r.length r.length], .bool true]) (by simp [results, Tryd.results82, go_sem, s0, s1]) rfl ?_
          refine ⟨?_, ?_⟩
          · exact (HC6.out.setCell _ _ (.inr (by simp))).setCell _ _ (.inr (by simp))
          · rw [HR.out, if_pos HD.out]
            exact ⟨_, _, _, 2, rfl, wordIn_0 (by omega)⟩
        · refine bodyPost_ret (v := .tuple #[.agg #[.string (Lx.strB (t.text.take k)), .slice (some ⟨g5, 2, none⟩) r.length r.length], .bool true]) (by simp [results, Tryd.results82, go_sem, s0, s1]) rfl ?_
          refine ⟨?_, ?_⟩
          · exact (HC6.out.setCell _ _ (.inr (by simp))).setCell _ _ (.inr (by simp))
          · rw [HR.out, if_pos HD.out]
            refine ⟨_, _, _, 2, rfl, wordIn_of ?_ ?_ (by omega)⟩
            · exact ⟨by have := HGB.out; omega, by have := HG6.out; simpa [World.setCell] using this⟩
            · intro j u hj
              rw [Nat.add_comm 2 j]
              refine Row.cellsAt HR5.out (((Chg.refl [w.heap.size + 1] w7).setCell _ _ (.inl (by simp))).setCell _ _ (.inl (by simp))) (by have := HGB.out; simp; omega) (j + 2) u ?_
              rw [HPN.out]
              simpa using hj
      · have e1 : (Lx.strB (p.text.drop (k + 1))).toList.isEmpty = false := by rw [Lx.strB_toList]; simpa using hd
        have HD := Lib.hid hd
        clear hd
        go_upto_region 8 with (fail)
        generalize w5.setCell ⟨g5, 1, none⟩ (.string (Lx.strB (p.text.drop (k + 1)))) = w6 at *
        have s0 := cell_of_obj HS6.out (j := 0) rfl
        have s1 := cell_of_obj HS6.out (j := 1) rfl
        have sf := free_of_obj HS6.out
        go_wp2_with fail
        refine (clip_parts _ _ _ (by omega) (by omega) _).mono ?_
        rintro e w7 ⟨rfl, rfl⟩
        go_wp2_with fail
        refine bodyPost_ret (v := .tuple #[.agg #[.string (Lx.strB (t.text.take k)), .slice (some ⟨g5, 0, none⟩) (r.length + 1) (r.length + 1)], .bool true]) (by simp [results, Tryd.results82, go_sem, s0, s1]) rfl ?_
        refine ⟨?_, ?_⟩
        · exact (HC6.out.setCell _ _ (.inr (by simp))).setCell _ _ (.inr (by simp))
        · rw [HR.out, if_neg HD.out]
          refine ⟨_, _, _, 0, rfl, wordIn_of (r := ⟨p.kind, p.text.drop (k + 1)⟩ :: r) ?_ ?_ (by rw [List.length_cons]; omega)⟩
          · exact ⟨by have := HGB.out; omega, by have := HG6.out; simpa [World.setCell] using this⟩
          · intro j u hj
            rw [Nat.zero_add]
            refine Row.cellsAt HR5.out (((Chg.refl [w.heap.size + 1] w7).setCell _ _ (.inl (by simp))).setCell _ _ (.inl (by simp))) (by have := HGB.out; simp; omega) j u ?_
            rw [HPN.out]
            exact hj

end Go.Proofs.YtfgbbmnmblchiaaDoor

namespace Go.Proofs.YtfgbbmnmblchiaaDoor
open Go.RowKit
set_option linter.unusedVariables false

section
variable {ts : List Lx.Tok} {f p : Nat} {cm : Ps.Cmd} {t u : Lx.Tok}
theorem simpleL_none (h : ts[p]? = none) : Ps.simpleL ts (f + 1) p cm = .ok cm p := by
  conv => lhs; unfold Ps.simpleL
  rw [h]
theorem simpleL_red (h : ts[p]? = some t) (h2 : t.kind = 2 ∧ 0 < Ps.redK t.text) (h3 : ts[p + 1]? = some u) (h4 : u.kind = 1) : Ps.simpleL ts (f + 1) p cm = Ps.simpleL ts f (p + 2) { cm with reds := cm.reds ++ [⟨Ps.redK t.text, u.parts⟩] } := by
  conv => lhs; unfold Ps.simpleL
  rw [h]
  show (if _ then _ else _) = _
  rw [if_pos h2, h3]
  show (if _ then _ else _) = _
  rw [if_pos h4]
theorem simpleL_red0 (h : ts[p]? = some t) (h2 : t.kind = 2 ∧ 0 < Ps.redK t.text) (h3 : Ps.isT ts (p + 1) 1 [] = false) : Ps.simpleL ts (f + 1) p cm = .bad 10 (p + 1) := by
  conv => lhs; unfold Ps.simpleL
  rw [h]
  show (if _ then _ else _) = _
  rw [if_pos h2]
  cases hu : ts[p + 1]? with
  | none => rfl
  | some u =>
    show (if _ then _ else _) = _
    rw [isT_some hu] at h3
    rw [if_neg (by simpa using h3)]
theorem simpleL_stop (h : ts[p]? = some t) (h2 : ¬ (t.kind = 2 ∧ 0 < Ps.redK t.text)) (h3 : ¬ t.kind = 1) : Ps.simpleL ts (f + 1) p cm = .ok cm p := by
  conv => lhs; unfold Ps.simpleL
  rw [h]
  show (if _ then _ else _) = _
  rw [if_neg h2, if_pos h3]
theorem simpleL_word (h : ts[p]? = some t) (h3 : t.kind = 1) : Ps.simpleL ts (f + 1) p cm = Ps.simpleL ts f (p + 1) (cm.put t) := by
  conv => lhs; unfold Ps.simpleL
  rw [h]
  show (if _ then _ else _) = _
  rw [if_neg (by rw [h3]; exact fun h => absurd h.1 (by decide)), if_neg (by rw [h3]; exact fun h => h rfl)]
theorem put_set {s : Ps.SetP} (h : Ps.setP t = some s) (h2 : cm.words = []) : cm.put t = { cm with sets := cm.sets ++ [s] } := by
  unfold Ps.Cmd.put
  rw [h]
  exact if_pos h2
theorem put_set2 {s : Ps.SetP} (h : Ps.setP t = some s) (h2 : ¬ cm.words = []) : cm.put t = { cm with words := cm.words ++ [t.parts] } := by
  unfold Ps.Cmd.put
  rw [h]
  exact if_neg h2
theorem put_word (h : Ps.setP t = none) : cm.put t = { cm with words := cm.words ++ [t.parts] } := by
  unfold Ps.Cmd.put
  rw [h]
theorem simpleP_bad {e : Int} {b : Nat} (h : Ps.simpleL ts (ts.length + 1) p ⟨[], [], []⟩ = .bad e b) : Ps.simpleP ts p = .bad e b := by unfold Ps.simpleP; rw [h]
theorem simpleP_none (h : Ps.simpleL ts (ts.length + 1) p ⟨[], [], []⟩ = .ok cm p) : Ps.simpleP ts p = .bad 10 p := by
  unfold Ps.simpleP
  rw [h]
  exact if_pos rfl
theorem simpleP_ok {q : Nat} (h : Ps.simpleL ts (ts.length + 1) p ⟨[], [], []⟩ = .ok cm q) (h2 : ¬ q = p) : Ps.simpleP ts p = .ok (.mk 5 [] [] cm.words cm.sets cm.reds) q := by
  unfold Ps.simpleP
  rw [h]
  exact if_neg h2
end

theorem Tryd.infoSet : (Tryd.prog.info? 77).map (fun i => (i.zero, i.size, i.bytes)) = some (some (.agg #[.string ⟨#[]⟩, .slice none 0 0]), 2, 40) := by kernel_rfl
theorem Tryd.infoRed : (Tryd.prog.info? 51).map (fun i => (i.zero, i.size, i.bytes)) = some (some (.agg #[.int .i64 0, .slice none 0 0]), 2, 32) := by kernel_rfl

set_option maxRecDepth 10000 in
theorem clip_sets (a : Option Addr) (n c : Nat) (hn : n ≤ c) (hc : c ≤ maxLen) (w : World) :
    Calls Tryd.prog 84 #[.slice a n c] w fun e w' => e = .returned (.slice a n n) ∧ w' = w := by
  have h1 : (n : Int) ≤ (c : Int) := by omega
  have h0 : (0 : Int) ≤ (n : Int) := by omega
  go_enter Tryd.func84, Tryd.ntmps84
  go_wp2
  go_ret
  exact ⟨rfl, rfl⟩
set_option maxRecDepth 10000 in
theorem clip_reds (a : Option Addr) (n c : Nat) (hn : n ≤ c) (hc : c ≤ maxLen) (w : World) :
    Calls Tryd.prog 85 #[.slice a n c] w fun e w' => e = .returned (.slice a n n) ∧ w' = w := by
  have h1 : (n : Int) ≤ (c : Int) := by omega
  have h0 : (0 : Int) ≤ (n : Int) := by omega
  go_enter Tryd.func85, Tryd.ntmps85
  go_wp2
  go_ret
  exact ⟨rfl, rfl⟩

/-- what the words of sets lie among. -/
def Sc (tv : Value) (vs : List Value) (lo hi nb : Nat) (wv sv rv : Value) (j : Nat) : Prop := TB tv vs j ∨ (lo < j ∧ j < hi ∧ j ≠ nb ∧ j ∉ rowBlock wv ∧ j ∉ rowBlock sv ∧ j ∉ rowBlock rv)

/-- a command of words that grows. -/
structure CmdB (w : World) (pb : Nat) (a : Option Addr) (c : Nat) (ts : List Lx.Tok) (vs : List Value) (nb : Nat) (q deep : Nat) (cm : Ps.Cmd) (wv sv rv : Value) (wx sx rx : List Value) (wr : World) : Prop where
  base : Base w pb a c ts vs q deep wr
  nd : wr.heap[nb]? = some (.cells #[.int .i64 5, .slice none 0 0, .string ⟨#[]⟩, wv, sv, rv] 30 (0, 0))
  rw : Row wr 49 1 wv cm.words.length wx
  rs : Row wr 77 2 sv cm.sets.length sx
  rr : Row wr 51 2 rv cm.reds.length rx
  words : WordsAt wr (TB (.slice a ts.length c) vs) cm.words wx
  sets : SetsAt wr (Sc (.slice a ts.length c) vs w.heap.size wr.heap.size nb wv sv rv) cm.sets sx
  reds : RedsAt wr (TB (.slice a ts.length c) vs) cm.reds rx
  new : ∀ k, k ∈ rowBlock wv ∨ k ∈ rowBlock sv ∨ k ∈ rowBlock rv → w.heap.size < k ∧ k ≠ nb
  d1 : ∀ k ∈ rowBlock wv, k ∉ rowBlock sv
  d2 : ∀ k ∈ rowBlock wv, k ∉ rowBlock rv
  d3 : ∀ k ∈ rowBlock sv, k ∉ rowBlock rv
  nb0 : w.heap.size < nb
  few : cm.words.length ≤ q + 1 ∧ cm.sets.length ≤ q + 1 ∧ cm.reds.length ≤ q + 1

section
variable {w wr w' w1 w2 w3 w4 : World} {pb : Nat} {a : Option Addr} {c : Nat} {ts : List Lx.Tok} {vs : List Value} {nb : Nat} {q deep : Nat} {cm : Ps.Cmd} {wv sv rv : Value} {wx sx rx : List Value}

theorem CmdB.call (h : CmdB w pb a c ts vs nb q deep cm wv sv rv wx sx rx wr) (hc : Chg [pb] wr w') {q' : Nat} (hp : PS w' pb a c ts vs q' deep 0) (hq : q ≤ q') : CmdB w pb a c ts vs nb q' deep cm wv sv rv wx sx rx w' := by
  have h1 := h.base.old.1
  have h2 := h.nb0
  have hn : ∀ k, k ∈ rowBlock wv ∨ k ∈ rowBlock sv ∨ k ∈ rowBlock rv → k ∉ [pb] := fun k hk => by have := (h.new k hk).1; simp; omega
  have ht : ∀ j ∈ [pb], ¬ TB (.slice a ts.length c) vs j := fun j hj => by simp at hj; subst hj; exact h.base.ps.out
  exact
    { h with
      base := h.base.call hc hp
      nd := hc.obj h.nd (by simp; omega)
      rw := h.rw.kept hc (fun j hj => hn j (.inl hj))
      rs := h.rs.kept hc (fun j hj => hn j (.inr (.inl hj)))
      rr := h.rr.kept hc (fun j hj => hn j (.inr (.inr hj)))
      words := WordsAt.kept hc ht h.words
      sets := SetsAt.mono (fun j hj => hj.imp id (fun h => ⟨h.1, Nat.lt_of_lt_of_le h.2.1 hc.size, h.2.2⟩)) (SetsAt.kept hc (fun j hj hS => by
        rcases hS with h3 | h3
        · exact ht j hj h3
        · simp at hj; omega) h.sets)
      reds := RedsAt.kept hc ht h.reds
      few := ⟨by have := h.few.1; omega, by have := h.few.2.1; omega, by have := h.few.2.2; omega⟩ }
theorem CmdB.kept0 (h : CmdB w pb a c ts vs nb q deep cm wv sv rv wx sx rx wr) (hc : Chg [] wr w') : CmdB w pb a c ts vs nb q deep cm wv sv rv wx sx rx w' := h.call (hc.mono (by simp)) (h.base.ps.chg0 hc) (Nat.le_refl _)
theorem CmdB.setAt (h : CmdB w pb a c ts vs nb q deep cm wv sv rv wx sx rx wr) (z : Int) (hz : z = ((q + 1 : Nat) : Int)) (hq : q + 1 ≤ ts.length) : CmdB w pb a c ts vs nb (q + 1) deep cm wv sv rv wx sx rx (wr.setCell ⟨pb, 1, none⟩ (.int .i64 z)) :=
  h.call (Chg.setP _ _ _ _) (h.base.ps.setAt (q + 1) z hz hq) (by omega)

theorem CmdB.start (h : PS w pb a c ts vs q deep 0) :
    CmdB w pb a c ts vs (w.heap.size + 1) q deep ⟨[], [], []⟩ (.slice none 0 0) (.slice none 0 0) (.slice none 0 0) [] [] [] ((w.alloc (.cells (nodeC 0 (.slice none 0 0)) 30)).alloc (.cells (nodeC 5 (.slice none 0 0)) 30)) := by
  have e : (w.alloc (.cells (nodeC 0 (.slice none 0 0)) 30)).heap.size = w.heap.size + 1 := by simp
  exact
    { base := (Base.start h).kept0 ((Chg.refl [] _).alloc _)
      nd := by rw [← e]; exact obj_alloc_new _ _
      rw := Row.nil _ _ _ _
      rs := Row.nil _ _ _ _
      rr := Row.nil _ _ _ _
      words := rfl
      sets := rfl
      reds := rfl
      new := by simp [rowBlock]
      d1 := by simp [rowBlock]
      d2 := by simp [rowBlock]
      d3 := by simp [rowBlock]
      nb0 := by omega
      few := ⟨Nat.zero_le _, Nat.zero_le _, Nat.zero_le _⟩ }

/-- what a change of the rows' blocks and of the node's leaves. -/
theorem CmdB.stay (h : CmdB w pb a c ts vs nb q deep cm wv sv rv wx sx rx w1) {F : List Nat} (hF : ∀ k ∈ F, k = nb ∨ k ∈ rowBlock wv ∨ k ∈ rowBlock sv ∨ k ∈ rowBlock rv) (hc : Chg F w1 w4) {wv' sv' rv' : Value}
    (hb : ∀ k, k ∈ rowBlock wv' ∨ k ∈ rowBlock sv' ∨ k ∈ rowBlock rv' → (k ∈ rowBlock wv ∨ k ∈ rowBlock sv ∨ k ∈ rowBlock rv) ∨ w1.heap.size ≤ k) :
    Base w pb a c ts vs q deep w4 ∧ WordsAt w4 (TB (.slice a ts.length c) vs) cm.words wx ∧ SetsAt w4 (Sc (.slice a ts.length c) vs w.heap.size w4.heap.size nb wv' sv' rv') cm.sets sx ∧ RedsAt w4 (TB (.slice a ts.length c) vs) cm.reds rx ∧ (∀ k, k ∈ rowBlock wv' ∨ k ∈ rowBlock sv' ∨ k ∈ rowBlock rv' → w.heap.size < k ∧ k ≠ nb) := by
  have hnb := h.nb0
  have hnl := lt_of_obj h.nd
  have hsz := h.base.chg.size
  have hlt : ∀ k ∈ F, w.heap.size < k := fun k hk => by
    rcases hF k hk with h1 | h1
    · omega
    · exact (h.new k h1).1
  have ht : ∀ j ∈ F, ¬ TB (.slice a ts.length c) vs j := fun j hj hT => by have := hlt j hj; have := h.base.old.2 j hT; omega
  refine ⟨h.base.turnL hc hlt, WordsAt.kept hc ht h.words, ?_, RedsAt.kept hc ht h.reds, fun k hk => ?_⟩
  · refine SetsAt.mono (fun j hj => hj.imp id (fun h3 => ?_)) (SetsAt.kept hc (fun j hj hS => ?_) h.sets)
    · rcases hS with h3 | h3
      · exact ht j hj h3
      · rcases hF j hj with h4 | h4 | h4 | h4
        · exact h3.2.2.1 h4
        · exact h3.2.2.2.1 h4
        · exact h3.2.2.2.2.1 h4
        · exact h3.2.2.2.2.2 h4
    · have hno : ¬ (j ∈ rowBlock wv' ∨ j ∈ rowBlock sv' ∨ j ∈ rowBlock rv') := fun hj2 => by
        rcases hb j hj2 with (h4 | h4 | h4) | h4
        · exact h3.2.2.2.1 h4
        · exact h3.2.2.2.2.1 h4
        · exact h3.2.2.2.2.2 h4
        · omega
      exact ⟨h3.1, Nat.lt_of_lt_of_le h3.2.1 hc.size, h3.2.2.1, fun h4 => hno (.inl h4), fun h4 => hno (.inr (.inl h4)), fun h4 => hno (.inr (.inr h4))⟩
  · rcases hb k hk with h4 | h4
    · exact h.new k h4
    · exact ⟨by omega, by omega⟩

theorem CmdB.addW (h : CmdB w pb a c ts vs nb q deep cm wv sv rv wx sx rx w1) {p : List Lx.Part} {u v' : Value} (hn : WordIn w1 (TB (.slice a ts.length c) vs) 0 u p) (h12 : Chg [] w1 w2) (hr : Row w3 49 1 v' (cm.words.length + 1) (wx ++ [u]))
    (h23 : Chg (rowBlock wv) w2 w3) (hb : ∀ k ∈ rowBlock v', k ∈ rowBlock wv ∨ w1.heap.size ≤ k) (hf : cm.words.length ≤ q) : CmdB w pb a c ts vs nb q deep { cm with words := cm.words ++ [p] } v' sv rv (wx ++ [u]) sx rx (w3.setCell ⟨nb, 3, none⟩ v') := by
  have h13 : Chg (rowBlock wv) w1 w3 := (h12.mono (by simp)).trans h23 (fun x hx => .inl hx)
  have h14 : Chg (nb :: rowBlock wv) w1 (w3.setCell ⟨nb, 3, none⟩ v') := (h13.mono (fun x hx => .inl (by simp [hx]))).setCell _ _ (.inl (by simp))
  obtain ⟨s1, s2, s3, s4, s5⟩ := h.stay (wv' := v') (sv' := sv) (rv' := rv) (fun k hk => by simp at hk; exact hk.imp id .inl) h14 (fun k hk => by
    rcases hk with h1 | h1 | h1
    · exact (hb k h1).imp .inl id
    · exact .inl (.inr (.inl h1))
    · exact .inl (.inr (.inr h1)))
  have hs : Chg [nb] w3 (w3.setCell ⟨nb, 3, none⟩ v') := (Chg.refl [nb] w3).setCell _ _ (.inl (by simp))
  have hlt := fun k hk => Row.block_lt h.rs k hk
  have hlt2 := fun k hk => Row.block_lt h.rr k hk
  have hw := WordsAt.kept h14 (fun j hj hT => by
    have := h.base.old.2 j hT
    simp at hj
    rcases hj with rfl | hj
    · have := h.nb0; omega
    · have := (h.new j (.inl hj)).1; omega) (WordsAt.snoc h.words hn)
  exact
    { base := s1
      nd := obj_setCell (h13.obj h.nd (fun hj => (h.new _ (.inl hj)).2 rfl)) 3 v'
      rw := by
        rw [List.length_append, List.length_singleton]
        exact hr.kept hs (fun j hj => by simp; exact (s5 j (.inl hj)).2)
      rs := h.rs.kept h14 (fun j hj hm => by simp at hm; exact hm.elim (h.new j (.inr (.inl hj))).2 (fun h1 => h.d1 j h1 hj))
      rr := h.rr.kept h14 (fun j hj hm => by simp at hm; exact hm.elim (h.new j (.inr (.inr hj))).2 (fun h1 => h.d2 j h1 hj))
      words := hw
      sets := s3
      reds := s4
      new := s5
      d1 := fun k hk hk2 => (hb k hk).elim (fun h1 => h.d1 k h1 hk2) (fun h1 => by have := hlt k hk2; omega)
      d2 := fun k hk hk2 => (hb k hk).elim (fun h1 => h.d2 k h1 hk2) (fun h1 => by have := hlt2 k hk2; omega)
      d3 := h.d3
      nb0 := h.nb0
      few := ⟨by rw [List.length_append, List.length_singleton]; omega, h.few.2⟩ }

theorem CmdB.addR (h : CmdB w pb a c ts vs nb q deep cm wv sv rv wx sx rx w1) {p : List Lx.Part} {k0 : Int} {u v' : Value} (hn : WordIn w1 (TB (.slice a ts.length c) vs) 0 u p) (h12 : Chg [] w1 w2) (hr : Row w3 51 2 v' (cm.reds.length + 1) (rx ++ [.int .i64 k0, u]))
    (h23 : Chg (rowBlock rv) w2 w3) (hb : ∀ k ∈ rowBlock v', k ∈ rowBlock rv ∨ w1.heap.size ≤ k) (hf : cm.reds.length ≤ q) : CmdB w pb a c ts vs nb q deep { cm with reds := cm.reds ++ [⟨k0, p⟩] } wv sv v' wx sx (rx ++ [.int .i64 k0, u]) (w3.setCell ⟨nb, 5, none⟩ v') := by
  have h13 : Chg (rowBlock rv) w1 w3 := (h12.mono (by simp)).trans h23 (fun x hx => .inl hx)
  have h14 : Chg (nb :: rowBlock rv) w1 (w3.setCell ⟨nb, 5, none⟩ v') := (h13.mono (fun x hx => .inl (by simp [hx]))).setCell _ _ (.inl (by simp))
  obtain ⟨s1, s2, s3, s4, s5⟩ := h.stay (wv' := wv) (sv' := sv) (rv' := v') (fun k hk => by simp at hk; exact hk.imp id (fun h => .inr (.inr h))) h14 (fun k hk => by
    rcases hk with h1 | h1 | h1
    · exact .inl (.inl h1)
    · exact .inl (.inr (.inl h1))
    · exact (hb k h1).imp (fun h => .inr (.inr h)) id)
  have hs : Chg [nb] w3 (w3.setCell ⟨nb, 5, none⟩ v') := (Chg.refl [nb] w3).setCell _ _ (.inl (by simp))
  have hlt := fun k hk => Row.block_lt h.rs k hk
  have hlt2 := fun k hk => Row.block_lt h.rw k hk
  have hw := RedsAt.kept h14 (fun j hj hT => by
    have := h.base.old.2 j hT
    simp at hj
    rcases hj with rfl | hj
    · have := h.nb0; omega
    · have := (h.new j (.inr (.inr hj))).1; omega) (RedsAt.snoc (r := ⟨k0, p⟩) h.reds hn)
  exact
    { base := s1
      nd := obj_setCell (h13.obj h.nd (fun hj => (h.new _ (.inr (.inr hj))).2 rfl)) 5 v'
      rr := by
        rw [List.length_append, List.length_singleton]
        exact hr.kept hs (fun j hj => by simp; exact (s5 j (.inr (.inr hj))).2)
      rs := h.rs.kept h14 (fun j hj hm => by simp at hm; exact hm.elim (h.new j (.inr (.inl hj))).2 (fun h1 => h.d3 j hj h1))
      rw := h.rw.kept h14 (fun j hj hm => by simp at hm; exact hm.elim (h.new j (.inl hj)).2 (fun h1 => h.d2 j hj h1))
      words := s2
      sets := s3
      reds := hw
      new := s5
      d1 := h.d1
      d2 := fun k hk hk2 => (hb k hk2).elim (fun h1 => h.d2 k hk h1) (fun h1 => by have := hlt2 k hk; omega)
      d3 := fun k hk hk2 => (hb k hk2).elim (fun h1 => h.d3 k hk h1) (fun h1 => by have := hlt k hk; omega)
      nb0 := h.nb0
      few := ⟨h.few.1, h.few.2.1, by rw [List.length_append, List.length_singleton]; omega⟩ }

theorem CmdB.addS (h : CmdB w pb a c ts vs nb q deep cm wv sv rv wx sx rx w1) {s : Ps.SetP} {u v' : Value} {off : Nat} (hn : WordIn w1 (Sc (.slice a ts.length c) vs w.heap.size w1.heap.size nb wv sv rv) off u s.word) (h12 : Chg [] w1 w2) (hr : Row w3 77 2 v' (cm.sets.length + 1) (sx ++ [.string (Lx.strB s.name), u]))
    (h23 : Chg (rowBlock sv) w2 w3) (hb : ∀ k ∈ rowBlock v', k ∈ rowBlock sv ∨ w1.heap.size ≤ k) (hf : cm.sets.length ≤ q) : CmdB w pb a c ts vs nb q deep { cm with sets := cm.sets ++ [s] } wv v' rv wx (sx ++ [.string (Lx.strB s.name), u]) rx (w3.setCell ⟨nb, 4, none⟩ v') := by
  have h13 : Chg (rowBlock sv) w1 w3 := (h12.mono (by simp)).trans h23 (fun x hx => .inl hx)
  have h14 : Chg (nb :: rowBlock sv) w1 (w3.setCell ⟨nb, 4, none⟩ v') := (h13.mono (fun x hx => .inl (by simp [hx]))).setCell _ _ (.inl (by simp))
  have h' : CmdB w pb a c ts vs nb q deep cm wv sv rv wx sx rx w1 := h
  obtain ⟨s1, s2, s3, s4, s5⟩ := h.stay (wv' := wv) (sv' := v') (rv' := rv) (fun k hk => by simp at hk; exact hk.imp id (fun h => .inr (.inl h))) h14 (fun k hk => by
    rcases hk with h1 | h1 | h1
    · exact .inl (.inl h1)
    · exact (hb k h1).imp (fun h => .inr (.inl h)) id
    · exact .inl (.inr (.inr h1)))
  have hs : Chg [nb] w3 (w3.setCell ⟨nb, 4, none⟩ v') := (Chg.refl [nb] w3).setCell _ _ (.inl (by simp))
  have hlt := fun k hk => Row.block_lt h.rw k hk
  have hlt2 := fun k hk => Row.block_lt h.rr k hk
  have hF : ∀ j ∈ nb :: rowBlock sv, ¬ Sc (.slice a ts.length c) vs w.heap.size w1.heap.size nb wv sv rv j := fun j hj hS => by
    simp at hj
    rcases hS with h3 | h3
    · have := h.base.old.2 j h3
      rcases hj with rfl | hj
      · have := h.nb0; omega
      · have := (h.new j (.inr (.inl hj))).1; omega
    · exact hj.elim h3.2.2.1 h3.2.2.2.2.1
  have hw := SetsAt.mono (S' := Sc (.slice a ts.length c) vs w.heap.size (w3.setCell ⟨nb, 4, none⟩ v').heap.size nb wv v' rv) (fun j hj => hj.imp id (fun h3 => ⟨h3.1, Nat.lt_of_lt_of_le h3.2.1 h14.size, h3.2.2.1, h3.2.2.2.1, fun h4 => (hb j h4).elim h3.2.2.2.2.1 (fun h5 => by omega), h3.2.2.2.2.2⟩)) (SetsAt.kept h14 hF (SetsAt.snoc h.sets hn))
  exact
    { base := s1
      nd := obj_setCell (h13.obj h.nd (fun hj => (h.new _ (.inr (.inl hj))).2 rfl)) 4 v'
      rs := by
        rw [List.length_append, List.length_singleton]
        exact hr.kept hs (fun j hj => by simp; exact (s5 j (.inr (.inl hj))).2)
      rw := h.rw.kept h14 (fun j hj hm => by simp at hm; exact hm.elim (h.new j (.inl hj)).2 (fun h1 => h.d1 j hj h1))
      rr := h.rr.kept h14 (fun j hj hm => by simp at hm; exact hm.elim (h.new j (.inr (.inr hj))).2 (fun h1 => h.d3 j h1 hj))
      words := s2
      sets := hw
      reds := s4
      new := s5
      d1 := fun k hk hk2 => (hb k hk2).elim (fun h1 => h.d1 k hk h1) (fun h1 => by have := hlt k hk; omega)
      d2 := h.d2
      d3 := fun k hk hk2 => (hb k hk).elim (fun h1 => h.d3 k h1 hk2) (fun h1 => by have := hlt2 k hk2; omega)
      nb0 := h.nb0
      few := ⟨h.few.1, by rw [List.length_append, List.length_singleton]; omega, h.few.2.2⟩ }

/-- a command at its end. -/
theorem CmdB.fin {wa sa ra : Option Addr} {wn wc sn sc rn rc : Nat} (h : CmdB w pb a c ts vs nb q deep cm (.slice wa wn wc) (.slice sa sn sc) (.slice ra rn rc) wx sx rx wr) (h1 : wn = cm.words.length) (h2 : sn = cm.sets.length) (h3 : rn = cm.reds.length) (hc : Chg [w.heap.size, nb] wr w') :
    RdPost w pb a c ts vs deep (.ok (.mk 5 [] [] cm.words cm.sets cm.reds) q) (.returned (.tuple #[.agg #[.int .i64 5, .slice none 0 0, .string ⟨#[]⟩, .slice wa wn wn, .slice sa sn sn, .slice ra rn rn], .bool true])) w' := by
  subst h1 h2 h3
  have hnb := h.nb0
  have hsz := hc.size
  have hmem : ∀ j ∈ [w.heap.size, nb], w.heap.size ≤ j := fun j hj => by
    simp only [List.mem_cons, List.not_mem_nil, or_false] at hj
    omega
  have ht : ∀ j ∈ [w.heap.size, nb], ¬ TB (.slice a ts.length c) vs j := fun j hj hT => by have := hmem j hj; have := h.base.old.2 j hT; omega
  have hne : ∀ k, k ∈ rowBlock (.slice wa cm.words.length wc) ∨ k ∈ rowBlock (.slice sa cm.sets.length sc) ∨ k ∈ rowBlock (.slice ra cm.reds.length rc) → k ∉ [w.heap.size, nb] := fun k hk hm => by
    have := h.new k hk
    simp only [List.mem_cons, List.not_mem_nil, or_false] at hm
    omega
  have l1 : cm.words.length ≤ wc := by obtain ⟨_, _, hv, hle, _⟩ := h.rw.shape; cases hv; exact hle
  have l2 : cm.sets.length ≤ sc := by obtain ⟨_, _, hv, hle, _⟩ := h.rs.shape; cases hv; exact hle
  have l3 : cm.reds.length ≤ rc := by obtain ⟨_, _, hv, hle, _⟩ := h.rr.shape; cases hv; exact hle
  have hin : ∀ {v : Value} {E : TypeId} {sz n : Nat} {xs : List Value}, Row wr E sz v n xs → (∀ j ∈ rowBlock v, w.heap.size < j) → ∀ j ∈ rowBlock v, Sn (.slice a ts.length c) vs w.heap.size w'.heap.size j := fun hr hl j hj => .inr ⟨by have := hl j hj; omega, by have := Row.block_lt hr j hj; omega⟩
  refine ⟨_, ?_, rfl, h.base.ps.chg hc (fun j hj => ?_), h.base.chg.trans hc (fun x hx => .inr (hmem x hx))⟩
  · unfold NodeAt
    refine ⟨_, _, _, _, [], wx, sx, rx, rfl, Sl.nil _ _ _ _, by unfold NodesAt; rfl, Row.sl (Row.clip (h.rw.kept hc (fun j hj => hne j (.inl hj)))) (fun j hj => hin h.rw (fun j hj => (h.new j (.inl hj)).1) j (rowBlock_clip _ _ _ _ l1 j hj)),
      WordsAt.mono (fun j hj => .inl hj) (WordsAt.kept hc ht h.words),
      Row.sl (Row.clip (h.rs.kept hc (fun j hj => hne j (.inr (.inl hj))))) (fun j hj => hin h.rs (fun j hj => (h.new j (.inr (.inl hj))).1) j (rowBlock_clip _ _ _ _ l2 j hj)),
      SetsAt.mono (fun j hj => hj.imp id (fun h4 => ⟨by omega, by omega⟩)) (SetsAt.kept hc (fun j hj hS => by
        rcases hS with h4 | h4
        · exact ht j hj h4
        · simp only [List.mem_cons, List.not_mem_nil, or_false] at hj
          omega) h.sets),
      Row.sl (Row.clip (h.rr.kept hc (fun j hj => hne j (.inr (.inr hj))))) (fun j hj => hin h.rr (fun j hj => (h.new j (.inr (.inr hj))).1) j (rowBlock_clip _ _ _ _ l3 j hj)),
      RedsAt.mono (fun j hj => .inl hj) (RedsAt.kept hc ht h.reds)⟩
  · exact ⟨by have := hmem j hj; have := h.base.old.1; omega, ht j hj⟩
end

end Go.Proofs.YtfgbbmnmblchiaaDoor

namespace Go.Proofs.YtfgbbmnmblchiaaDoor
open Go.RowKit Go.Maps
set_option linter.unusedVariables false

set_option maxRecDepth 100000 in
theorem zeroInt (w : World) : (zeroValue 3).run Tryd.prog w = .ok (.int .i64 0) w := by rfl
theorem wf_small {n : Int} (h : -9223372036854775808 ≤ n ∧ n ≤ 9223372036854775807) : (Lit.int .i64 n).wf = true := WalkArith.wf_i64 h
theorem key_str (l : List UInt8) (h : l.length ≤ 2048) : keyOf Tryd.prog 9 (.string (Lx.strB l)) = some (.string l) := by
  rw [WideMaps.keyOf_string_mk (P := Tryd.prog) Tryd.underlying9 (by rw [Lx.strB_size]; unfold maxLen; omega), Lx.strB_data]
theorem elem_int (n : Int) (h : -9223372036854775808 ≤ n ∧ n ≤ 9223372036854775807) : plainElem (H := Unit) Tryd.prog 3 (.int .i64 n) = some (.lit (.int .i64 n), []) := plainElem_int Tryd.underlying3 (wf_small h)

theorem put3 : (((DataW.map (H := Unit) []).put (.string [60]) (.lit (.int .i64 1))).put (.string [62]) (.lit (.int .i64 2))).put (.string [62, 62]) (.lit (.int .i64 3)) = .map [(.string [60], .lit (.int .i64 1)), (.string [62], .lit (.int .i64 2)), (.string [62, 62], .lit (.int .i64 3))] := by rfl

theorem at3 (x : List UInt8) : (DataW.map (H := Unit) [(.string [60], .lit (.int .i64 1)), (.string [62], .lit (.int .i64 2)), (.string [62, 62], .lit (.int .i64 3))]).atKey (.string x) (.lit (.int .i64 0)) = .lit (.int .i64 (Ps.redK x)) := by
  have e : ∀ y : List UInt8, (y == x) = decide (x = y) := fun y => by
    by_cases h : x = y
    · rw [decide_eq_true h, h]; simp
    · rw [decide_eq_false h]; simpa using fun h2 => h h2.symm
  unfold DataW.atKey Ps.redK
  simp only [List.find?, Lit.sameKey, e]
  by_cases h1 : x = [60]
  · subst h1; rfl
  · rw [if_neg h1, decide_eq_false h1]
    by_cases h2 : x = [62]
    · subst h2; rfl
    · rw [if_neg h2, decide_eq_false h2]
      by_cases h3 : x = [62, 62]
      · subst h3; rfl
      · rw [if_neg h3, decide_eq_false h3]

theorem Chg.ofMap {w w' : World} {b : Nat} (h : w.grownBy w' (some b)) : Chg [b] w w' := (Chg.refl [b] w).grown h (fun k hk => .inl (by cases hk; simp))

set_option maxRecDepth 100000 in
/-- the table. -/
theorem red_map (x : List UInt8) (hx : x.length ≤ 2048) (w : World) : ∃ w1 w2 w3 : World,
    (Instr.mapUpdate 137 (.map (some w.heap.size)) (.string ⟨#[60]⟩) (.int .i64 1)).run Tryd.prog (w.alloc (.map #[] 0)) = .ok () w1 ∧
    (Instr.mapUpdate 137 (.map (some w.heap.size)) (.string ⟨#[62]⟩) (.int .i64 2)).run Tryd.prog w1 = .ok () w2 ∧
    (Instr.mapUpdate 137 (.map (some w.heap.size)) (.string ⟨#[62, 62]⟩) (.int .i64 3)).run Tryd.prog w2 = .ok () w3 ∧
    (Instr.lookup 137 (.map (some w.heap.size)) (.string (Lx.strB x)) false).run Tryd.prog w3 = .ok (.int .i64 (Ps.redK x)) w3 ∧ Chg [] w w3 := by
  have K := string_keyed Tryd.underlying9
  have h0 := World.ownsMap_made w Tryd.prog 9 (plainElem (H := Unit) Tryd.prog 3)
  obtain ⟨w1, r1, o1, g1⟩ := h0.update K Tryd.underlying137 (by unfold maxLen; omega) (key_str [60] (by decide)) (elem_int 1 (by omega))
  obtain ⟨w2, r2, o2, g2⟩ := o1.update K Tryd.underlying137 (by unfold maxLen; omega) (key_str [62] (by decide)) (elem_int 2 (by omega))
  obtain ⟨w3, r3, o3, g3⟩ := o2.update K Tryd.underlying137 (by unfold maxLen; omega) (key_str [62, 62] (by decide)) (elem_int 3 (by omega))
  rw [put3] at o3
  obtain ⟨c, hrun, hat, _⟩ := o3.lookup_int K Tryd.underlying137 Tryd.underlying3 (zeroInt w3) (key_str x hx)
  rw [at3] at hat
  have hc : Ps.redK x = c := by injection hat with h; injection h
  subst hc
  refine ⟨w1, w2, w3, r1, r2, r3, hrun, ?_⟩
  exact (((Chg.refl [] w).alloc _).trans (Chg.ofMap g1) (fun k hk => .inr (by simp at hk; omega))).trans ((Chg.ofMap g2).trans (Chg.ofMap g3) (fun k hk => .inl hk)) (fun k hk => .inr (by simp at hk; omega))

end Go.Proofs.YtfgbbmnmblchiaaDoor
