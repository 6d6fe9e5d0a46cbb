/-
  Words on memory for this seat's walks: rows of cells that a slice value stands for, a change of the world that touches a list of blocks alone, and the law of append over them.
  The plain functions of the words' layer: names, signs, pieces, words, tokens, on lists of bytes. No program and no memory here.
  What the first character of a text is, and how many bytes it has: plain facts.
  A range over a string, as a law of a walk; what its turns leave of the world.
  The letters of names, walked: first, later, name, Name.
  Whether a character is among the signs that have a meaning within a word, walked: strings.IndexRune and ContainsRune at one constant text.
  How far a word's plain signs reach, where a text has what may not be, which sign stands at its beginning: walked.
  Where a text has what may not be, which sign stands at its beginning: walked.
  The sign at a text's beginning, walked.
  A word's pieces in memory; a piece put behind others: walked.
  What stands behind a dollar: walked.
-/
import Derived.WalkKit
import Derived.Deep.LoopGhost
import Derived.WalkLawsBesides
import Derived.WalkSpells
import Derived.Lib.Hide
import Derived.Deep.QuietTactic
import Derived.BigQuiet
import Derived.Outline
import Derived.Deep.DeepFit
import Derived.Deep.DeepMust
import Derived.RegionTactic
import Derived.ChangeAlike
import Derived.Deep.CutBlock
import Derived.Deep.DeepCutAuto
import Derived.Laws.BytesArg
import Derived.Lib.SlBytesConst
import GoSem.Core.Utf8
import Derived.Lib.RuneCountTail
import Derived.Lib.DecodeN
import Derived.Lib.IndexLaws
import Derived.Lib.Strings
import Derived.Lib.Bytealg
import Derived.Test.YtfgbbmnmblchiaaDoorShelf
import Derived.Lib.OthersKept
import Derived.Laws.RangeAny
import Derived.Deep.RegionHeld3
import Derived.Deep.RegionLaw
import Derived.Shelf.Unicode.DecodeAny
namespace Go.Proofs.YtfgbbmnmblchiaaDoor
open Go.RowKit

/-- w' is w with new blocks and with changes to the blocks of F alone. -/
structure Chg (F : List Nat) (w w' : World) : Prop where
  os : w'.os = w.os
  tape : w'.tape = w.tape
  output : w'.output = w.output
  size : w.heap.size ≤ w'.heap.size
  block : ∀ k, k < w.heap.size → k ∉ F → w'.heap[k]? = w.heap[k]?

theorem Chg.refl (F : List Nat) (w : World) : Chg F w w := ⟨rfl, rfl, rfl, Nat.le_refl _, fun _ _ _ => rfl⟩

theorem Chg.trans {F G : List Nat} {a b c : World} (h : Chg F a b) (k : Chg G b c) (hs : ∀ x ∈ G, x ∈ F ∨ a.heap.size ≤ x) : Chg F a c :=
  ⟨k.os.trans h.os, k.tape.trans h.tape, k.output.trans h.output, Nat.le_trans h.size k.size, fun i hi hF =>
    (k.block i (Nat.lt_of_lt_of_le hi h.size) (fun hG => by rcases hs i hG with h1 | h1; exact hF h1; omega)).trans (h.block i hi hF)⟩

/-- the commonest chain: the second change touches new blocks and nothing else. -/
theorem Chg.then0 {F : List Nat} {a b c : World} (h : Chg F a b) (k : Chg [] b c) : Chg F a c := h.trans k (by simp)

theorem Chg.mono {F G : List Nat} {a b : World} (h : Chg F a b) (hs : ∀ x ∈ F, x ∈ G ∨ a.heap.size ≤ x) : Chg G a b :=
  ⟨h.os, h.tape, h.output, h.size, fun i hi hG => h.block i hi (fun hF => by rcases hs i hF with h1 | h1; exact hG h1; omega)⟩

theorem Chg.alloc {F : List Nat} {a w : World} (h : Chg F a w) (o : Obj) : Chg F a (w.alloc o) :=
  h.trans (G := []) ⟨rfl, rfl, rfl, by simp, fun k hk _ => Below.heap_alloc _ _ _ hk⟩ (by simp)

theorem Chg.drew {F : List Nat} {a w : World} (h : Chg F a w) : Chg F a w.drew := ⟨h.os, h.tape, h.output, h.size, h.block⟩

theorem Chg.drew0 {F : List Nat} {w w' : World} (h : Chg F w.drew w') : Chg F w w' := ⟨h.os, h.tape, h.output, h.size, h.block⟩

theorem Chg.drewN {F : List Nat} {a w : World} (h : Chg F a w) (n : Nat) : Chg F a (w.drewN n) := ⟨h.os, h.tape, h.output, h.size, h.block⟩

theorem Chg.setCell {F : List Nat} {a w : World} (h : Chg F a w) (p : Addr) (u : Value) (hp : p.block ∈ F ∨ a.heap.size ≤ p.block) : Chg F a (w.setCell p u) :=
  h.trans (G := [p.block]) ⟨rfl, rfl, rfl, by simp [World.setCell], fun k _ hn => Below.heap_setCell _ _ _ _ (by simpa using hn)⟩ (by simpa using hp)

theorem Chg.grown {F : List Nat} {a w w' : World} {row : Option Nat} (h : Chg F a w) (hg : w.grownBy w' row) (hr : ∀ k, row = some k → k ∈ F ∨ a.heap.size ≤ k) : Chg F a w' :=
  h.trans (G := row.toList) ⟨hg.os, hg.tape, hg.output, hg.size, fun k hk hn => hg.block k hk (fun e => hn (by rw [← e]; simp))⟩ (fun x hx => hr x (by simpa using hx))

theorem Chg.ofBelow {w w' : World} (h : Below w.heap.size w w') : Chg [] w w' := ⟨h.os, h.tape, h.output, h.size, fun k hk _ => h.block k hk⟩
theorem Chg.below {w w' : World} (h : Chg [] w w') : Below w.heap.size w w' := ⟨h.os, h.tape, h.output, h.size, fun k hk => h.block k hk (by simp)⟩

theorem Chg.cell {F : List Nat} {w w' : World} (h : Chg F w w') {p : Addr} {v : Value} (hv : w.cell? p = some v) (hp : p.block ∉ F) : w'.cell? p = some v :=
  (World.cell?_of_block (w := w) (h.block p.block (World.block_lt_of_cell? w p hv) hp)).trans hv

theorem Chg.cellEq {F : List Nat} {w w' : World} (h : Chg F w w') {p : Addr} (hb : p.block < w.heap.size) (hp : p.block ∉ F) : w'.cell? p = w.cell? p :=
  World.cell?_of_block (w := w) (h.block p.block hb hp)

theorem Chg.obj {F : List Nat} {w w' : World} (h : Chg F w w') {k : Nat} {o : Obj} (hk : w.heap[k]? = some o) (hp : k ∉ F) : w'.heap[k]? = some o :=
  (h.block k (Array.getElem?_eq_some_iff.1 hk).1 hp).trans hk

theorem lt_of_obj {w : World} {k : Nat} {o : Obj} (h : w.heap[k]? = some o) : k < w.heap.size := (Array.getElem?_eq_some_iff.1 h).1

theorem obj_alloc_new (w : World) (o : Obj) : (w.alloc o).heap[w.heap.size]? = some o := heap_alloc_new w o
theorem obj_alloc_old {w : World} {k : Nat} {x : Obj} (h : w.heap[k]? = some x) (o : Obj) : (w.alloc o).heap[k]? = some x :=
  (Below.heap_alloc w o k (lt_of_obj h)).trans h

/-- a cell of a block that is known whole. -/
theorem cell_of_obj {w : World} {b : Nat} {c : Array Value} {E : TypeId} {f : Nat × Nat} (h : w.heap[b]? = some (.cells c E f)) {j : Nat} {v : Value} (hj : c[j]? = some v) : w.cell? ⟨b, j, none⟩ = some v := by
  simp [World.cell?, h, hj]
theorem free_of_obj {w : World} {b : Nat} {c : Array Value} {E : TypeId} (h : w.heap[b]? = some (.cells c E (0, 0))) (j : Nat) : w.frozen? ⟨b, j, none⟩ = false := by
  simp [World.frozen?, h]
theorem obj_setCell {w : World} {b : Nat} {c : Array Value} {E : TypeId} {f : Nat × Nat} (h : w.heap[b]? = some (.cells c E f)) (j : Nat) (v : Value) :
    (w.setCell ⟨b, j, none⟩ v).heap[b]? = some (.cells (c.setIfInBounds j v) E f) := by
  simp [World.setCell, Array.getElem?_modify, h]
theorem obj_setCell_other {w : World} {k : Nat} {o : Obj} (h : w.heap[k]? = some o) {p : Addr} (hne : k ≠ p.block) (v : Value) : (w.setCell p v).heap[k]? = some o :=
  (Below.heap_setCell w p v k hne).trans h

/-- THE SLICE VALUE v, of n elements of 'size' cells each, STANDS FOR THE CELLS xs in a block of its own (or has no room at all, wherever it points). -/
def Row (w : World) (E : TypeId) (size : Nat) (v : Value) (n : Nat) (xs : List Value) : Prop :=
  xs.length = n * size ∧
  ((n = 0 ∧ ∃ a, v = .slice a 0 0) ∨
   ∃ g cap cur, v = .slice (some ⟨g, 0, none⟩) n cap ∧ w.heap[g]? = some (.cells cur E (0, 0)) ∧ n ≤ cap ∧ cap ≤ maxLen ∧ cap * size ≤ cur.size ∧ cur.toList.take (n * size) = xs)

/-- the block that a row lies in: none, if it has no room. -/
def rowBlock : Value → List Nat
  | .slice (some a) _ cap => if cap = 0 then [] else [a.block]
  | _ => []

theorem Row.nil (w : World) (E : TypeId) (size : Nat) (a : Option Addr) : Row w E size (.slice a 0 0) 0 [] := ⟨by simp, .inl ⟨rfl, a, rfl⟩⟩

theorem Row.block_lt {w : World} {E : TypeId} {size : Nat} {v : Value} {n : Nat} {xs : List Value} (h : Row w E size v n xs) : ∀ k ∈ rowBlock v, k < w.heap.size := by
  intro k hk
  rcases h.2 with ⟨_, a, rfl⟩ | ⟨g, cap, cur, rfl, hg, _⟩
  · cases a <;> simp [rowBlock] at hk
  · simp only [rowBlock] at hk
    split at hk
    · simp at hk
    · simp at hk; subst hk; exact lt_of_obj hg

theorem Row.kept {w w' : World} {F : List Nat} {E : TypeId} {size : Nat} {v : Value} {n : Nat} {xs : List Value} (h : Row w E size v n xs) (hc : Chg F w w') (hne : ∀ k ∈ rowBlock v, k ∉ F) : Row w' E size v n xs := by
  refine ⟨h.1, ?_⟩
  rcases h.2 with h2 | ⟨g, cap, cur, rfl, hg, h3, h4, h5, h6⟩
  · exact .inl h2
  · by_cases h0 : cap = 0
    · subst h0
      exact .inl ⟨by omega, some ⟨g, 0, none⟩, by have : n = 0 := by omega
                                                  subst this; rfl⟩
    · exact .inr ⟨g, cap, cur, rfl, hc.obj hg (hne g (by simp [rowBlock, h0])), h3, h4, h5, h6⟩

theorem cells_of_take {w : World} {g : Nat} {cur : Array Value} {E : TypeId} {f : Nat × Nat} {k : Nat} {xs : List Value} (hg : w.heap[g]? = some (.cells cur E f)) (h6 : cur.toList.take k = xs) {j : Nat} {u : Value} (hj : xs[j]? = some u) : w.cell? ⟨g, j, none⟩ = some u := by
  refine cell_of_obj hg ?_
  rw [← h6, List.getElem?_take] at hj
  split at hj
  · simpa using hj
  · cases hj

theorem Addr.add_zero_off (g j : Nat) : (⟨g, 0, none⟩ : Addr).add j = ⟨g, j, none⟩ := by
  unfold Addr.add
  split <;> simp_all

theorem Row.ofOwns {w : World} {base : Nat} {E : TypeId} {size : Nat} {v : Value} {n : Nat} {xs : List Value} (h : w.ownsRow base E size v n xs) : Row w E size v n xs := by
  refine ⟨h.1, ?_⟩
  rcases h.2 with ⟨rfl, rfl⟩ | ⟨g, cap, cur, rfl, _, hg, h3, h4, h5, h6⟩
  · exact .inl ⟨rfl, none, rfl⟩
  · exact .inr ⟨g, cap, cur, rfl, hg, h3, h4, Nat.le_of_eq h5.symm, h6⟩

theorem rowBlock_own (v : Value) : ∀ k ∈ rowBlock v, v.ownBlock = some k := by
  intro k hk
  cases v with
  | slice a n c =>
    cases a with
    | none => simp [rowBlock] at hk
    | some a =>
      simp only [rowBlock] at hk
      split at hk
      · simp at hk
      · simp at hk; subst hk; rfl
  | _ => simp [rowBlock] at hk

/-- what a slice value of m elements has at its head: to be read, or appended. Of a slice without elements nothing is asked. -/
def SrcAt (w : World) (a : Option Addr) (news : List Value) : Prop :=
  news ≠ [] → ∃ b off, a = some ⟨b, off, none⟩ ∧ ∀ j u, news[j]? = some u → w.cell? ⟨b, off + j, none⟩ = some u

theorem Row.src {w : World} {E : TypeId} {size : Nat} {a : Option Addr} {n m cap : Nat} {xs : List Value} (h : Row w E size (.slice a m cap) n xs) : SrcAt w a xs := by
  intro hne
  rcases h.2 with ⟨rfl, ao, _⟩ | ⟨g, cap', cur, hv, hg, h3, h4, h5, h6⟩
  · exact absurd (List.eq_nil_of_length_eq_zero (by simpa using h.1)) hne
  · cases hv
    exact ⟨g, 0, rfl, fun j u hj => by rw [Nat.zero_add]; exact cells_of_take hg h6 hj⟩

/-- its shape. -/
theorem Row.shape {w : World} {E : TypeId} {size : Nat} {v : Value} {n : Nat} {xs : List Value} (h : Row w E size v n xs) : ∃ a cap, v = .slice a n cap ∧ n ≤ cap ∧ cap ≤ maxLen := by
  rcases h.2 with ⟨rfl, a, rfl⟩ | ⟨g, cap, cur, rfl, _, h3, h4, _⟩
  · exact ⟨a, 0, rfl, Nat.le_refl _, Nat.zero_le _⟩
  · exact ⟨_, cap, rfl, h3, h4⟩

/-- .. with a letter for its length. -/
theorem Row.shape3 {w : World} {E : TypeId} {size : Nat} {v : Value} {n : Nat} {xs : List Value} (h : Row w E size v n xs) : ∃ a m cap, v = .slice a m cap ∧ Hid (m = n) := by
  obtain ⟨a, cap, rfl, _⟩ := h.shape
  exact ⟨a, n, cap, rfl, rfl⟩

/-- 's[:len(s):len(s)]' stands for the same. -/
theorem Row.clip {w : World} {E : TypeId} {size : Nat} {a : Option Addr} {n m cap : Nat} {xs : List Value} (h : Row w E size (.slice a m cap) n xs) : Row w E size (.slice a n n) n xs := by
  refine ⟨h.1, ?_⟩
  rcases h.2 with ⟨rfl, ao, hv⟩ | ⟨g, cap', cur, hv, hg, h3, h4, h5, h6⟩
  · cases hv; exact .inl ⟨rfl, _, rfl⟩
  · cases hv
    exact .inr ⟨g, _, cur, rfl, hg, Nat.le_refl _, Nat.le_trans h3 h4, Nat.le_trans (Nat.mul_le_mul_right _ h3) h5, h6⟩

theorem rowBlock_clip (a : Option Addr) (n m cap : Nat) (h : n ≤ cap) : ∀ k ∈ rowBlock (.slice a n n), k ∈ rowBlock (.slice a m cap) := by
  intro k hk
  cases a with
  | none => simp [rowBlock] at hk
  | some a =>
    simp only [rowBlock] at hk ⊢
    split at hk
    · simp at hk
    · rw [if_neg (by omega)]; exact hk

theorem SrcAt.kept {w w' : World} {F : List Nat} {a : Option Addr} {news : List Value} (h : SrcAt w a news) (hc : Chg F w w') (hne : ∀ x, a = some x → x.block ∉ F) : SrcAt w' a news := by
  intro h0
  obtain ⟨b, off, rfl, hb⟩ := h h0
  exact ⟨b, off, rfl, fun j u hj => hc.cell (hb j u hj) (by simpa using hne _ rfl)⟩

/-- APPEND: some value that stands for both, in some world where nothing but the row's own block has turned. -/
theorem run_append_row {P : Program} (w : World) (t ty E : TypeId) (i : TypeInfo) (z : Value) (size bytes : Nat) (ht : P.underlying t = some (.slice E)) (hi : P.info? E = some i) (hz : i.zero = some z)
    (hsize : i.size = size) (hby : i.bytes = bytes) (hzs : z.cells.size = size) (hsz : 0 < size)
    (v : Value) (n : Nat) (xs : List Value) (hrow : Row w E size v n xs)
    (a : Option Addr) (m c : Nat) (news : List Value) (hl : news.length = m * size) (hnews : SrcAt w a news) (h1 : ∀ u ∈ news, u.oneCell' = true)
    (h63 : n + m ≤ maxLen) (hbytes : (n + m) * bytes ≤ 140737488355328) :
    ∃ v' w', (Builtin.append_ #[t, t] ty #[v, .slice a m c]).run P w = .ok v' w' ∧ Row w' E size v' (n + m) (xs ++ news) ∧ Chg (rowBlock v) w w' ∧ (∀ k ∈ rowBlock v', k ∈ rowBlock v ∨ w.heap.size ≤ k) := by
  by_cases hm : m = 0
  · subst hm
    have hnn : news = [] := List.eq_nil_of_length_eq_zero (by simpa using hl)
    subst hnn
    refine ⟨v, w, ?_, by simpa using hrow, Chg.refl _ _, fun k hk => .inl hk⟩
    rcases hrow.2 with ⟨rfl, ao, rfl⟩ | ⟨g, cap, cur, rfl, hg, h3, h4, h5, h6⟩
    · cases ao <;> cases a <;> simp [Builtin.append_, run_underlying ht, sizeOf, typeInfo, hi, Builtin.lenOf, Builtin.firstCells, storeCells, loadCells, loadCellsFrom]
    · cases a <;> simp [Builtin.append_, run_underlying ht, sizeOf, typeInfo, hi, Builtin.lenOf, Builtin.firstCells, storeCells, loadCells, loadCellsFrom, h3]
  · have hne : news ≠ [] := by
      intro e
      rw [e] at hl
      have := Nat.mul_pos (Nat.pos_of_ne_zero hm) hsz
      simp at hl
      omega
    obtain ⟨b, off, rfl, hcell⟩ := hnews hne
    have hcell' : ∀ j u, news[j]? = some u → w.cell? ((⟨b, off, none⟩ : Addr).add j) = some u := by
      intro j u hj
      have := hcell j u hj
      unfold Addr.add
      split
      · subst_vars; simpa using this
      · exact this
    rcases hrow.2 with ⟨rfl, ao, rfl⟩ | ⟨g, cap, cur, rfl, hg, h3, h4, h5, h6⟩
    · have hx0 : xs = [] := List.eq_nil_of_length_eq_zero (by simpa using hrow.1)
      subst hx0
      cases ao with
      | none =>
        obtain ⟨v', w', hr, r1, r2, r3⟩ := run_append_own (P := P) w w.heap.size t ty E i z size bytes ht hi hz hsize hby hzs hsz (.slice none 0 0) 0 [] (World.ownsRow_nil w _ E size) _ m c news hl hcell' h1 h63 hbytes (Nat.le_refl _)
        refine ⟨v', w', hr, Row.ofOwns r1, ?_, fun k hk => .inr (r1.lt k (rowBlock_own _ k hk)).1⟩
        exact (Chg.refl _ _).grown r2 (by simp [Value.ownBlock])
      | some ad =>
        obtain ⟨v', w', hr, r1, r2⟩ := run_append_arg_grows (P := P) w t ty E i z size bytes ht hi hz hsize hby hzs hsz ad 0 0 [] (by simp) (by simp) _ m c news hl hcell' (by omega) h63 hbytes
        refine ⟨v', w', hr, Row.ofOwns r1, ?_, fun k hk => .inr (r1.lt k (rowBlock_own _ k hk)).1⟩
        exact (Chg.refl _ _).grown r2 (by simp)
    · by_cases hc0 : cap = 0
      · subst hc0
        have hn0 : n = 0 := by omega
        subst hn0
        have hx0 : xs = [] := List.eq_nil_of_length_eq_zero (by simpa using hrow.1)
        subst hx0
        obtain ⟨v', w', hr, r1, r2⟩ := run_append_arg_grows (P := P) w t ty E i z size bytes ht hi hz hsize hby hzs hsz ⟨g, 0, none⟩ 0 0 [] (by simp) (by simp) _ m c news hl hcell' (by omega) h63 hbytes
        refine ⟨v', w', hr, Row.ofOwns r1, ?_, fun k hk => .inr (r1.lt k (rowBlock_own _ k hk)).1⟩
        exact (Chg.refl _ _).grown r2 (by simp)
      · by_cases hroom : n + m ≤ cap
        · have hr := run_append_room (P := P) w t ty E i ht hi g n cap cur hg _ m c news (by rw [hsize]; exact hl) hcell' h1 hroom (by
            rw [hsize, hl, ← Nat.add_mul]; exact Nat.le_trans (Nat.mul_le_mul_right _ hroom) h5)
          have hlt := lt_of_obj hg
          refine ⟨_, _, hr, ?_, ?_, fun k hk => .inl (by simpa [rowBlock] using hk)⟩
          · refine ⟨by rw [List.length_append, hrow.1, hl, Nat.add_mul], .inr ⟨g, cap, (cur.toList.take (n * i.size) ++ news ++ cur.toList.drop (n * i.size + news.length)).toArray, rfl, setRow_heap w g _ _ _ _ hg, hroom, h4, ?_, ?_⟩⟩
            · have e1 : n * size + news.length ≤ cur.toList.length := by
                rw [Array.length_toList (xs := cur), hl, ← Nat.add_mul]; exact Nat.le_trans (Nat.mul_le_mul_right _ hroom) h5
              have e0 : n * size ≤ cur.toList.length := by omega
              rw [List.size_toArray, hsize, List.length_append, List.length_append, List.length_take, List.length_drop, Nat.min_eq_left e0]
              rw [Array.length_toList (xs := cur)] at e1 ⊢
              omega
            · simp only [hsize]
              have e2 : (cur.toList.take (n * size)).length = n * size := by rw [h6, hrow.1]
              have e3 : (n + m) * size = (cur.toList.take (n * size) ++ news).length := by rw [List.length_append, e2, hl, Nat.add_mul]
              rw [List.toList_toArray, e3, List.take_left, h6]
          · exact ⟨rfl, rfl, rfl, by simp, fun k _ hk => setRow_other w g k _ (by simpa [rowBlock, hc0] using hk)⟩
        · obtain ⟨v', w', hr, r1, r2⟩ := run_append_arg_grows (P := P) w t ty E i z size bytes ht hi hz hsize hby hzs hsz ⟨g, 0, none⟩ n cap xs hrow.1
            (by
              intro j u hj
              rw [Addr.add_zero_off]
              exact cells_of_take hg h6 hj) _ m c news hl hcell' (by omega) h63 hbytes
          refine ⟨v', w', hr, Row.ofOwns r1, ?_, fun k hk => .inr (r1.lt k (rowBlock_own _ k hk)).1⟩
          exact (Chg.refl _ _).grown r2 (by simp)

theorem Row.alloc {w : World} {E : TypeId} {size : Nat} {v : Value} {n : Nat} {xs : List Value} (h : Row w E size v n xs) (o : Obj) : Row (w.alloc o) E size v n xs :=
  h.kept ((Chg.refl [] w).alloc o) (by simp)
theorem Row.kept0 {w w' : World} {E : TypeId} {size : Nat} {v : Value} {n : Nat} {xs : List Value} (h : Row w E size v n xs) (hc : Chg [] w w') : Row w' E size v n xs := h.kept hc (by simp)
theorem Row.drew {w : World} {E : TypeId} {size : Nat} {v : Value} {n : Nat} {xs : List Value} (h : Row w E size v n xs) : Row w.drew E size v n xs := h
theorem SrcAt.kept0 {w w' : World} {a : Option Addr} {news : List Value} (h : SrcAt w a news) (hc : Chg [] w w') : SrcAt w' a news := h.kept hc (by simp)
theorem SrcAt.alloc {w : World} {a : Option Addr} {news : List Value} (h : SrcAt w a news) (o : Obj) : SrcAt (w.alloc o) a news := h.kept0 ((Chg.refl [] w).alloc o)

/-- what stands in a block that has just been laid. -/
theorem srcNew (w : World) (c : Array Value) (E : TypeId) (f : Nat × Nat) : SrcAt (w.alloc (.cells c E f)) (some ⟨w.heap.size, 0, none⟩) c.toList :=
  fun _ => ⟨_, 0, rfl, fun j u hj => by rw [Nat.zero_add]; exact cell_of_obj (obj_alloc_new w _) (by simpa using hj)⟩
theorem srcNew1 (w : World) (v : Value) (E : TypeId) (f : Nat × Nat) : SrcAt (w.alloc (.cells #[v] E f)) (some ⟨w.heap.size, 0, none⟩) [v] := srcNew w #[v] E f

/-- .. AT THE OPERATION, for the walk. -/
theorem wpList_append_row {P : Program} (w : World) {ops : Array Oper} {rest : List Oper} {o : Oper} {a : Act} {Q : Exit → Act → World → Prop}
    (hg : o.guard = none) (s x : Operand) (t : TypeId) (hop : o.op = Op.call { callee := Callee.builtin Builtin.append, args := #[s, x], argTypes := #[t, t] })
    (E : TypeId) (i : TypeInfo) (z : Value) (size bytes : Nat) (h1 : P.underlying t = some (.slice E)) (h2 : P.info? E = some i) (h3 : i.zero = some z) (h4 : i.size = size) (h5 : i.bytes = bytes) (h6 : z.cells.size = size) (h7 : 0 < size)
    (v : Value) (n : Nat) (xs : List Value) (hs : a.eval s = v) (hrow : Row w E size v n xs)
    (ao : Option Addr) (m c : Nat) (news : List Value) (hx : a.eval x = .slice ao m c) (hl : news.length = m * size) (hsrc : SrcAt w ao news) (h1c : ∀ u ∈ news, u.oneCell' = true)
    (b1 : n + m ≤ maxLen) (b2 : (n + m) * bytes ≤ 140737488355328)
    (hK : ∀ v' w', Row w' E size v' (n + m) (xs ++ news) → Chg (rowBlock v) w w' → (∀ k ∈ rowBlock v', k ∈ rowBlock v ∨ w.heap.size ≤ k) → wpList P ops Q rest (a.put o.dst v') w') :
    wpList P ops Q (o :: rest) a w := by
  refine wpList_plain hg fun K' hK' => ?_
  obtain ⟨v', w', hrun, r1, r2, r3⟩ := run_append_row (P := P) w t o.type E i z size bytes h1 h2 h3 h4 h5 h6 h7 v n xs hrow ao m c news hl hsrc h1c b1 b2
  unfold Oper.wp
  simp [execOp, hop, resolve, invoke, builtin, hs, hx, hrun, Result.andThen]
  exact hK' _ _ (hK v' w' r1 r2 r3)

/-- .. AT A STEP OF A REGION THAT DRAWS ITS ORDER. -/
theorem step_append_row {P : Program} {w : World} {ops : Array Oper} {o : Oper} {a : Act} {K : Act → World → Prop} {Q : Exit → Act → World → Prop} {E0 : Prop}
    (hg : o.guard = none) (s x : Operand) (t : TypeId) (hop : o.op = Op.call { callee := Callee.builtin Builtin.append, args := #[s, x], argTypes := #[t, t] })
    (E : TypeId) (i : TypeInfo) (z : Value) (size bytes : Nat) (h1 : P.underlying t = some (.slice E)) (h2 : P.info? E = some i) (h3 : i.zero = some z) (h4 : i.size = size) (h5 : i.bytes = bytes) (h6 : z.cells.size = size) (h7 : 0 < size)
    (v : Value) (n : Nat) (xs : List Value) (hs : a.eval s = v) (hrow : Row w E size v n xs)
    (ao : Option Addr) (m c : Nat) (news : List Value) (hx : a.eval x = .slice ao m c) (hl : news.length = m * size) (hsrc : SrcAt w ao news) (h1c : ∀ u ∈ news, u.oneCell' = true)
    (b1 : n + m ≤ maxLen) (b2 : (n + m) * bytes ≤ 140737488355328)
    (hK : ∀ v' w', Row w' E size v' (n + m) (xs ++ news) → Chg (rowBlock v) w w' → (∀ k ∈ rowBlock v', k ∈ rowBlock v ∨ w.heap.size ≤ k) → K (a.put o.dst v') w') :
    if Region.wanted o (yielded ops a.tmps) = true then Oper.wp P o a w K Q else E0 := by
  have hw : Region.wanted o (yielded ops a.tmps) = true := by simp [Region.wanted, hg]
  rw [if_pos hw]
  obtain ⟨v', w', hrun, r1, r2, r3⟩ := run_append_row (P := P) w t o.type E i z size bytes h1 h2 h3 h4 h5 h6 h7 v n xs hrow ao m c news hl hsrc h1c b1 b2
  unfold Oper.wp
  simp [execOp, hop, resolve, invoke, builtin, hs, hx, hrun, Result.andThen]
  exact hK v' w' r1 r2 r3

/-- 'string(b)'. -/
theorem run_conv_string {P : Program} (w : World) (src dst e : TypeId) (hs : P.underlying src = some (.slice e)) (he : P.underlying e = some (.int .u8)) (hd : P.underlying dst = some .string)
    (a : Option Addr) (c : Nat) (bs : List UInt8) (h : SrcAt w a (bs.map fun x => Value.int .u8 (x.toNat : Int))) : (convert src dst (.slice a bs.length c)).run P w = .ok (.string ⟨bs.toArray⟩) w := by
  by_cases h0 : bs = []
  · subst h0
    cases a with
    | none =>
      rw [List.length_nil, run_convert_bytes_nil w src e hs he 0 c dst hd]; rfl
    | some ad =>
      rw [run_convert_bytes_string w src dst e _ _ c hs he hd]
      have hl : (loadCells ad ([] : List UInt8).length).run P w = .ok (([] : List Int).map (Value.int .u8)).toArray w := by simp [loadCells, loadCellsFrom]
      rw [run_bytesToString w ad _ c [] hl]
      rfl
  · obtain ⟨b, off, rfl, hb⟩ := h (by simpa using h0)
    have hlen : (bs.map fun x => (x.toNat : Int)).length = bs.length := by simp
    rw [run_convert_bytes_arg w src e hs he b off bs.length c (bs.map fun x => (x.toNat : Int)) hlen (fun i hi => hb i _ (by simp [hi])) dst hd]
    congr 2
    unfold strOfNums
    congr 2
    rw [List.map_map]
    conv => rhs; rw [← List.map_id bs]
    apply List.map_congr_left
    intro x _
    simp

/-! ### '&' with a mask -/
theorem i64_and511 (n : Int) : bits .and .i64 n 511 = n % 512 := by
  have h127 : (BitVec.ofInt 64 511).toNat = 2 ^ 9 - 1 := by decide
  have key : (BitVec.ofInt 64 n &&& BitVec.ofInt 64 511).toNat = (n % ((2 ^ 64 : Nat) : Int)).toNat % 2 ^ 9 := by
    rw [BitVec.toNat_and, BitVec.toNat_ofInt, h127, Nat.and_two_pow_sub_one_eq_mod]
  show IntKind.i64.wrap ((BitVec.ofInt 64 n &&& BitVec.ofInt 64 511).toNat : Nat) = n % 512
  rw [key, IntKind.wrap_i64]
  omega

theorem i64_and1 (n : Int) : bits .and .i64 n 1 = n % 2 := by
  have h127 : (BitVec.ofInt 64 1).toNat = 2 ^ 1 - 1 := by decide
  have key : (BitVec.ofInt 64 n &&& BitVec.ofInt 64 1).toNat = (n % ((2 ^ 64 : Nat) : Int)).toNat % 2 ^ 1 := by
    rw [BitVec.toNat_and, BitVec.toNat_ofInt, h127, Nat.and_two_pow_sub_one_eq_mod]
  show IntKind.i64.wrap ((BitVec.ofInt 64 n &&& BitVec.ofInt 64 1).toNat : Nat) = n % 2
  rw [key, IntKind.wrap_i64]
  omega

theorem i64_and2047 (n : Int) : bits .and .i64 n 2047 = n % 2048 := by
  have h127 : (BitVec.ofInt 64 2047).toNat = 2 ^ 11 - 1 := by decide
  have key : (BitVec.ofInt 64 n &&& BitVec.ofInt 64 2047).toNat = (n % ((2 ^ 64 : Nat) : Int)).toNat % 2 ^ 11 := by
    rw [BitVec.toNat_and, BitVec.toNat_ofInt, h127, Nat.and_two_pow_sub_one_eq_mod]
  show IntKind.i64.wrap ((BitVec.ofInt 64 n &&& BitVec.ofInt 64 2047).toNat : Nat) = n % 2048
  rw [key, IntKind.wrap_i64]
  omega

theorem i64_and255 (n : Int) : bits .and .i64 n 255 = n % 256 := by
  have h127 : (BitVec.ofInt 64 255).toNat = 2 ^ 8 - 1 := by decide
  have key : (BitVec.ofInt 64 n &&& BitVec.ofInt 64 255).toNat = (n % ((2 ^ 64 : Nat) : Int)).toNat % 2 ^ 8 := by
    rw [BitVec.toNat_and, BitVec.toNat_ofInt, h127, Nat.and_two_pow_sub_one_eq_mod]
  show IntKind.i64.wrap ((BitVec.ofInt 64 n &&& BitVec.ofInt 64 255).toNat : Nat) = n % 256
  rw [key, IntKind.wrap_i64]
  omega

theorem i64_and1023 (n : Int) : bits .and .i64 n 1023 = n % 1024 := by
  have h127 : (BitVec.ofInt 64 1023).toNat = 2 ^ 10 - 1 := by decide
  have key : (BitVec.ofInt 64 n &&& BitVec.ofInt 64 1023).toNat = (n % ((2 ^ 64 : Nat) : Int)).toNat % 2 ^ 10 := by
    rw [BitVec.toNat_and, BitVec.toNat_ofInt, h127, Nat.and_two_pow_sub_one_eq_mod]
  show IntKind.i64.wrap ((BitVec.ofInt 64 n &&& BitVec.ofInt 64 1023).toNat : Nat) = n % 1024
  rw [key, IntKind.wrap_i64]
  omega

theorem i64_and63 (n : Int) : bits .and .i64 n 63 = n % 64 := by
  have h127 : (BitVec.ofInt 64 63).toNat = 2 ^ 6 - 1 := by decide
  have key : (BitVec.ofInt 64 n &&& BitVec.ofInt 64 63).toNat = (n % ((2 ^ 64 : Nat) : Int)).toNat % 2 ^ 6 := by
    rw [BitVec.toNat_and, BitVec.toNat_ofInt, h127, Nat.and_two_pow_sub_one_eq_mod]
  show IntKind.i64.wrap ((BitVec.ofInt 64 n &&& BitVec.ofInt 64 63).toNat : Nat) = n % 64
  rw [key, IntKind.wrap_i64]
  omega

theorem i64_and7 (n : Int) : bits .and .i64 n 7 = n % 8 := by
  have h127 : (BitVec.ofInt 64 7).toNat = 2 ^ 3 - 1 := by decide
  have key : (BitVec.ofInt 64 n &&& BitVec.ofInt 64 7).toNat = (n % ((2 ^ 64 : Nat) : Int)).toNat % 2 ^ 3 := by
    rw [BitVec.toNat_and, BitVec.toNat_ofInt, h127, Nat.and_two_pow_sub_one_eq_mod]
  show IntKind.i64.wrap ((BitVec.ofInt 64 n &&& BitVec.ofInt 64 7).toNat : Nat) = n % 8
  rw [key, IntKind.wrap_i64]
  omega

theorem i64_and3 (n : Int) : bits .and .i64 n 3 = n % 4 := by
  have h127 : (BitVec.ofInt 64 3).toNat = 2 ^ 2 - 1 := by decide
  have key : (BitVec.ofInt 64 n &&& BitVec.ofInt 64 3).toNat = (n % ((2 ^ 64 : Nat) : Int)).toNat % 2 ^ 2 := by
    rw [BitVec.toNat_and, BitVec.toNat_ofInt, h127, Nat.and_two_pow_sub_one_eq_mod]
  show IntKind.i64.wrap ((BitVec.ofInt 64 n &&& BitVec.ofInt 64 3).toNat : Nat) = n % 4
  rw [key, IntKind.wrap_i64]
  omega

theorem i64_and15 (n : Int) : bits .and .i64 n 15 = n % 16 := by
  have h127 : (BitVec.ofInt 64 15).toNat = 2 ^ 4 - 1 := by decide
  have key : (BitVec.ofInt 64 n &&& BitVec.ofInt 64 15).toNat = (n % ((2 ^ 64 : Nat) : Int)).toNat % 2 ^ 4 := by
    rw [BitVec.toNat_and, BitVec.toNat_ofInt, h127, Nat.and_two_pow_sub_one_eq_mod]
  show IntKind.i64.wrap ((BitVec.ofInt 64 n &&& BitVec.ofInt 64 15).toNat : Nat) = n % 16
  rw [key, IntKind.wrap_i64]
  omega

theorem i64_and2_ (n : Int) : bits .and .i64 n 2 = 0 ∨ bits .and .i64 n 2 = 2 := by
  have h2 : (BitVec.ofInt 64 2).toNat = 2 := by decide
  have key : (BitVec.ofInt 64 n &&& BitVec.ofInt 64 2).toNat = (BitVec.ofInt 64 n).toNat &&& 2 := by rw [BitVec.toNat_and, h2]
  have hle : (BitVec.ofInt 64 n).toNat &&& 2 ≤ 2 := Nat.and_le_right
  have hne : (BitVec.ofInt 64 n).toNat &&& 2 ≠ 1 := by
    intro h
    have := congrArg (fun x => Nat.testBit x 0) h
    simp at this
  have e : bits .and .i64 n 2 = IntKind.i64.wrap (((BitVec.ofInt 64 n).toNat &&& 2 : Nat) : Int) := by
    show IntKind.i64.wrap ((BitVec.ofInt 64 n &&& BitVec.ofInt 64 2).toNat : Nat) = _
    rw [key]
  rw [e, IntKind.wrap_i64]
  omega

end Go.Proofs.YtfgbbmnmblchiaaDoor

namespace Go.Proofs.YtfgbbmnmblchiaaDoor
namespace Lx

/-- a piece of a word. -/
structure Part where
  kind : Int
  text : List UInt8
  deriving DecidableEq

/-- a token. -/
structure Tok where
  kind : Int
  text : List UInt8
  parts : List Part
  pos : Nat
  deriving DecidableEq

/-- what a reading gives: wrong at a place, or something. -/
inductive Res (α : Type) where
  | bad (at_ : Nat)
  | ok (a : α)
  deriving DecidableEq

def firstB (c : UInt8) : Bool := (decide (97 ≤ c.toNat) && decide (c.toNat ≤ 122)) || (decide (65 ≤ c.toNat) && decide (c.toNat ≤ 90)) || c.toNat == 95
def laterB (c : UInt8) : Bool := firstB c || (decide (48 ≤ c.toNat) && decide (c.toNat ≤ 57))

/-- how many bytes at a text's beginning are a name: 32 at most. -/
def nameLen : List UInt8 → Nat
  | [] => 0
  | c :: t => if firstB c then min 32 (1 + (t.takeWhile laterB).length) else 0

def isName (r : List UInt8) : Bool := decide (r ≠ []) && decide (nameLen r = r.length)

/-- the size of the character at a text's beginning. -/
def wid (r : List UInt8) : Nat := (Utf8.decode ⟨r.toArray⟩ 0).2
def rune (r : List UInt8) : Nat := (Utf8.decode ⟨r.toArray⟩ 0).1

/-- is what stands at a text's beginning not to be? -/
def wrongB (u n : Nat) : Bool := (decide (u < 32) && !(u == 10) && !(u == 9)) || u == 127 || (u == 65533 && n == 1)

/-- the first place that may not be. -/
def badP : Nat → List UInt8 → Nat → Option Nat
  | 0, _, _ => none
  | f + 1, r, p => if r = [] then none else if wrongB (rune r) (wid r) then some p else badP f (r.drop (wid r)) (p + wid r)

def signs : List (List UInt8) := [[38, 38], [124, 124], [62, 62], [124], [60], [62], [40], [41]]
/-- the sign at a text's beginning. -/
def signOf (r : List UInt8) : List UInt8 := (signs.find? fun x => x.isPrefixOf r).getD []

/-- a piece behind others. -/
def addP (l : List Part) (k : Int) (t : List UInt8) : List Part :=
  match l.getLast? with
  | some p => if k = 1 ∧ p.kind = 1 then l.dropLast ++ [⟨p.kind, p.text ++ t⟩] else if k = 1 ∧ t = [] then l else l ++ [⟨k, t⟩]
  | none => if k = 1 ∧ t = [] then l else l ++ [⟨k, t⟩]

/-- what stands behind a dollar: its text, how many bytes with the dollar; below 0: it is wrong. -/
def dollarP (r : List UInt8) : List UInt8 × Int :=
  if r.head? = some 63 then ([63], 2)
  else if r.head? = some 123 then
    if nameLen (r.drop 1) = 0 ∨ (r.drop 1)[nameLen (r.drop 1)]? ≠ some 125 then ([], -1) else ((r.drop 1).take (nameLen (r.drop 1)), (nameLen (r.drop 1) : Int) + 3)
  else (r.take (nameLen r), (nameLen r : Int) + 1)

/-- a dollar into a word's pieces. -/
def varP (l : List Part) (k : Int) (r : List UInt8) : Option (List Part × Nat) :=
  if (dollarP r).2 < 0 then none else some (if (dollarP r).1 = [] then addP l 1 [36] else addP l k (dollarP r).1, (dollarP r).2.toNat)

def escB (t : List UInt8) : Bool := match t with | d :: _ => d == 34 || d == 92 || d == 36 | [] => false

/-- up to the second quote. -/
def quotP (from_ : Nat) : Nat → List UInt8 → Nat → List Part → Res (List Part × Nat)
  | 0, _, _, _ => .bad from_
  | f + 1, r, p, l =>
    match r with
    | [] => .bad from_
    | c :: t =>
      if c = 34 then .ok (l, p + 1)
      else if c = 36 then (match varP l 3 t with | none => .bad p | some (l', n) => quotP from_ f (r.drop n) (p + n) l')
      else if c = 92 ∧ escB t = true then quotP from_ f (t.drop 1) (p + 2) (addP l 1 (t.take 1))
      else quotP from_ f t (p + 1) (addP l 1 [c])

def endB (c : UInt8) : Bool := [32, 9, 10, 59, 38, 124, 60, 62, 40, 41].contains c
def specB (c : UInt8) : Bool := [32, 9, 10, 59, 38, 124, 60, 62, 40, 41, 39, 34, 92, 36].contains c

/-- the place of a byte. -/
def idx (c : UInt8) (r : List UInt8) : Option Nat := r.findIdx? (· == c)

/-- a word. -/
def wordP : Nat → List UInt8 → Nat → List Part → Res (List Part × Nat)
  | 0, _, p, l => .ok (l, p)
  | f + 1, r, p, l =>
    match r with
    | [] => .ok (l, p)
    | c :: t =>
      if endB c = true then .ok (l, p)
      else if c = 39 then (match idx 39 t with | none => .bad p | some k => wordP f (t.drop (k + 1)) (p + k + 2) (addP l 1 (t.take k)))
      else if c = 34 then (match quotP p (t.length + 1) t (p + 1) l with | .bad e => .bad e | .ok (l', p') => wordP f (r.drop (p' - p)) p' l')
      else if c = 36 then (match varP l 2 t with | none => .bad p | some (l', n) => wordP f (r.drop n) (p + n) l')
      else if c = 92 then (if t = [] then .bad p else wordP f (t.drop (wid t)) (p + 1 + wid t) (if t.head? = some 10 then l else addP l 1 (t.take (wid t))))
      else wordP f t (p + 1) (addP l 1 [c])

/-- how many bytes up to the line's end. -/
def noteLen (r : List UInt8) : Nat := (r.takeWhile (fun c => !(c == 10))).length

/-- the tokens. -/
def tokP : Nat → List UInt8 → Nat → List Tok → Res (List Tok)
  | 0, _, _, acc => .ok acc
  | f + 1, r, p, acc =>
    match r with
    | [] => .ok acc
    | c :: t =>
      if c = 32 ∨ c = 9 then tokP f t (p + 1) acc
      else if c = 35 then tokP f (r.drop (noteLen r)) (p + noteLen r) acc
      else if c = 59 ∨ c = 10 then tokP f t (p + 1) (acc ++ [⟨3, [59], [], p⟩])
      else if signOf r ≠ [] then tokP f (r.drop (signOf r).length) (p + (signOf r).length) (acc ++ [⟨2, signOf r, [], p⟩])
      else if c = 38 then .bad p
      else (match wordP (r.length + 1) r p [] with | .bad e => .bad e | .ok (l, p') => tokP f (r.drop (p' - p)) p' (acc ++ [⟨1, r.take (p' - p), l, p⟩]))

/-- all of it: the error, the place, the tokens. -/
def tokens (l : List UInt8) : Int × Nat × List Tok :=
  if 2048 < l.length then (2, 0, [])
  else match badP (l.length + 1) l 0 with
    | some i => (10, i, [])
    | none => match tokP (l.length + 1) l 0 [] with
      | .bad e => (10, e, [])
      | .ok ts => (0, 0, ts)

end Lx
end Go.Proofs.YtfgbbmnmblchiaaDoor

namespace Go.Proofs.YtfgbbmnmblchiaaDoor
namespace Lx

def strB (bs : List UInt8) : ByteArray := ⟨bs.toArray⟩
theorem strB_size (bs : List UInt8) : (strB bs).size = bs.length := by simp [strB, ByteArray.size]
theorem strB_data (bs : List UInt8) : (strB bs).data.toList = bs := by simp [strB]
theorem strB_self (s : ByteArray) : strB s.data.toList = s := by cases s; simp [strB]
theorem strB_toList (bs : List UInt8) : (strB bs).toList = bs := by rw [ByteArray.toList_eq]; simp [strB]
theorem strB_extract (bs : List UInt8) (i j : Nat) : (strB bs).extract i j = strB ((bs.drop i).take (j - i)) := by
  unfold strB
  apply ByteArray.ext
  simp [ByteArray.data_extract]
theorem strB_tail (bs : List UInt8) (i : Nat) : (strB bs).extract i (strB bs).size = strB (bs.drop i) := by
  rw [strB_extract, strB_size, List.take_of_length_le (by simp)]
theorem strB_append (a b : List UInt8) : strB a ++ strB b = strB (a ++ b) := by
  unfold strB
  apply ByteArray.ext
  simp
theorem strB_get (bs : List UInt8) (i : Nat) (h : i < (strB bs).size) : ((strB bs)[i]'h).toNat = (bs.getD i 0).toNat := by
  have hl : i < bs.length := by rw [← strB_size]; exact h
  have : (strB bs)[i]'h = bs[i]'hl := by
    unfold strB
    exact List.getElem_toArray ..
  rw [this]
  simp [List.getD, hl]
theorem strB_get! (bs : List UInt8) (i : Nat) : (strB bs).get! i = bs.getD i 0 := by
  unfold strB
  show bs.toArray[i]! = _
  by_cases h : i < bs.length
  · simp [h, List.getD]
  · simp [h, List.getD]
    rfl

theorem strB_inj {a b : List UInt8} (h : strB a = strB b) : a = b := by
  have := congrArg (fun s : ByteArray => s.data.toList) h
  simpa [strB] using this

theorem decode_drop (l : List UInt8) (i : Nat) : Utf8.decode (strB l) i = Utf8.decode (strB (l.drop i)) 0 := by
  rw [Lib.decode_at, Lib.decode_at, strB_size, strB_size]
  simp only [strB_get!, List.length_drop, Nat.sub_zero, Nat.zero_add, List.getD, List.getElem?_drop, Nat.add_zero]

theorem rune_wid (r : List UInt8) : Utf8.decode (strB r) 0 = (rune r, wid r) := rfl
theorem dec_at (l : List UInt8) (i : Nat) : Utf8.decode (strB l) i = (rune (l.drop i), wid (l.drop i)) := by rw [decode_drop]; rfl

theorem dec_eq (r : List UInt8) : (rune r, wid r) = Lib.decodeN r.length (r.getD 0 0).toNat (r.getD 1 0).toNat (r.getD 2 0).toNat (r.getD 3 0).toNat := by
  rw [← rune_wid, Lib.decode_at, strB_size]
  simp only [strB_get!, Nat.sub_zero, Nat.zero_add]

set_option maxRecDepth 100000 in
theorem dec_ascii (c : UInt8) (t : List UInt8) (h : c.toNat < 128) : rune (c :: t) = c.toNat ∧ wid (c :: t) = 1 := by
  have := dec_eq (c :: t)
  rw [show (c :: t).getD 0 0 = c from rfl] at this
  unfold Lib.decodeN at this
  rw [if_pos h] at this
  exact Prod.mk.inj this

set_option maxRecDepth 100000 in
theorem dec_high (c : UInt8) (t : List UInt8) (h : 128 ≤ c.toNat) : 128 ≤ rune (c :: t) ∧ 1 ≤ wid (c :: t) ∧ rune (c :: t) ≤ 1114111 := by
  have := dec_eq (c :: t)
  rw [show (c :: t).getD 0 0 = c from rfl] at this
  have h1 : (rune (c :: t)) = (rune (c :: t), wid (c :: t)).1 := rfl
  have h2 : (wid (c :: t)) = (rune (c :: t), wid (c :: t)).2 := rfl
  rw [h1, h2, this]
  unfold Lib.decodeN
  rw [if_neg (by omega)]
  repeat' split
  all_goals (simp only; omega)

theorem wid_pos (r : List UInt8) (h : r ≠ []) : 1 ≤ wid r := by
  match r, h with
  | c :: t, _ =>
    by_cases hc : c.toNat < 128
    · rw [(dec_ascii c t hc).2]; omega
    · exact (dec_high c t (by omega)).2.1

set_option maxRecDepth 100000 in
theorem wid_le (r : List UInt8) (h : r ≠ []) : wid r ≤ r.length := by
  have h1 : 1 ≤ r.length := by cases r with | nil => exact absurd rfl h | cons c t => simp
  have := dec_eq r
  have h2 : (wid r) = (rune r, wid r).2 := rfl
  rw [h2, this]
  unfold Lib.decodeN
  repeat' split
  all_goals (simp only; omega)

set_option maxRecDepth 100000 in
theorem rune_le (r : List UInt8) : rune r ≤ 1114111 := by
  have := dec_eq r
  have h1 : rune r = (rune r, wid r).1 := rfl
  have h0 : (r.getD 0 0).toNat < 256 := (r.getD 0 0).toNat_lt
  rw [h1, this]
  unfold Lib.decodeN
  repeat' split
  all_goals (simp only; omega)

set_option maxRecDepth 100000 in
/-- the bytes of a character that is no sign of seven bits have none. -/
theorem wid_high (c : UInt8) (t : List UInt8) (h : 128 ≤ c.toNat) : ∀ d ∈ (c :: t).take (wid (c :: t)), 128 ≤ d.toNat := by
  have hd := dec_eq (c :: t)
  have h2 : (wid (c :: t)) = (rune (c :: t), wid (c :: t)).2 := rfl
  have two : ∀ x : UInt8, x.toNat / 64 = 2 → 128 ≤ x.toNat := fun x hx => by omega
  have k1 : ∀ d ∈ (c :: t).take 1, 128 ≤ d.toNat := by intro d hd; simp at hd; subst hd; exact h
  have k2 : ((c :: t).getD 1 0).toNat / 64 = 2 → ∀ d ∈ (c :: t).take 2, 128 ≤ d.toNat := by
    intro e1 d hd
    match t, e1, hd with
    | [], _, hd => exact k1 d hd
    | b :: t, e1, hd =>
      rcases List.mem_cons.1 hd with rfl | hd
      · exact h
      · have : d = b := by simpa using hd
        subst this
        exact two _ e1
  have k3 : ((c :: t).getD 1 0).toNat / 64 = 2 → ((c :: t).getD 2 0).toNat / 64 = 2 → ∀ d ∈ (c :: t).take 3, 128 ≤ d.toNat := by
    intro e1 e2 d hd
    match t, e1, e2, hd with
    | [], _, _, hd => exact k1 d hd
    | [b], e1, _, hd => exact k2 e1 d hd
    | b :: b2 :: t, e1, e2, hd =>
      rcases List.mem_cons.1 hd with rfl | hd
      · exact h
      · rcases List.mem_cons.1 hd with rfl | hd
        · exact two _ e1
        · have : d = b2 := by simpa using hd
          subst this
          exact two _ e2
  have k4 : ((c :: t).getD 1 0).toNat / 64 = 2 → ((c :: t).getD 2 0).toNat / 64 = 2 → ((c :: t).getD 3 0).toNat / 64 = 2 → ∀ d ∈ (c :: t).take 4, 128 ≤ d.toNat := by
    intro e1 e2 e3 d hd
    match t, e1, e2, e3, hd with
    | [], _, _, _, hd => exact k1 d hd
    | [b], e1, _, _, hd => exact k2 e1 d hd
    | [b, b2], e1, e2, _, hd => exact k3 e1 e2 d hd
    | b :: b2 :: b3 :: t, e1, e2, e3, hd =>
      rcases List.mem_cons.1 hd with rfl | hd
      · exact h
      · rcases List.mem_cons.1 hd with rfl | hd
        · exact two _ e1
        · rcases List.mem_cons.1 hd with rfl | hd
          · exact two _ e2
          · have : d = b3 := by simpa using hd
            subst this
            exact two _ e3
  rw [h2, hd]
  generalize ((c :: t).getD 0 0).toNat = x0 at *
  generalize ((c :: t).getD 1 0).toNat = x1 at *
  generalize ((c :: t).getD 2 0).toNat = x2 at *
  generalize ((c :: t).getD 3 0).toNat = x3 at *
  generalize (c :: t).length = n at *
  clear hd h2
  unfold Lib.decodeN
  split
  · exact k1
  · split
    · rename_i h1
      split
      · exact k2 h1.2.2
      · exact k1
    · split
      · rename_i h1
        split
        · exact k3 h1.2.1.2 h1.2.2.2
        · exact k1
      · split
        · rename_i h1
          split
          · exact k4 h1.2.1.2 h1.2.2.1.2 h1.2.2.2.2
          · exact k1
        · exact k1

set_option maxRecDepth 100000 in
/-- the sign of what is no character: alone, or as itself. -/
theorem rune_error (r : List UInt8) (h : rune r = 65533) : wid r = 1 ∨ (wid r = 3 ∧ r.take 3 = [239, 191, 189]) := by
  have hd := dec_eq r
  have h1 : rune r = (rune r, wid r).1 := rfl
  have h2 : wid r = (rune r, wid r).2 := rfl
  rw [h2]
  rw [h1] at h
  rw [hd] at h ⊢
  have b0 := (r.getD 0 0).toNat_lt
  have b1 := (r.getD 1 0).toNat_lt
  have b2 := (r.getD 2 0).toNat_lt
  have fin : (r.getD 0 0).toNat = 239 → (r.getD 1 0).toNat = 191 → (r.getD 2 0).toNat = 189 → r.take 3 = [239, 191, 189] := by
    intro e0 e1 e2
    match r with
    | [] => exact absurd (show (0 : Nat) = 239 from e0) (by decide)
    | [a] => exact absurd (show (0 : Nat) = 191 from e1) (by decide)
    | [a, b] => exact absurd (show (0 : Nat) = 189 from e2) (by decide)
    | a :: b :: c :: t =>
      have e0 : a.toNat = 239 := e0
      have e1 : b.toNat = 191 := e1
      have e2 : c.toNat = 189 := e2
      have f0 : a = 239 := UInt8.toNat_inj.1 e0
      have f1 : b = 191 := UInt8.toNat_inj.1 e1
      have f2 : c = 189 := UInt8.toNat_inj.1 e2
      subst f0 f1 f2
      rfl
  generalize (r.getD 0 0).toNat = x0 at *
  generalize (r.getD 1 0).toNat = x1 at *
  generalize (r.getD 2 0).toNat = x2 at *
  generalize (r.getD 3 0).toNat = x3 at *
  generalize r.length = n at *
  clear hd h1 h2
  unfold Lib.decodeN at h ⊢
  by_cases c1 : x0 < 128
  · rw [if_pos c1]; exact .inl rfl
  · rw [if_neg c1] at h ⊢
    by_cases c2 : x0 / 32 = 6 ∧ 1 < n ∧ x1 / 64 = 2
    · rw [if_pos c2] at h ⊢
      by_cases c3 : x0 % 32 * 64 + x1 % 64 ≥ 128
      · rw [if_pos c3] at h; simp only at h; omega
      · rw [if_neg c3]; exact .inl rfl
    · rw [if_neg c2] at h ⊢
      by_cases c4 : x0 / 16 = 14 ∧ (1 < n ∧ x1 / 64 = 2) ∧ 2 < n ∧ x2 / 64 = 2
      · rw [if_pos c4] at h ⊢
        split
        · rename_i c5
          rw [if_pos c5] at h
          simp only at h
          exact .inr ⟨rfl, fin (by omega) (by omega) (by omega)⟩
        · exact .inl rfl
      · rw [if_neg c4] at h ⊢
        split
        · rename_i c6
          rw [if_pos c6] at h
          split
          · rename_i c7
            rw [if_pos c7] at h
            simp only at h
            omega
          · exact .inl rfl
        · exact .inl rfl

end Lx
end Go.Proofs.YtfgbbmnmblchiaaDoor

namespace Go.Proofs.YtfgbbmnmblchiaaDoor
open Go.RowKit
set_option linter.unusedVariables false

theorem ret_bool {a b : Bool} (h : a = b) : Ending.returned (.bool a) = .returned (.bool b) := by rw [h]
theorem ret_i64 {a b : Int} (h : a = b) : Ending.returned (.int .i64 a) = .returned (.int .i64 b) := by rw [h]
theorem ret_str {a b : ByteArray} (h : a = b) : Ending.returned (.string a) = .returned (.string b) := by rw [h]

theorem Chg.iterAt {F : List Nat} {a w : World} (h : Chg F a w) (k : Nat) (hk : a.heap.size ≤ k) (s : ByteArray) (p : Nat) : Chg F a (w.iterAt k s p) :=
  h.trans (G := [k]) ⟨rfl, rfl, rfl, by rw [Lib.iterAt_size]; exact Nat.le_refl _, fun i hi hn => Lib.iterAt_other w k i s p (by simpa using hn)⟩ (by simpa using .inr hk)

theorem Chg.iter {F : List Nat} {a w : World} (h : Chg F a w) (s : ByteArray) (p : Nat) : Chg F a (w.iter s p) := h.alloc _

theorem next_at (w : World) (k : Nat) (l : List UInt8) (pos : Nat) (ty : TypeId) (hk : w.heap[k]? = some (.stringIter (Lx.strB l) pos)) (h : pos < l.length) :
    (Instr.next (.pointer (some ⟨k, 0, none⟩)) true ty).run Tryd.prog w =
      .ok (.tuple #[.bool true, .int .i64 pos, .int .i32 (Lx.rune (l.drop pos))]) (w.iterAt k (Lx.strB l) (pos + Lx.wid (l.drop pos))) := by
  have := Lib.run_next_any_at (P := Tryd.prog) w k (Lx.strB l) pos ty hk (by rw [Lx.strB_size]; exact h)
  rw [Lx.dec_at] at this
  exact this

theorem next_end (w : World) (k : Nat) (l : List UInt8) (pos : Nat) (ty : TypeId) (hk : w.heap[k]? = some (.stringIter (Lx.strB l) pos)) (h : ¬ pos < l.length) :
    (Instr.next (.pointer (some ⟨k, 0, none⟩)) true ty).run Tryd.prog w = .ok (.tuple #[.bool false]) w :=
  Lib.run_next_end_at (P := Tryd.prog) w k (Lx.strB l) pos ty hk (by rw [Lx.strB_size]; exact h)

theorem drop_at (l : List UInt8) (k : Nat) (h : k < l.length) : l.drop k = l.getD k 0 :: l.drop (k + 1) := by
  rw [List.drop_eq_getElem_cons h]
  simp [List.getD, h]

end Go.Proofs.YtfgbbmnmblchiaaDoor

namespace Go.Proofs.YtfgbbmnmblchiaaDoor
open Go.RowKit
set_option linter.unusedVariables false

def firstI (c : Int) : Bool := (decide (97 ≤ c) && decide (c ≤ 122)) || (decide (65 ≤ c) && decide (c ≤ 90)) || c == 95
def laterI (c : Int) : Bool := firstI c || (decide (48 ≤ c) && decide (c ≤ 57))

theorem first_any (c : Int) (w : World) : Calls Tryd.prog 76 #[.int .i32 c] w fun e w' => e = .returned (.bool (firstI c)) ∧ w = w' := by
  by_cases h1 : 97 ≤ c
  all_goals by_cases h2 : c ≤ 122
  all_goals by_cases h3 : 65 ≤ c
  all_goals by_cases h4 : c ≤ 90
  all_goals
    go_enter Tryd.func76, Tryd.ntmps76
    go_wp2
    all_goals
      go_ret
      exact ⟨ret_bool (by simp only [firstI, h1, h2, h3, h4]; simp <;> omega), rfl⟩

theorem later_any (c : Int) (w : World) : Calls Tryd.prog 77 #[.int .i32 c] w fun e w' => e = .returned (.bool (laterI c)) ∧ w = w' := by
  have hl : laterI c = (firstI c || (decide (48 ≤ c) && decide (c ≤ 57))) := rfl
  cases hf : firstI c with
  | true =>
    go_enter Tryd.func77, Tryd.ntmps77
    go_wp2_with fail
    refine (first_any c w).mono ?_
    rw [hf]
    rintro e w' ⟨rfl, rfl⟩
    go_wp2
    go_ret
    exact ⟨ret_bool (by rw [hl, hf]; rfl), rfl⟩
  | false =>
    by_cases h1 : 48 ≤ c
    all_goals by_cases h2 : c ≤ 57
    all_goals
      go_enter Tryd.func77, Tryd.ntmps77
      go_wp2_with fail
      refine (first_any c w).mono ?_
      rw [hf]
      rintro e w' ⟨rfl, rfl⟩
      go_wp2
      all_goals
        go_ret
        exact ⟨ret_bool (by simp [laterI, hf]; omega), rfl⟩

theorem firstI_byte (c : UInt8) : firstI (c.toNat : Int) = Lx.firstB c := by
  unfold firstI Lx.firstB
  congr 1
  · congr 1 <;> congr 1 <;> (rw [decide_eq_decide]; omega)
  · rw [Bool.eq_iff_iff, beq_iff_eq, beq_iff_eq]; omega
theorem laterI_byte (c : UInt8) : laterI (c.toNat : Int) = Lx.laterB c := by
  unfold laterI Lx.laterB
  rw [firstI_byte]
  congr 2 <;> (rw [decide_eq_decide]; omega)
theorem firstI_high (u : Nat) (h : 128 ≤ u) : firstI (u : Int) = false := by
  unfold firstI
  have e1 : decide ((u : Int) ≤ 122) = false := decide_eq_false (by omega)
  have e2 : decide ((u : Int) ≤ 90) = false := decide_eq_false (by omega)
  have e3 : ((u : Int) == 95) = false := by rw [beq_eq_false_iff_ne]; omega
  simp [e1, e2, e3]
theorem laterI_high (u : Nat) (h : 128 ≤ u) : laterI (u : Int) = false := by
  unfold laterI
  rw [firstI_high u h]
  have e1 : decide ((u : Int) ≤ 57) = false := decide_eq_false (by omega)
  simp [e1]
theorem firstB_high (c : UInt8) (h : 128 ≤ c.toNat) : Lx.firstB c = false := by rw [← firstI_byte]; exact firstI_high _ h
theorem laterB_high (c : UInt8) (h : 128 ≤ c.toNat) : Lx.laterB c = false := by rw [← laterI_byte]; exact laterI_high _ h

/-- the first character of what is left, as the names' tests see it. -/
theorem tests_at (l : List UInt8) (pos : Nat) (h : pos < l.length) :
    firstI (Lx.rune (l.drop pos)) = Lx.firstB (l.getD pos 0) ∧ laterI (Lx.rune (l.drop pos)) = Lx.laterB (l.getD pos 0) ∧ (Lx.laterB (l.getD pos 0) = true → Lx.wid (l.drop pos) = 1) := by
  rw [drop_at l pos h]
  by_cases hc : (l.getD pos 0).toNat < 128
  · obtain ⟨h1, h2⟩ := Lx.dec_ascii (l.getD pos 0) (l.drop (pos + 1)) hc
    rw [h1, h2, firstI_byte, laterI_byte]
    exact ⟨rfl, rfl, fun _ => rfl⟩
  · have hc' : 128 ≤ (l.getD pos 0).toNat := by omega
    obtain ⟨h1, h2, _⟩ := Lx.dec_high (l.getD pos 0) (l.drop (pos + 1)) hc'
    rw [firstI_high _ h1, laterI_high _ h1, firstB_high _ hc', laterB_high _ hc']
    exact ⟨rfl, rfl, fun h => by cases h⟩

theorem first_later (c : UInt8) (h : Lx.firstB c = true) : Lx.laterB c = true := by unfold Lx.laterB; rw [h]; rfl

theorem takeWhile_all {p : UInt8 → Bool} {l : List UInt8} {k : Nat} (h : ∀ j, j < k → p (l.getD j 0) = true) (hk : k ≤ l.length) (hs : k = l.length ∨ p (l.getD k 0) = false) : (l.takeWhile p).length = k := by
  induction l generalizing k with
  | nil => simp at hk; subst hk; rfl
  | cons c t ih =>
    cases k with
    | zero =>
      rcases hs with hs | hs
      · simp at hs
      · have : p c = false := hs
        simp [this]
    | succ k =>
      have h0 : p c = true := h 0 (by omega)
      have := ih (k := k) (fun j hj => h (j + 1) (by omega)) (by simpa using hk) (by rcases hs with hs | hs; · left; simpa using hs
                                                                                     · right; exact hs)
      simp [h0, this]
theorem takeWhile_ge {p : UInt8 → Bool} {l : List UInt8} {k : Nat} (h : ∀ j, j < k → p (l.getD j 0) = true) (hk : k ≤ l.length) : k ≤ (l.takeWhile p).length := by
  induction l generalizing k with
  | nil => simp at hk; omega
  | cons c t ih =>
    cases k with
    | zero => omega
    | succ k =>
      have h0 : p c = true := h 0 (by omega)
      have := ih (k := k) (fun j hj => h (j + 1) (by omega)) (by simpa using hk)
      simp [h0]
      omega

theorem nameLen_eq (l : List UInt8) : Lx.nameLen l = if Lx.firstB (l.getD 0 0) = true ∧ l ≠ [] then min 32 (l.takeWhile Lx.laterB).length else 0 := by
  cases l with
  | nil => simp [Lx.nameLen]
  | cons c t =>
    simp only [Lx.nameLen, List.getD, List.getElem?_cons_zero, Option.getD_some]
    by_cases h : Lx.firstB c = true
    · have h2 := first_later c h
      simp [h, h2]
      omega
    · simp [h]

/-- where the reading of a name stands. -/
structure NameAt (l : List UInt8) (pos : Nat) : Prop where
  le : pos ≤ 32
  len : pos ≤ l.length
  hd : 0 < pos → Lx.firstB (l.getD 0 0) = true
  all : ∀ j, j < pos → Lx.laterB (l.getD j 0) = true

theorem NameAt.stop {l : List UInt8} {pos : Nat} (h : NameAt l pos) (hs : pos = l.length ∨ 32 ≤ pos ∨ (pos = 0 ∧ Lx.firstB (l.getD pos 0) = false) ∨ Lx.laterB (l.getD pos 0) = false) : Lx.nameLen l = pos := by
  rw [nameLen_eq]
  have hle := h.le
  have hlen := h.len
  by_cases h0 : pos = 0
  · subst h0
    rcases hs with hs | hs | hs | hs
    · have : l = [] := List.eq_nil_of_length_eq_zero hs.symm
      subst this; simp
    · omega
    · rw [hs.2]; simp
    · rw [if_neg]
      intro hh
      rw [first_later _ hh.1] at hs
      cases hs
  · have hne : l ≠ [] := by intro e; subst e; simp at hlen; omega
    rw [if_pos ⟨h.hd (by omega), hne⟩]
    rcases hs with hs | hs | hs | hs
    · rw [takeWhile_all h.all h.len (.inl hs)]; omega
    · have := takeWhile_ge h.all h.len
      omega
    · omega
    · rw [takeWhile_all h.all h.len (.inr hs)]; omega

theorem NameAt.next {l : List UInt8} {pos : Nat} (h : NameAt l pos) (h1 : pos < 32) (h2 : pos < l.length) (h3 : pos = 0 → Lx.firstB (l.getD pos 0) = true) (h4 : Lx.laterB (l.getD pos 0) = true) : NameAt l (pos + 1) :=
  ⟨by omega, by omega, fun _ => by
    by_cases h0 : pos = 0
    · subst h0; exact h3 rfl
    · exact h.hd (by omega), fun j hj => by
    by_cases hj' : j = pos
    · subst hj'; exact h4
    · exact h.all j (by omega)⟩

set_option maxHeartbeats 2000000 in
theorem name_list (l : List UInt8) (w : World) (hl : l.length ≤ 9223372036854775807) :
    Calls Tryd.prog 65 #[.string (Lx.strB l)] w fun e w' => e = .returned (.int .i64 (Lx.nameLen l)) ∧ Chg [] w w' := by
  have hsz := Lx.strB_size l
  have hit0 := World.iter_heap w (Lx.strB l) 0
  have HC0 := Lib.hid ((Chg.refl [] w).iter (Lx.strB l) 0)
  go_enter Tryd.func65, Tryd.ntmps65
  go_wp2
  go_loopg [3, 4] (l.length + 1) (fun g c3 c4 wr => ∃ pos : Nat, pos + g = l.length + 1 ∧ wr.heap[w.heap.size]? = some (.stringIter (Lx.strB l) pos) ∧ Chg [] w wr ∧ NameAt l pos)
  case atStart => exact ⟨0, by omega, hit0, HC0.out, ⟨by omega, by omega, fun h => by omega, fun j hj => by omega⟩⟩
  case round =>
    obtain ⟨pos, hg, hit, hch, hna⟩ := hrel
    have HC := Lib.hid hch
    clear hch hit0 HC0
    have hlen := hna.len
    cases gk with
    | zero => omega
    | succ g =>
      by_cases hp : pos < l.length
      · have hnx := fun ty => next_at wr w.heap.size l pos ty hit hp
        obtain ⟨t1, t2, t3⟩ := tests_at l pos hp
        have hit2 := Lib.iterAt_heap wr w.heap.size (Lx.strB l) pos (pos + Lx.wid (l.drop pos)) hit
        have HC2 := Lib.hid (HC.out.iterAt w.heap.size (Nat.le_refl _) (Lx.strB l) (pos + Lx.wid (l.drop pos)))
        have T3 := Lib.hid t3
        generalize Lx.rune (l.drop pos) = u at *
        generalize Lx.wid (l.drop pos) = n at *
        generalize wr.iterAt w.heap.size (Lx.strB l) (pos + n) = w2 at *
        clear hit t3
        have F1 := Lib.hid t1
        have F2 := Lib.hid t2
        clear t1 t2
        by_cases h32 : 32 ≤ pos
        · have hd1 : decide ((32 : Int) ≤ (pos : Int)) = true := decide_eq_true (by omega)
          have hr := Lib.hid (hna.stop (.inr (.inl h32)))
          clear hna
          go_wp2
          go_ret
          exact ⟨ret_i64 (by have := hr.out; omega), HC2.out⟩
        · have hd1 : decide ((32 : Int) ≤ (pos : Int)) = false := decide_eq_false (by omega)
          by_cases h0 : pos = 0
          · have hd2 : ((pos : Int) == 0) = true := by rw [beq_iff_eq]; omega
            cases hf : Lx.firstB (l.getD pos 0) with
            | false =>
              have hr := Lib.hid (hna.stop (.inr (.inr (.inl ⟨h0, hf⟩))))
              rw [hf] at F1
              clear hna hf
              go_wp2_with fail
              refine (first_any _ _).mono ?_
              rw [F1.out]
              rintro e w' ⟨rfl, rfl⟩
              go_wp2
              go_ret
              exact ⟨ret_i64 (by have := hr.out; omega), HC2.out⟩
            | true =>
              rw [hf] at F1
              have ht := first_later _ hf
              have HN := Lib.hid (hna.next (by omega) hp (fun _ => hf) ht)
              have hn1 := T3.out ht
              subst hn1
              rw [ht] at F2
              clear hna hf ht T3
              go_wp2_with fail
              refine (first_any _ _).mono ?_
              rw [F1.out]
              rintro e w' ⟨rfl, rfl⟩
              go_wp2_with fail
              refine (later_any _ _).mono ?_
              rw [F2.out]
              rintro e w' ⟨rfl, rfl⟩
              go_wp2
              go_roundg g
              case measure => omega
              case rel => exact ⟨pos + 1, by omega, hit2, HC2.out, HN.out⟩
          · have hd2 : ((pos : Int) == 0) = false := by rw [beq_eq_false_iff_ne]; omega
            cases ht : Lx.laterB (l.getD pos 0) with
            | false =>
              have hr := Lib.hid (hna.stop (.inr (.inr (.inr ht))))
              rw [ht] at F2
              clear hna ht
              go_wp2_with fail
              refine (later_any _ _).mono ?_
              rw [F2.out]
              rintro e w' ⟨rfl, rfl⟩
              go_wp2
              go_ret
              exact ⟨ret_i64 (by have := hr.out; omega), HC2.out⟩
            | true =>
              have HN := Lib.hid (hna.next (by omega) hp (fun h => absurd h h0) ht)
              have hn1 := T3.out ht
              subst hn1
              rw [ht] at F2
              clear hna ht T3
              go_wp2_with fail
              refine (later_any _ _).mono ?_
              rw [F2.out]
              rintro e w' ⟨rfl, rfl⟩
              go_wp2
              go_roundg g
              case measure => omega
              case rel => exact ⟨pos + 1, by omega, hit2, HC2.out, HN.out⟩
      · have hnx := fun ty => next_end wr w.heap.size l pos ty hit hp
        have hr := Lib.hid (hna.stop (.inl (by omega)))
        have he : pos = l.length := by omega
        clear hna hit
        go_wp2
        go_ret
        exact ⟨ret_i64 (by rw [hr.out, he]), HC.out⟩

theorem name_any (s : ByteArray) (w : World) (hl : s.size ≤ 9223372036854775807) :
    Calls Tryd.prog 65 #[.string s] w fun e w' => e = .returned (.int .i64 (Lx.nameLen s.data.toList)) ∧ Chg [] w w' := by
  have := name_list s.data.toList w (by rw [← Lx.strB_size, Lx.strB_self]; exact hl)
  rwa [Lx.strB_self] at this

theorem nameLen_le (l : List UInt8) : Lx.nameLen l ≤ l.length ∧ Lx.nameLen l ≤ 32 := by
  rw [nameLen_eq]
  split
  · have := (List.takeWhile_sublist Lx.laterB (l := l)).length_le
    omega
  · omega

set_option maxHeartbeats 400000 in
theorem Name_any (l : List UInt8) (w : World) (hl : l.length ≤ 9223372036854775807) :
    Calls Tryd.prog 90 #[.string (Lx.strB l)] w fun e w' => e = .returned (.bool (Lx.isName l)) ∧ Chg [] w w' := by
  have hsz := Lx.strB_size l
  by_cases h0 : l = []
  · have hE : (Lx.strB l).toList.isEmpty = true := by rw [Lx.strB_toList, h0]; rfl
    have hr := Lib.hid (show Lx.isName l = false from by unfold Lx.isName; simp [h0])
    clear h0
    go_enter Tryd.func90, Tryd.ntmps90
    go_wp2
    go_ret
    exact ⟨ret_bool hr.out.symm, Chg.refl _ _⟩
  · have hE : (Lx.strB l).toList.isEmpty = false := by rw [Lx.strB_toList]; simpa using h0
    have hr := Lib.hid (show Lx.isName l = decide ((Lx.nameLen l : Int) = (l.length : Int)) from by
      unfold Lx.isName
      simp only [ne_eq, h0, not_false_eq_true, decide_true, Bool.true_and]
      rw [decide_eq_decide]; omega)
    clear h0
    go_enter Tryd.func90, Tryd.ntmps90
    go_wp2_with fail
    refine (name_list l w hl).mono ?_
    rintro e w' ⟨rfl, hc⟩
    have HC := Lib.hid hc
    clear hc
    go_wp2
    go_ret
    exact ⟨ret_bool (by rw [hr.out]; rfl), HC.out⟩

end Go.Proofs.YtfgbbmnmblchiaaDoor

namespace Go.Proofs.YtfgbbmnmblchiaaDoor
open Go.RowKit
set_option linter.unusedVariables false

/-- the signs that have a meaning within a word. -/
def spL : List UInt8 := [32, 9, 10, 59, 38, 124, 60, 62, 40, 41, 39, 34, 92, 36]

theorem spL_asc : ∀ d ∈ spL, d.toNat < 128 := by decide
theorem spec_sp (c : UInt8) : Lx.specB c = spL.contains c := rfl

theorem ib_none : ∀ (l : List UInt8) (c : UInt8), (∀ d ∈ l, d ≠ c) → Lib.indexByte l c = -1
  | [], _, _ => rfl
  | b :: l, c, h => by
    have hb : (b == c) = false := by simpa using h b (by simp)
    have := ib_none l c (fun d hd => h d (by simp [hd]))
    simp [Lib.indexByte, hb, this]

theorem ib_has : ∀ (l : List UInt8) (c : UInt8), decide (0 ≤ Lib.indexByte l c) = l.contains c
  | [], c => by simp [Lib.indexByte]
  | b :: l, c => by
    have ih := ib_has l c
    have hge := Lib.indexByte_ge l c
    unfold Lib.indexByte
    by_cases hb : b = c
    · subst hb; simp
    · have hb' : (b == c) = false := by simpa using hb
      have hcb : (c == b) = false := by simpa using fun e => hb e.symm
      rw [hb', List.contains_cons, hcb, Bool.false_or, ← ih]
      by_cases hm : Lib.indexByte l c = -1
      · simp [hm]
      · simp [hm]
        omega

theorem extract_sub (s : ByteArray) (a b : Nat) : ∀ d ∈ (s.extract a b).data.toList, d ∈ s.data.toList := by
  intro d hd
  rw [Lib.extract_data] at hd
  exact List.mem_of_mem_drop (List.mem_of_mem_take hd)

theorem byte_far (s : ByteArray) (c : Int) (w : World) (h : ∀ d ∈ s.data.toList, d.toNat < 128) (hc : 128 ≤ c ∧ c < 256) :
    Calls Tryd.prog 23 #[.string s, .int .u8 c] w fun e w' => e = .returned (.int .i64 (-1)) ∧ w' = w := by
  refine (Tryd.strings_IndexByte s c w).mono fun e w' hh => ⟨hh.1.trans (ret_i64 (ib_none _ _ fun d hd he => ?_)), hh.2⟩
  have h1 := h d hd
  rw [he] at h1
  have : c.toNat.toUInt8.toNat = c.toNat := by
    simp [UInt8.toNat_ofNat']
    omega
  omega

theorem byte_far_sp (a b z : Nat) (w : World) (h1 : 128 ≤ z) (h2 : z < 256) :
    Calls Tryd.prog 23 #[.string ((⟨#[32, 9, 10, 59, 38, 124, 60, 62, 40, 41, 39, 34, 92, 36]⟩ : ByteArray).extract a b), .int .u8 z] w fun e w' => e = .returned (.int .i64 (-1)) ∧ w' = w :=
  byte_far _ _ w (fun d hd => spL_asc d (extract_sub _ _ _ d hd)) (by omega)

/-- the bytes of a character that is no sign of seven bits: two to four, the last one beyond seven bits. -/
theorem encode_high (u : Nat) (h1 : 128 ≤ u) (h2 : u ≤ 1114111) : ∃ el : List UInt8, Utf8.encode (u : Int) = Lx.strB el ∧ ((el.length = 2 ∧ 128 ≤ (el.getD 1 0).toNat) ∨ (el.length = 3 ∧ 128 ≤ (el.getD 2 0).toNat) ∨ (el.length = 4 ∧ 128 ≤ (el.getD 3 0).toNat)) := by
  have key : ∀ n : Nat, 128 ≤ (UInt8.ofNat (128 + n % 64)).toNat := by
    intro n
    rw [UInt8.toNat_ofNat']
    omega
  unfold Utf8.encode
  by_cases hv : Utf8.valid (u : Int) = true
  · simp only [hv, if_true, Int.toNat_natCast]
    rw [if_neg (by omega)]
    split
    · exact ⟨[_, _], rfl, .inl ⟨rfl, key u⟩⟩
    · split
      · exact ⟨[_, _, _], rfl, .inr (.inl ⟨rfl, key u⟩)⟩
      · exact ⟨[_, _, _, _], rfl, .inr (.inr ⟨rfl, key u⟩)⟩
  · simp only [hv, if_false, Utf8.runeError, Bool.false_eq_true]
    exact ⟨[_, _, _], rfl, .inr (.inl ⟨rfl, key 65533⟩)⟩

set_option maxHeartbeats 4000000 in
set_option maxRecDepth 10000000 in
theorem indexRune_high (u : Nat) (h1 : 128 ≤ u) (h2 : u ≤ 1114111) (w : World) :
    Calls Tryd.prog 64 #[.string ⟨#[32, 9, 10, 59, 38, 124, 60, 62, 40, 41, 39, 34, 92, 36]⟩, .int .i32 u] w fun e w' => e = .returned (.int .i64 (-1)) ∧ Chg [] w w' := by
  have hlow : decide ((u : Int) < 128) = false := decide_eq_false (by omega)
  have hpos : (0 : Int) ≤ (u : Int) := by omega
  have H2 := Lib.hid h2
  clear h2
  by_cases he : u = 65533
  · have he1 : ((u : Int) == 65533) = true := by rw [beq_iff_eq]; omega
    clear he
    have hit0 := World.iter_heap w (Lx.strB spL) 0
    have HC0 := Lib.hid ((Chg.refl [] w).iter (Lx.strB spL) 0)
    go_enter Tryd.func64, Tryd.ntmps64
    go_wp2
    go_loopg [5, 6] 15 (fun g c5 c6 wr => ∃ pos : Nat, pos + g = 15 ∧ wr.heap[w.heap.size]? = some (.stringIter (Lx.strB spL) pos) ∧ Chg [] w wr)
    case atStart => exact ⟨0, by omega, hit0, HC0.out⟩
    case round =>
      obtain ⟨pos, hg, hit, hch⟩ := hrel
      have HC := Lib.hid hch
      clear hch hit0 HC0
      cases gk with
      | zero =>
        have hnx := fun ty => next_end wr w.heap.size spL pos ty hit (by simp [spL]; omega)
        clear hit
        go_wp2
        go_ret
        exact ⟨rfl, HC.out⟩
      | succ g =>
        by_cases hp : pos < spL.length
        · have hnx := fun ty => next_at wr w.heap.size spL pos ty hit hp
          have hasc := spL_asc (spL.getD pos 0) (by simp [List.getD, hp])
          obtain ⟨t1, t2⟩ := Lx.dec_ascii (spL.getD pos 0) (spL.drop (pos + 1)) hasc
          rw [← drop_at spL pos hp] at t1 t2
          have hne : ((Lx.rune (spL.drop pos) : Int) == 65533) = false := by rw [t1, beq_eq_false_iff_ne]; omega
          have hit2 := Lib.iterAt_heap wr w.heap.size (Lx.strB spL) pos (pos + Lx.wid (spL.drop pos)) hit
          have HC2 := Lib.hid (HC.out.iterAt w.heap.size (Nat.le_refl _) (Lx.strB spL) (pos + Lx.wid (spL.drop pos)))
          rw [t2] at hit2 hnx HC2
          generalize Lx.rune (spL.drop pos) = x at *
          generalize wr.iterAt w.heap.size (Lx.strB spL) (pos + 1) = w2 at *
          clear hit t1 t2 hasc
          go_wp2
          go_roundg g
          case measure => omega
          case rel => exact ⟨pos + 1, by omega, hit2, HC2.out⟩
        · have hnx := fun ty => next_end wr w.heap.size spL pos ty hit hp
          clear hit
          go_wp2
          go_ret
          exact ⟨rfl, HC.out⟩
  · have he1 : ((u : Int) == 65533) = false := by rw [beq_eq_false_iff_ne]; omega
    clear he
    cases hv : Lib.validRune (u : Int) with
    | false =>
      go_enter Tryd.func64, Tryd.ntmps64
      go_wp2_with fail
      refine (Tryd.utf8_ValidRune _ _).mono ?_
      rw [hv]
      rintro e w' ⟨rfl, rfl⟩
      go_wp2
      go_ret
      exact ⟨rfl, Chg.refl _ _⟩
    | true =>
      obtain ⟨el, hel, hcs⟩ := encode_high u h1 H2.out
      have hz := Lx.strB_size el
      have hg := fun i h => Lx.strB_get el i h
      obtain ⟨k, x, hn, hb, hkx⟩ : ∃ k x : Nat, el.length = k + 1 ∧ 128 ≤ (el.getD k 0).toNat ∧ ((k = 1 ∧ x = 9) ∨ (k = 2 ∧ x = 10) ∨ (k = 3 ∧ x = 59)) := by
        rcases hcs with ⟨hn, hb⟩ | ⟨hn, hb⟩ | ⟨hn, hb⟩
        · exact ⟨1, 9, hn, hb, .inl ⟨rfl, rfl⟩⟩
        · exact ⟨2, 10, hn, hb, .inr (.inl ⟨rfl, rfl⟩)⟩
        · exact ⟨3, 59, hn, hb, .inr (.inr ⟨rfl, rfl⟩)⟩
      have hb256 := (el.getD k 0).toNat_lt
      have hne : ((x : Int) == ((el.getD k 0).toNat : Int)) = false := by rw [beq_eq_false_iff_ne]; omega
      have hne2 : ((x : Int) != ((el.getD k 0).toNat : Int)) = true := by rw [bne_iff_ne]; omega
      obtain ⟨z, hzz⟩ : ∃ z : Nat, (el.getD k 0).toNat = z := ⟨_, rfl⟩
      have hgk : ∀ h, ((Lx.strB el)[k]'h).toNat = z := fun h => (hg k h).trans hzz
      rw [hzz] at hb hb256 hne hne2
      clear hg hcs hzz
      rcases hkx with ⟨rfl, rfl⟩ | ⟨rfl, rfl⟩ | ⟨rfl, rfl⟩
      · simp only [Nat.reduceAdd] at hn
        have hwk : IntKind.i64.wrap 2 = 2 := by decide
        have hsx : ∀ h, ((⟨#[32, 9, 10, 59, 38, 124, 60, 62, 40, 41, 39, 34, 92, 36]⟩ : ByteArray)[1]'h).toNat = 9 := fun _ => rfl
        have g1 : ((9 : Int) == (z : Int)) = false := hne
        have g2 : ((9 : Int) != (z : Int)) = true := hne2
        clear hne hne2
        go_enter Tryd.func64, Tryd.ntmps64
        go_wp2_with fail
        refine (Tryd.utf8_ValidRune _ _).mono ?_
        rw [hv]
        rintro e w' ⟨rfl, rfl⟩
        go_wp2_with fail
        clear he1 hlow hpos hv h1 H2
        go_step3
        go_wp2_with fail
        go_loopg [9] 1 (fun g c9 wr => c9 = .int .i64 1 ∧ wr = w')
        case atStart => exact ⟨rfl, rfl⟩
        case round =>
          obtain ⟨rfl, rfl⟩ := hrel
          go_wp2_with fail
          go_step3
          go_wp2_with fail
          go_quiet (fail)
          all_goals
            have HCQ := Lib.hid ((Chg.refl [] wr).drewN nq)
            generalize wr.drewN nq = w9 at *
            go_wp2_with fail
            go_quiet ((go_at_call 23; exact Calls.quiet_of_same (byte_far_sp _ _ z _ hb hb256)))
            all_goals
              go_wp2
              simp only [Exit.noGoto_ret, Exit.inBlock, Exit.then]
              go_ret
              exact ⟨rfl, HCQ.out.drewN _⟩
      · simp only [Nat.reduceAdd] at hn
        have hwk : IntKind.i64.wrap 3 = 3 := by decide
        have hsx : ∀ h, ((⟨#[32, 9, 10, 59, 38, 124, 60, 62, 40, 41, 39, 34, 92, 36]⟩ : ByteArray)[2]'h).toNat = 10 := fun _ => rfl
        have g1 : ((10 : Int) == (z : Int)) = false := hne
        have g2 : ((10 : Int) != (z : Int)) = true := hne2
        clear hne hne2
        go_enter Tryd.func64, Tryd.ntmps64
        go_wp2_with fail
        refine (Tryd.utf8_ValidRune _ _).mono ?_
        rw [hv]
        rintro e w' ⟨rfl, rfl⟩
        go_wp2_with fail
        clear he1 hlow hpos hv h1 H2
        go_step3
        go_wp2_with fail
        go_loopg [9] 1 (fun g c9 wr => c9 = .int .i64 2 ∧ wr = w')
        case atStart => exact ⟨rfl, rfl⟩
        case round =>
          obtain ⟨rfl, rfl⟩ := hrel
          go_wp2_with fail
          go_step3
          go_wp2_with fail
          go_quiet (fail)
          all_goals
            have HCQ := Lib.hid ((Chg.refl [] wr).drewN nq)
            generalize wr.drewN nq = w9 at *
            go_wp2_with fail
            go_quiet ((go_at_call 23; exact Calls.quiet_of_same (byte_far_sp _ _ z _ hb hb256)))
            all_goals
              go_wp2
              simp only [Exit.noGoto_ret, Exit.inBlock, Exit.then]
              go_ret
              exact ⟨rfl, HCQ.out.drewN _⟩
      · simp only [Nat.reduceAdd] at hn
        have hwk : IntKind.i64.wrap 4 = 4 := by decide
        have hsx : ∀ h, ((⟨#[32, 9, 10, 59, 38, 124, 60, 62, 40, 41, 39, 34, 92, 36]⟩ : ByteArray)[3]'h).toNat = 59 := fun _ => rfl
        have g1 : ((59 : Int) == (z : Int)) = false := hne
        have g2 : ((59 : Int) != (z : Int)) = true := hne2
        clear hne hne2
        go_enter Tryd.func64, Tryd.ntmps64
        go_wp2_with fail
        refine (Tryd.utf8_ValidRune _ _).mono ?_
        rw [hv]
        rintro e w' ⟨rfl, rfl⟩
        go_wp2_with fail
        clear he1 hlow hpos hv h1 H2
        go_step3
        go_wp2_with fail
        go_loopg [9] 1 (fun g c9 wr => c9 = .int .i64 3 ∧ wr = w')
        case atStart => exact ⟨rfl, rfl⟩
        case round =>
          obtain ⟨rfl, rfl⟩ := hrel
          go_wp2_with fail
          go_step3
          go_wp2_with fail
          go_quiet (fail)
          all_goals
            have HCQ := Lib.hid ((Chg.refl [] wr).drewN nq)
            generalize wr.drewN nq = w9 at *
            go_wp2_with fail
            go_quiet ((go_at_call 23; exact Calls.quiet_of_same (byte_far_sp _ _ z _ hb hb256)))
            all_goals
              go_wp2
              simp only [Exit.noGoto_ret, Exit.inBlock, Exit.then]
              go_ret
              exact ⟨rfl, HCQ.out.drewN _⟩

end Go.Proofs.YtfgbbmnmblchiaaDoor

namespace Go.Proofs.YtfgbbmnmblchiaaDoor
open Go.RowKit
set_option linter.unusedVariables false

theorem contains_any (u : Nat) (c : UInt8) (h2 : u ≤ 1114111) (hc : (u = c.toNat ∧ c.toNat < 128) ∨ (128 ≤ u ∧ 128 ≤ c.toNat)) (w : World) :
    Calls Tryd.prog 57 #[.string ⟨#[32, 9, 10, 59, 38, 124, 60, 62, 40, 41, 39, 34, 92, 36]⟩, .int .i32 u] w fun e w' => e = .returned (.bool (Lx.specB c)) ∧ Chg [] w w' := by
  rcases hc with ⟨rfl, hc⟩ | ⟨hu, hc⟩
  · refine (Tryd.strings_ContainsRune_ascii _ _ w (by omega) (by omega)).mono fun e w' hh => ⟨hh.1.trans (ret_bool ?_), by rw [hh.2]; exact Chg.refl _ _⟩
    rw [spec_sp, ← ib_has]
    have e1 : ((c.toNat : Int).toNat).toUInt8 = c := by simp
    rw [e1]
    rfl
  · have hr := Lib.hid (show Lx.specB c = false from by
      rw [spec_sp]
      cases hm : spL.contains c with
      | false => rfl
      | true =>
        have := spL_asc c (by simpa using hm)
        omega)
    go_enter Tryd.func57, Tryd.ntmps57
    have H2 := Lib.hid h2
    clear h2
    go_wp2_with fail
    refine (indexRune_high u hu H2.out w).mono ?_
    rintro e w' ⟨rfl, h⟩
    have H := Lib.hid h
    clear h
    go_wp2
    go_ret
    exact ⟨ret_bool hr.out.symm, H.out⟩

def plainLen (l : List UInt8) : Nat := (l.takeWhile fun c => !Lx.specB c).length

/-- the character at a place, as the tests for signs see it. -/
theorem spec_at (l : List UInt8) (pos : Nat) (h : pos < l.length) :
    Lx.rune (l.drop pos) ≤ 1114111 ∧ ((Lx.rune (l.drop pos) = (l.getD pos 0).toNat ∧ (l.getD pos 0).toNat < 128) ∨ (128 ≤ Lx.rune (l.drop pos) ∧ 128 ≤ (l.getD pos 0).toNat)) ∧
      1 ≤ Lx.wid (l.drop pos) ∧ pos + Lx.wid (l.drop pos) ≤ l.length ∧ (Lx.specB (l.getD pos 0) = false → ∀ j, j < Lx.wid (l.drop pos) → Lx.specB (l.getD (pos + j) 0) = false) := by
  have hne : l.drop pos ≠ [] := by intro e; have := congrArg List.length e; simp at this; omega
  have hle := Lx.wid_le _ hne
  rw [List.length_drop] at hle
  refine ⟨Lx.rune_le _, ?_, Lx.wid_pos _ hne, by omega, ?_⟩
  · rw [drop_at l pos h]
    by_cases hc : (l.getD pos 0).toNat < 128
    · exact .inl ⟨(Lx.dec_ascii _ _ hc).1, hc⟩
    · exact .inr ⟨(Lx.dec_high _ _ (by omega)).1, by omega⟩
  · intro hs j hj
    by_cases hc : (l.getD pos 0).toNat < 128
    · rw [drop_at l pos h, (Lx.dec_ascii _ _ hc).2] at hj
      have : j = 0 := by omega
      subst this
      exact hs
    · have hw := Lx.wid_high (l.getD pos 0) (l.drop (pos + 1)) (by omega)
      rw [← drop_at l pos h] at hw
      have hd : l.getD (pos + j) 0 ∈ (l.drop pos).take (Lx.wid (l.drop pos)) := by
        have hlt : pos + j < l.length := by omega
        refine List.mem_iff_getElem?.2 ⟨j, ?_⟩
        rw [List.getElem?_take, if_pos hj, List.getElem?_drop]
        simp [List.getD, hlt]
      have h128 := hw _ hd
      rw [spec_sp]
      cases hm : spL.contains (l.getD (pos + j) 0) with
      | false => rfl
      | true =>
        have := spL_asc (l.getD (pos + j) 0) (by simpa using hm)
        omega

set_option maxHeartbeats 1000000 in
theorem plain_list (l : List UInt8) (w : World) (hl : l.length ≤ 9223372036854775807) :
    Calls Tryd.prog 40 #[.string (Lx.strB l)] w fun e w' => e = .returned (.int .i64 (plainLen l)) ∧ Chg [] w w' := by
  have hsz := Lx.strB_size l
  have hit0 := World.iter_heap w (Lx.strB l) 0
  have HC0 := Lib.hid ((Chg.refl [] w).iter (Lx.strB l) 0)
  go_enter Tryd.func40, Tryd.ntmps40
  go_wp2
  go_loopg [3, 4] (l.length + 1) (fun g c3 c4 wr => ∃ pos : Nat, l.length < pos + g ∧ pos ≤ l.length ∧ wr.heap[w.heap.size]? = some (.stringIter (Lx.strB l) pos) ∧ Chg [] w wr ∧ Hid (∀ j, j < pos → (!Lx.specB (l.getD j 0)) = true))
  case atStart => exact ⟨0, by omega, by omega, hit0, HC0.out, Lib.hid (fun j hj => by omega)⟩
  case round =>
    obtain ⟨pos, hg, hle, hit, hch, hall⟩ := hrel
    have HC := Lib.hid hch
    clear hch hit0 HC0
    cases gk with
    | zero => omega
    | succ g =>
      by_cases hp : pos < l.length
      · have hnx := fun ty => next_at wr w.heap.size l pos ty hit hp
        obtain ⟨t1, t2, t3, t4, t5⟩ := spec_at l pos hp
        have hit2 := Lib.iterAt_heap wr w.heap.size (Lx.strB l) pos (pos + Lx.wid (l.drop pos)) hit
        have HC2 := Lib.hid (HC.out.iterAt w.heap.size (Nat.le_refl _) (Lx.strB l) (pos + Lx.wid (l.drop pos)))
        generalize Lx.rune (l.drop pos) = u at *
        generalize Lx.wid (l.drop pos) = n at *
        generalize wr.iterAt w.heap.size (Lx.strB l) (pos + n) = w2 at *
        have T1 := Lib.hid t1
        have T2 := Lib.hid t2
        have T5 := Lib.hid t5
        clear hit t1 t2 t5
        cases hs : Lx.specB (l.getD pos 0) with
        | true =>
          have hr := Lib.hid (show plainLen l = pos from takeWhile_all hall.out hle (.inr (by rw [hs]; rfl)))
          have HS := Lib.hid hs
          clear hs
          go_wp2_with fail
          refine (contains_any u (l.getD pos 0) T1.out T2.out _).mono ?_
          rw [HS.out]
          rintro e w3 ⟨rfl, h3⟩
          have H3 := Lib.hid h3
          clear h3
          go_wp2
          go_ret
          exact ⟨ret_i64 (by rw [hr.out]), HC2.out.then0 H3.out⟩
        | false =>
          have HN := Lib.hid (show ∀ j, j < pos + n → (!Lx.specB (l.getD j 0)) = true from fun j hj => by
            by_cases hj' : j < pos
            · exact hall.out j hj'
            · have := T5.out hs (j - pos) (by omega)
              rw [show pos + (j - pos) = j from by omega] at this
              rw [this]; rfl)
          have HS := Lib.hid hs
          clear hs
          go_wp2_with fail
          refine (contains_any u (l.getD pos 0) T1.out T2.out _).mono ?_
          rw [HS.out]
          rintro e w3 ⟨rfl, h3⟩
          have H3 := Lib.hid h3
          have hit3 := h3.obj hit2 (by simp)
          clear h3
          go_wp2
          go_roundg g
          case measure => omega
          case rel => exact ⟨pos + n, by omega, by omega, hit3, HC2.out.then0 H3.out, HN⟩
      · have hnx := fun ty => next_end wr w.heap.size l pos ty hit hp
        have he : pos = l.length := by omega
        have hr := Lib.hid (show plainLen l = l.length from takeWhile_all (by rw [← he]; exact hall.out) (Nat.le_refl _) (.inl rfl))
        clear hit
        go_wp2
        go_ret
        exact ⟨ret_i64 (by rw [hr.out]), HC.out⟩

theorem plain_any (s : ByteArray) (w : World) (hl : s.size ≤ 9223372036854775807) :
    Calls Tryd.prog 40 #[.string s] w fun e w' => e = .returned (.int .i64 (plainLen s.data.toList)) ∧ Chg [] w w' := by
  have := plain_list s.data.toList w (by rw [← Lx.strB_size, Lx.strB_self]; exact hl)
  rwa [Lx.strB_self] at this

/-- the library's two tables. -/
abbrev U8 (w : World) : Prop := Lib.Utf8Tabs 0 1 w

theorem decode_any (l : List UInt8) (hl : l ≠ []) (w : World) (hT : Hid (U8 w)) :
    Calls Tryd.prog 37 #[.string (Lx.strB l)] w fun e w' => e = .returned (.tuple #[.int .i32 (Lx.rune l), .int .i64 (Lx.wid l)]) ∧ Chg [] w w' := by
  have h := Tryd.utf8_DecodeRuneInString (Lx.strB l) w hT.out
  have e : Lib.decodeGo (Lx.strB l) = (Lx.rune l, Lx.wid l) := by
    unfold Lib.decodeGo
    rw [if_neg (by rw [Lx.strB_size]; intro e; exact hl (List.eq_nil_of_length_eq_zero e))]
    rfl
  rw [e] at h
  exact h.mono fun e w' hh => ⟨hh.1, Chg.ofBelow hh.2⟩

end Go.Proofs.YtfgbbmnmblchiaaDoor

namespace Go.Proofs.YtfgbbmnmblchiaaDoor
open Go.RowKit
set_option linter.unusedVariables false

def placeI : Option Nat → Int
  | some i => (i : Int)
  | none => -1

theorem wrong_low (u n : Nat) : Lx.wrongB u n = ((decide (u < 32) && !(u == 10) && !(u == 9)) || u == 127 || (u == 65533 && n == 1)) := rfl

set_option maxHeartbeats 2000000 in
theorem bad_any (l : List UInt8) (w : World) (hl : l.length ≤ 9223372036854775807) (hT : Hid (U8 w)) :
    Calls Tryd.prog 21 #[.string (Lx.strB l)] w fun e w' => e = .returned (.int .i64 (placeI (Lx.badP (l.length + 1) l 0))) ∧ Chg [] w w' := by
  have hsz := Lx.strB_size l
  have hit0 := World.iter_heap w (Lx.strB l) 0
  have HC0 := Lib.hid ((Chg.refl [] w).iter (Lx.strB l) 0)
  obtain ⟨R, hR⟩ : ∃ R, Lx.badP (l.length + 1) l 0 = R := ⟨_, rfl⟩
  have HR := Lib.hid hR
  rw [hR]
  clear hR
  go_enter Tryd.func21, Tryd.ntmps21
  go_wp2
  go_loopg [3, 4, 5, 6] (l.length + 1) (fun g c3 c4 c5 c6 wr => ∃ pos : Nat, l.length < pos + g ∧ pos ≤ l.length ∧ wr.heap[w.heap.size]? = some (.stringIter (Lx.strB l) pos) ∧ Chg [] w wr ∧ Hid (R = Lx.badP g (l.drop pos) pos))
  case atStart => exact ⟨0, by omega, by omega, hit0, HC0.out, Lib.hid HR.out.symm⟩
  case round =>
    obtain ⟨pos, hg, hle, hit, hch, hr⟩ := hrel
    have HC := Lib.hid hch
    clear hch hit0 HC0 HR
    cases gk with
    | zero => omega
    | succ g =>
      by_cases hp : pos < l.length
      · have hnx := fun ty => next_at wr w.heap.size l pos ty hit hp
        obtain ⟨t1, t2, t3, t4, t5⟩ := spec_at l pos hp
        have hne : l.drop pos ≠ [] := by intro e; have := congrArg List.length e; simp at this; omega
        have hit2 := Lib.iterAt_heap wr w.heap.size (Lx.strB l) pos (pos + Lx.wid (l.drop pos)) hit
        have HC2 := Lib.hid (HC.out.iterAt w.heap.size (Nat.le_refl _) (Lx.strB l) (pos + Lx.wid (l.drop pos)))
        have hstep := Lib.hid (show Lx.badP (g + 1) (l.drop pos) pos = if Lx.wrongB (Lx.rune (l.drop pos)) (Lx.wid (l.drop pos)) = true then some pos else Lx.badP g (l.drop (pos + Lx.wid (l.drop pos))) (pos + Lx.wid (l.drop pos)) from by
          conv => lhs; unfold Lx.badP
          rw [if_neg hne, List.drop_drop])
        have HDE := fun (W : World) (h : Hid (U8 W)) => Lib.hid (decode_any (l.drop pos) hne W h)
        have HEX := Lib.hid (show (Lx.strB l).extract pos l.length = Lx.strB (l.drop pos) from by rw [← Lx.strB_tail, hsz])
        generalize Lx.rune (l.drop pos) = u at *
        generalize Lx.wid (l.drop pos) = n at *
        generalize wr.iterAt w.heap.size (Lx.strB l) (pos + n) = w2 at *
        have T4 := Lib.hid t4
        clear hit t1 t2 t5 hne
        have u0 : (0 : Int) ≤ (u : Int) := by omega
        have p0 : (0 : Int) ≤ (pos : Int) := by omega
        have p1 : (pos : Int) ≤ (l.length : Int) := by omega
        by_cases h1 : (u < 32 ∧ u ≠ 10 ∧ u ≠ 9) ∨ u = 127
        · have hb := Lib.hid (show R = some pos from by
            rw [hr.out, hstep.out, if_pos]
            rw [wrong_low]
            rcases h1 with ⟨a, b, c⟩ | a
            · simp [a, b, c]
            · simp [a])
          clear hstep hr HDE HEX
          rcases h1 with ⟨a, b, c⟩ | a
          · have d1 : decide ((u : Int) < 32) = true := decide_eq_true (by omega)
            have d2 : ((u : Int) == 10) = false := by rw [beq_eq_false_iff_ne]; omega
            have d3 : ((u : Int) == 9) = false := by rw [beq_eq_false_iff_ne]; omega
            have d4 : ((u : Int) != 10) = true := by rw [bne_iff_ne]; omega
            have d5 : ((u : Int) != 9) = true := by rw [bne_iff_ne]; omega
            go_wp2
            go_ret
            exact ⟨ret_i64 (by rw [hb.out]; rfl), HC2.out⟩
          · have d1 : decide ((u : Int) < 32) = false := decide_eq_false (by omega)
            have d2 : ((u : Int) == 127) = true := by rw [beq_iff_eq]; omega
            clear a
            go_wp2
            go_ret
            exact ⟨ret_i64 (by rw [hb.out]; rfl), HC2.out⟩
        · have h127 : ((u : Int) == 127) = false := by rw [beq_eq_false_iff_ne]; omega
          by_cases he : u = 65533
          · have d1 : decide ((u : Int) < 32) = false := decide_eq_false (by omega)
            have d2 : ((u : Int) == 65533) = true := by rw [beq_iff_eq]; omega
            have HE := Lib.hid he
            have hT2 : Hid (U8 w2) := Lib.hid ⟨fun c hc => HC2.out.cell (hT.out.1 c hc) (by simp), fun i hi => ⟨HC2.out.cell (hT.out.2 i hi).1 (by simp), HC2.out.cell (hT.out.2 i hi).2 (by simp)⟩⟩
            clear he h1
            go_wp2_with fail
            rw [HEX.out]
            refine ((HDE w2 hT2).out).mono ?_
            rintro e w3 ⟨rfl, h3⟩
            have H3 := Lib.hid h3
            have hit3 := h3.obj hit2 (by simp)
            clear h3
            by_cases hn : n = 1
            · have hb := Lib.hid (show R = some pos from by
                rw [hr.out, hstep.out, if_pos]
                rw [wrong_low, HE.out]
                simp [hn])
              have d3 : ((n : Int) == 1) = true := by rw [beq_iff_eq]; omega
              clear hn hstep hr HDE HEX
              go_wp2
              go_ret
              exact ⟨ret_i64 (by rw [hb.out]; rfl), HC2.out.then0 H3.out⟩
            · have hb := Lib.hid (show R = Lx.badP g (l.drop (pos + n)) (pos + n) from by
                rw [hr.out, hstep.out, if_neg]
                rw [wrong_low, HE.out]
                simp [hn])
              have d3 : ((n : Int) == 1) = false := by rw [beq_eq_false_iff_ne]; omega
              clear hn hstep hr HDE HEX
              go_wp2
              go_roundg g
              case measure => omega
              case rel => exact ⟨pos + n, by omega, T4.out, hit3, HC2.out.then0 H3.out, hb⟩
          · have d2 : ((u : Int) == 65533) = false := by rw [beq_eq_false_iff_ne]; omega
            have hb := Lib.hid (show R = Lx.badP g (l.drop (pos + n)) (pos + n) from by
              rw [hr.out, hstep.out, if_neg]
              rw [wrong_low]
              simp only [Bool.or_eq_true, Bool.and_eq_true, decide_eq_true_eq, Bool.not_eq_true', beq_eq_false_iff_ne, beq_iff_eq]
              omega)
            clear hstep hr HDE HEX he
            by_cases h32 : u < 32
            · have hcs : u = 10 ∨ u = 9 := by omega
              have d1 : decide ((u : Int) < 32) = true := decide_eq_true (by omega)
              clear h1
              rcases hcs with rfl | rfl
              all_goals
                go_wp2
                go_roundg g
                case measure => omega
                case rel => exact ⟨pos + n, by omega, T4.out, hit2, HC2.out, hb⟩
            · have d1 : decide ((u : Int) < 32) = false := decide_eq_false (by omega)
              clear h1
              go_wp2
              go_roundg g
              case measure => omega
              case rel => exact ⟨pos + n, by omega, T4.out, hit2, HC2.out, hb⟩
      · have hnx := fun ty => next_end wr w.heap.size l pos ty hit hp
        have hb := Lib.hid (show R = none from by
          rw [hr.out]
          unfold Lx.badP
          rw [if_pos (List.drop_of_length_le (by omega))])
        clear hit hr
        go_wp2
        go_ret
        exact ⟨ret_i64 (by rw [hb.out]; rfl), HC.out⟩

end Go.Proofs.YtfgbbmnmblchiaaDoor

namespace Go.Proofs.YtfgbbmnmblchiaaDoor
open Go.RowKit
set_option linter.unusedVariables false

theorem sign_cells {b : Nat} (w : World) (f : Nat × Nat) (h : w.heap[b]? = some (.cells #[.string ⟨#[38, 38]⟩, .string ⟨#[124, 124]⟩, .string ⟨#[62, 62]⟩, .string ⟨#[124]⟩, .string ⟨#[60]⟩, .string ⟨#[62]⟩, .string ⟨#[40]⟩, .string ⟨#[41]⟩] 9 f)) (k : Nat) (hk : k < 8) :
    w.cell? ⟨b, k, none⟩ = some (.string (Lx.strB (Lx.signs.getD k []))) := by
  refine cell_of_obj h ?_
  match k, hk with
  | 0, _ => rfl
  | 1, _ => rfl
  | 2, _ => rfl
  | 3, _ => rfl
  | 4, _ => rfl
  | 5, _ => rfl
  | 6, _ => rfl
  | 7, _ => rfl

theorem sign_found (r : List UInt8) : ∀ (l : List (List UInt8)) (k : Nat), k < l.length → (∀ j, j < k → (l.getD j []).isPrefixOf r = false) → (l.getD k []).isPrefixOf r = true → (l.find? fun x => x.isPrefixOf r) = some (l.getD k [])
  | [], k, hk, _, _ => by simp at hk
  | x :: t, 0, _, _, h => by
    have h : x.isPrefixOf r = true := h
    simp [h]
  | x :: t, k + 1, hk, ha, h => by
    have h0 : x.isPrefixOf r = false := ha 0 (by omega)
    have := sign_found r t k (by simpa using hk) (fun j hj => ha (j + 1) (by omega)) h
    rw [List.find?_cons, h0]
    exact this
theorem sign_none (r : List UInt8) : ∀ (l : List (List UInt8)), (∀ j, j < l.length → (l.getD j []).isPrefixOf r = false) → (l.find? fun x => x.isPrefixOf r) = none
  | [], _ => rfl
  | x :: t, ha => by
    have h0 : x.isPrefixOf r = false := ha 0 (by simp)
    have := sign_none r t (fun j hj => ha (j + 1) (by simpa using hj))
    rw [List.find?_cons, h0]
    exact this

set_option maxHeartbeats 1000000 in
theorem sign_any (s : ByteArray) (w : World) :
    Calls Tryd.prog 22 #[.string s] w fun e w' => e = .returned (.string (Lx.strB (Lx.signOf s.data.toList))) ∧ Chg [] w w' := by
  obtain ⟨r, hr⟩ : ∃ r, s.data.toList = r := ⟨_, rfl⟩
  have HS := Lib.hid hr
  rw [hr]
  clear hr
  go_enter Tryd.func22, Tryd.ntmps22
  go_wp2_with fail
  have HC := Lib.hid ((Chg.refl [] w).alloc (.cells #[.string ⟨#[38, 38]⟩, .string ⟨#[124, 124]⟩, .string ⟨#[62, 62]⟩, .string ⟨#[124]⟩, .string ⟨#[60]⟩, .string ⟨#[62]⟩, .string ⟨#[40]⟩, .string ⟨#[41]⟩] 9))
  have hcell := Lib.hid (sign_cells (b := w.heap.size) _ _ (obj_alloc_new w (.cells #[.string ⟨#[38, 38]⟩, .string ⟨#[124, 124]⟩, .string ⟨#[62, 62]⟩, .string ⟨#[124]⟩, .string ⟨#[60]⟩, .string ⟨#[62]⟩, .string ⟨#[40]⟩, .string ⟨#[41]⟩] 9)))
  generalize w.alloc (.cells #[.string ⟨#[38, 38]⟩, .string ⟨#[124, 124]⟩, .string ⟨#[62, 62]⟩, .string ⟨#[124]⟩, .string ⟨#[60]⟩, .string ⟨#[62]⟩, .string ⟨#[40]⟩, .string ⟨#[41]⟩] 9) = w1 at *
  go_loopg [4, 7] 8 (fun g c4 c7 wr => ∃ k : Nat, k + g = 8 ∧ c7 = .int .i64 k ∧ wr = w1 ∧ Hid (∀ j, j < k → (Lx.signs.getD j []).isPrefixOf r = false))
  case atStart => exact ⟨0, by omega, rfl, rfl, Lib.hid (fun j hj => by omega)⟩
  case round =>
    obtain ⟨k, hk, rfl, rfl, ha⟩ := hrel
    cases gk with
    | zero =>
      obtain rfl : k = 8 := by omega
      have hn := Lib.hid (sign_none r Lx.signs (fun j hj => ha.out j hj))
      go_wp2
      go_ret
      exact ⟨ret_str (by unfold Lx.signOf; rw [hn.out]; rfl), HC.out⟩
    | succ g =>
      have hk8 : k < 8 := by omega
      have hki : (k : Int) < 8 := by omega
      have hk0 : (0 : Int) ≤ (k : Int) := by omega
      have hc := hcell.out k hk8
      cases hp : (Lx.signs.getD k []).isPrefixOf r with
      | true =>
        have hn := Lib.hid (sign_found r Lx.signs k hk8 ha.out hp)
        have HP := Lib.hid hp
        clear hp
        generalize Lx.signs.getD k [] = x at *
        go_wp2_with fail
        refine (Tryd.strings_HasPrefix _ _ _).mono ?_
        rw [show Lib.hasPrefix s.data.toList (Lx.strB x).data.toList = true from by rw [HS.out, Lx.strB_data]; exact HP.out]
        rintro e w' ⟨rfl, rfl⟩
        go_wp2
        go_ret
        exact ⟨ret_str (by unfold Lx.signOf; rw [hn.out]; rfl), HC.out⟩
      | false =>
        have ha2 := Lib.hid (show ∀ j, j < k + 1 → (Lx.signs.getD j []).isPrefixOf r = false from fun j hj => by
          by_cases hj' : j = k
          · subst hj'; exact hp
          · exact ha.out j (by omega))
        have HP := Lib.hid hp
        clear hp
        generalize Lx.signs.getD k [] = x at hc HP
        go_wp2_with fail
        refine (Tryd.strings_HasPrefix _ _ _).mono ?_
        rw [show Lib.hasPrefix s.data.toList (Lx.strB x).data.toList = false from by rw [HS.out, Lx.strB_data]; exact HP.out]
        rintro e w' ⟨rfl, rfl⟩
        go_wp2
        go_roundg g
        case measure => omega
        case rel => exact ⟨k + 1, by omega, by go_num, rfl, ha2⟩

end Go.Proofs.YtfgbbmnmblchiaaDoor

namespace Go.Proofs.YtfgbbmnmblchiaaDoor
open Go.RowKit
set_option linter.unusedVariables false

def partCells (p : Lx.Part) : List Value := [.int .i64 p.kind, .string (Lx.strB p.text)]
def pcells (l : List Lx.Part) : List Value := l.flatMap partCells

theorem pcells_len (l : List Lx.Part) : (pcells l).length = l.length * 2 := by
  induction l with
  | nil => rfl
  | cons e r ih => simp [pcells, partCells] at ih ⊢; omega
theorem pcells_append (a b : List Lx.Part) : pcells (a ++ b) = pcells a ++ pcells b := by simp [pcells]
theorem pcells_one (l : List Lx.Part) : ∀ u ∈ pcells l, u.oneCell' = true := by
  intro u hu
  obtain ⟨e, _, hu⟩ := List.mem_flatMap.1 hu
  simp only [partCells, List.mem_cons, List.not_mem_nil, or_false] at hu
  rcases hu with rfl | rfl <;> rfl

/-- v stands for the pieces l. -/
def PartsAt (w : World) (v : Value) (l : List Lx.Part) : Prop := Row w 53 2 v l.length (pcells l)

theorem PartsAt.kept {w w' : World} {F : List Nat} {v : Value} {l : List Lx.Part} (h : PartsAt w v l) (hc : Chg F w w') (hne : ∀ k ∈ rowBlock v, k ∉ F) : PartsAt w' v l := Row.kept h hc hne
theorem PartsAt.kept0 {w w' : World} {v : Value} {l : List Lx.Part} (h : PartsAt w v l) (hc : Chg [] w w') : PartsAt w' v l := Row.kept0 h hc
theorem PartsAt.nil (w : World) (a : Option Addr) : PartsAt w (.slice a 0 0) [] := Row.nil _ _ _ _

/-- a store into a row. -/
theorem Row.set {w : World} {E : TypeId} {size g n cap : Nat} {xs : List Value} (h : Row w E size (.slice (some ⟨g, 0, none⟩) n cap) n xs) (hn : 0 < n) (j : Nat) (v : Value) :
    Row (w.setCell ⟨g, j, none⟩ v) E size (.slice (some ⟨g, 0, none⟩) n cap) n (xs.set j v) := by
  refine ⟨by rw [List.length_set]; exact h.1, ?_⟩
  rcases h.2 with ⟨rfl, _⟩ | ⟨g', cap', cur, hv, hg, h3, h4, h5, h6⟩
  · omega
  · cases hv
    refine .inr ⟨g, cap, cur.setIfInBounds j v, rfl, obj_setCell hg j v, h3, h4, by simpa using h5, ?_⟩
    rw [Array.toList_setIfInBounds, ← h6, List.take_set]

theorem Row.obj {w : World} {E : TypeId} {size n cap : Nat} {a : Option Addr} {xs : List Value} (h : Row w E size (.slice a n cap) n xs) (hn : 0 < n) :
    ∃ g cur, a = some ⟨g, 0, none⟩ ∧ w.heap[g]? = some (.cells cur E (0, 0)) ∧ cur.toList.take (n * size) = xs ∧ n ≤ cap ∧ cap ≤ maxLen := by
  rcases h.2 with ⟨rfl, _⟩ | ⟨g', cap', cur, hv, hg, h3, h4, h5, h6⟩
  · omega
  · cases hv
    exact ⟨g', cur, rfl, hg, h6, h3, h4⟩

theorem rowBlock_head (g n cap : Nat) (h : n ≤ cap) (hn : 0 < n) : g ∈ rowBlock (.slice (some ⟨g, 0, none⟩) n cap) := by
  simp only [rowBlock]; rw [if_neg (by omega)]; simp

theorem Tryd.infoPart : (Tryd.prog.info? 53).map (fun i => (i.zero, i.size, i.bytes)) = some (some (.agg #[.int .i64 0, .string ⟨#[]⟩]), 2, 24) := by kernel_rfl

theorem addP_last (l : List Lx.Part) (p : Lx.Part) (k : Int) (t : List UInt8) :
    Lx.addP (l ++ [p]) k t = if k = 1 ∧ p.kind = 1 then l ++ [⟨p.kind, p.text ++ t⟩] else if k = 1 ∧ t = [] then l ++ [p] else l ++ [p] ++ [⟨k, t⟩] := by
  unfold Lx.addP
  simp

/-- what a call on a word's pieces leaves. -/
def AddPost (w : World) (v : Value) (r : List Lx.Part) (e : Ending) (w' : World) : Prop :=
  ∃ a n c, e = .returned (.slice a n c) ∧ PartsAt w' (.slice a n c) r ∧ Chg (rowBlock v) w w' ∧ ∀ k ∈ rowBlock (.slice a n c), k ∈ rowBlock v ∨ w.heap.size ≤ k

theorem PartsAt.len {w : World} {a : Option Addr} {n c : Nat} {l : List Lx.Part} (h : PartsAt w (.slice a n c) l) : n = l.length ∧ n ≤ c ∧ c ≤ maxLen := by
  obtain ⟨a', c', h1, h2, h3⟩ := Row.shape h
  cases h1
  exact ⟨rfl, h2, h3⟩

theorem one_part (p : Lx.Part) : ∀ u ∈ partCells p, u.oneCell' = true := by
  intro u hu
  simp only [partCells, List.mem_cons, List.not_mem_nil, or_false] at hu
  rcases hu with rfl | rfl <;> rfl

theorem add_fin {w : World} {a : Option Addr} {n c : Nat} {l : List Lx.Part} {k : Int} {t : List UInt8} (hn : n = l.length) (v' : Value) (w' : World) (r1 : Row w' 53 2 v' (n + 1) (pcells l ++ partCells ⟨k, t⟩))
    (q1 : Chg (rowBlock (.slice a n c)) (w.alloc (.cells #[.int .i64 k, .string (Lx.strB t)] 53)) w')
    (g1 : ∀ x ∈ rowBlock v', x ∈ rowBlock (.slice a n c) ∨ w.heap.size + 1 ≤ x) :
    AddPost w (.slice a n c) (l ++ [⟨k, t⟩]) (.returned v') w' := by
  subst hn
  obtain ⟨a', c', rfl, _⟩ := r1.shape
  refine ⟨a', l.length + 1, c', rfl, ?_, ((Chg.refl _ w).alloc _).trans q1 (fun x hx => .inl hx), fun x hx => (g1 x hx).imp (fun h => h) (fun h => by omega)⟩
  unfold PartsAt
  rw [List.length_append, pcells_append]
  exact r1

theorem addPost_same {w : World} {a : Option Addr} {n c : Nat} {l : List Lx.Part} (h : PartsAt w (.slice a n c) l) : AddPost w (.slice a n c) l (.returned (.slice a n c)) w :=
  ⟨a, n, c, rfl, h, Chg.refl _ _, fun x hx => .inl hx⟩

set_option maxHeartbeats 4000000 in
theorem add_any (a : Option Addr) (n c : Nat) (l : List Lx.Part) (k : Int) (t : List UInt8) (w : World) (h : PartsAt w (.slice a n c) l) (hn : l.length ≤ 1000000) (htx : ∀ p ∈ l, p.text.length + t.length ≤ 1000000) :
    Calls Tryd.prog 41 #[.slice a n c, .int .i64 k, .string (Lx.strB t)] w (AddPost w (.slice a n c) (Lx.addP l k t)) := by
  obtain ⟨i0, hi, hz0, hz1, hz2⟩ := info_parts Tryd.infoPart
  obtain ⟨hnl, hc1, hc2⟩ := h.len
  have HR := Lib.hid (show Row w 53 2 (.slice a n c) n (pcells l) from by rw [hnl]; rw [hnl] at h; exact h)
  have HCM := Lib.hid hc2
  have hsrc := Lib.hid (srcNew w #[.int .i64 k, .string (Lx.strB t)] 53 (0, 0))
  have HF := Lib.hid (add_fin (w := w) (a := a) (c := c) (k := k) (t := t) hnl)
  have HS := Lib.hid (addPost_same h)
  have hn2 : n ≤ 1000000 := by omega
  have hsz := Lx.strB_size t
  clear h hc2
  by_cases hk1 : k = 1
  · subst hk1
    by_cases hn0 : n = 0
    · have hl0 : l = [] := List.eq_nil_of_length_eq_zero (by omega)
      subst hl0 hn0
      clear hnl hn htx
      by_cases ht : t = []
      · have hE : (Lx.strB t).toList.isEmpty = true := by rw [Lx.strB_toList, ht]; rfl
        rw [show Lx.addP [] 1 t = [] from by unfold Lx.addP; simp [ht]]
        clear ht
        go_enter Tryd.func41, Tryd.ntmps41
        go_wp2
        go_ret
        exact HS.out
      · have hE : (Lx.strB t).toList.isEmpty = false := by rw [Lx.strB_toList]; simpa using ht
        rw [show Lx.addP [] 1 t = [] ++ [⟨1, t⟩] from by unfold Lx.addP; simp [ht]]
        clear ht
        go_enter Tryd.func41, Tryd.ntmps41
        go_wp2_with (at_builtin; refine wpList_append_row _ rfl _ _ 49 rfl 53 i0 _ 2 24 Tryd.underlying49 hi hz0 hz1 hz2 rfl (by decide) _ 0 (pcells []) rfl (HR.out.kept0 ((Chg.refl [] _).alloc _)) _ 1 1 (partCells ⟨1, t⟩) rfl rfl hsrc.out (one_part _) (by unfold maxLen; omega) (by omega) ?_)
        intro v' w' r1 q1 g1
        have HP := Lib.hid (HF.out v' w' r1 q1 g1)
        clear r1 q1 g1
        go_wp2
        go_ret
        exact HP.out
    · obtain ⟨l', p, rfl⟩ : ∃ l' p, l = l' ++ [p] := by
        rcases List.eq_nil_or_concat l with h0 | ⟨l', p, h0⟩
        · subst h0; exact absurd hnl hn0
        · exact ⟨l', p, by simpa using h0⟩
      obtain ⟨m, rfl⟩ : ∃ m, n = m + 1 := ⟨n - 1, by omega⟩
      have hml : m = l'.length := by simp at hnl; omega
      obtain ⟨g, cur, rfl, hob, htk, _, _⟩ := HR.out.obj (by omega)
      have hpc : pcells (l' ++ [p]) = pcells l' ++ partCells p := by rw [pcells_append]; simp [pcells]
      have hlen : (pcells l').length = m * 2 := by rw [pcells_len, hml]
      have k0 := cells_of_take hob htk (j := m * 2) (u := .int .i64 p.kind) (by rw [hpc, List.getElem?_append_right (by omega), hlen, Nat.sub_self]; rfl)
      have k1 := cells_of_take hob htk (j := m * 2 + 1) (u := .string (Lx.strB p.text)) (by rw [hpc, List.getElem?_append_right (by omega), hlen, show m * 2 + 1 - m * 2 = 1 from by omega]; rfl)
      have kf := free_of_obj hob (m * 2 + 1)
      have hm0 : (0 : Int) ≤ (m : Int) := by omega
      have hpt := htx p (by simp)
      have hsz2 := Lx.strB_size p.text
      have hov := eq_false (show ¬ 9223372036854775807 < p.text.length + t.length from by omega)
      have HSET := Lib.hid (HR.out.set (by omega) (m * 2 + 1) (.string (Lx.strB (p.text ++ t))))
      have hin := Lib.hid (rowBlock_head g (m + 1) c hc1 (by omega))
      rw [addP_last]
      by_cases hp : p.kind = 1
      · have hp1 : (p.kind == 1) = true := by rw [beq_iff_eq]; exact hp
        have HG := Lib.hid (show AddPost w (.slice (some ⟨g, 0, none⟩) (m + 1) c) (l' ++ [⟨p.kind, p.text ++ t⟩]) (.returned (.slice (some ⟨g, 0, none⟩) (m + 1) c)) (w.setCell ⟨g, m * 2 + 1, none⟩ (.string (Lx.strB (p.text ++ t)))) from by
          refine ⟨_, _, _, rfl, ?_, (Chg.refl _ w).setCell _ _ (.inl hin.out), fun x hx => .inl hx⟩
          unfold PartsAt
          have e : pcells (l' ++ [⟨p.kind, p.text ++ t⟩]) = (pcells (l' ++ [p])).set (m * 2 + 1) (.string (Lx.strB (p.text ++ t))) := by
            rw [hpc, List.set_append_right _ _ (by omega), hlen, show m * 2 + 1 - m * 2 = 1 from by omega, pcells_append]
            rfl
          rw [e, show (l' ++ [(⟨p.kind, p.text ++ t⟩ : Lx.Part)]).length = m + 1 from by simp; omega]
          exact HSET.out)
        have hcat := Lx.strB_append p.text t
        rw [if_pos ⟨rfl, hp⟩]
        clear hp HSET hpc hlen hml hnl htx hn htk hob hpt HF HS hsrc HR
        go_enter Tryd.func41, Tryd.ntmps41
        go_wp2
        go_ret
        exact HG.out
      · have hp1 : (p.kind == 1) = false := by rw [beq_eq_false_iff_ne]; exact hp
        rw [if_neg (fun e => hp e.2)]
        clear hp HSET hpc hlen hml hnl htx hn htk hob hpt
        by_cases ht : t = []
        · have hE : (Lx.strB t).toList.isEmpty = true := by rw [Lx.strB_toList, ht]; rfl
          rw [if_pos ⟨rfl, ht⟩]
          clear ht
          go_enter Tryd.func41, Tryd.ntmps41
          go_wp2
          go_ret
          exact HS.out
        · have hE : (Lx.strB t).toList.isEmpty = false := by rw [Lx.strB_toList]; simpa using ht
          rw [if_neg (fun e => ht e.2)]
          clear ht
          go_enter Tryd.func41, Tryd.ntmps41
          go_wp2_with (at_builtin; refine wpList_append_row _ rfl _ _ 49 rfl 53 i0 _ 2 24 Tryd.underlying49 hi hz0 hz1 hz2 rfl (by decide) _ (m + 1) (pcells (l' ++ [p])) rfl (HR.out.kept0 ((Chg.refl [] _).alloc _)) _ 1 1 (partCells ⟨1, t⟩) rfl rfl hsrc.out (one_part _) (by unfold maxLen; omega) (by omega) ?_)
          intro v' w' r1 q1 g1
          have HP := Lib.hid (HF.out v' w' r1 q1 g1)
          clear r1 q1 g1
          go_wp2
          go_ret
          exact HP.out
  · have hk2 : (k == 1) = false := by rw [beq_eq_false_iff_ne]; exact hk1
    rw [show Lx.addP l k t = l ++ [⟨k, t⟩] from by unfold Lx.addP; split <;> simp [hk1]]
    clear hk1 hnl htx hn
    go_enter Tryd.func41, Tryd.ntmps41
    go_wp2_with (at_builtin; refine wpList_append_row _ rfl _ _ 49 rfl 53 i0 _ 2 24 Tryd.underlying49 hi hz0 hz1 hz2 rfl (by decide) _ n (pcells l) rfl (HR.out.kept0 ((Chg.refl [] _).alloc _)) _ 1 1 (partCells ⟨k, t⟩) rfl rfl hsrc.out (one_part _) (by unfold maxLen; omega) (by omega) ?_)
    intro v' w' r1 q1 g1
    have HP := Lib.hid (HF.out v' w' r1 q1 g1)
    clear r1 q1 g1
    go_wp2
    go_ret
    exact HP.out

end Go.Proofs.YtfgbbmnmblchiaaDoor

namespace Go.Proofs.YtfgbbmnmblchiaaDoor
open Go.RowKit
set_option linter.unusedVariables false

theorem ret2_si {a b : ByteArray} {x y : Int} (h : a = b) (h' : x = y) : Ending.returned (.tuple #[.string a, .int .i64 x]) = .returned (.tuple #[.string b, .int .i64 y]) := by rw [h, h']

theorem pre_one (r : List UInt8) (c : UInt8) : Lib.hasPrefix (Lx.strB r).data.toList (⟨#[c]⟩ : ByteArray).data.toList = decide (r.head? = some c) := by
  rw [Lx.strB_data]
  cases r with
  | nil => rfl
  | cons d t =>
    simp only [Lib.hasPrefix, List.isPrefixOf, List.head?_cons, Option.some.injEq, Bool.and_true]
    by_cases h : c = d
    · subst h; simp
    · have h2 : ¬ d = c := fun e => h e.symm
      simp [h, h2]

theorem head_drop (t : List UInt8) (k : Nat) : (t.drop k).head? = t[k]? := by simp [List.head?_drop]

set_option maxHeartbeats 2000000 in
theorem dollar_any (c : UInt8) (r : List UInt8) (w : World) (hl : r.length ≤ 1000000) :
    Calls Tryd.prog 58 #[.string (Lx.strB (c :: r))] w fun e w' => e = .returned (.tuple #[.string (Lx.strB (Lx.dollarP r).1), .int .i64 (Lx.dollarP r).2]) ∧ Chg [] w w' := by
  have hs0 := Lx.strB_size (c :: r)
  rw [List.length_cons] at hs0
  have hs1 := Lx.strB_size r
  have hx0 : (Lx.strB (c :: r)).extract 1 (r.length + 1) = Lx.strB r := by
    have := Lx.strB_tail (c :: r) 1
    rw [hs0] at this
    exact this
  have hp := Lib.hid (pre_one r)
  by_cases h1 : r.head? = some 63
  · have hr := Lib.hid (show Lx.dollarP r = ([63], 2) from by unfold Lx.dollarP; rw [if_pos h1])
    have H1 := Lib.hid h1
    clear h1
    go_enter Tryd.func58, Tryd.ntmps58
    go_wp2_with fail
    refine (Tryd.strings_HasPrefix _ _ _).mono ?_
    rw [hp.out, H1.out]
    rintro e w' ⟨rfl, rfl⟩
    go_wp2
    go_ret2
    rw [hr.out]
    exact ⟨rfl, Chg.refl _ _⟩
  · by_cases h2 : r.head? = some 123
    · obtain ⟨t, rfl⟩ : ∃ t, r = 123 :: t := by
        cases r with
        | nil => simp at h2
        | cons d t => simp at h2; exact ⟨t, by rw [h2]⟩
      obtain ⟨k, hk⟩ : ∃ k, Lx.nameLen t = k := ⟨_, rfl⟩
      have hkl := (nameLen_le t).1
      rw [hk] at hkl
      rw [List.length_cons] at hl hs1 hx0 hs0
      have hx1 : (Lx.strB (123 :: t)).extract 1 (t.length + 1) = Lx.strB t := by
        have := Lx.strB_tail (123 :: t) 1
        rw [hs1] at this
        exact this
      have hx2 : (Lx.strB (123 :: t)).extract (1 + k) (t.length + 1) = Lx.strB (t.drop k) := by
        have := Lx.strB_tail (123 :: t) (1 + k)
        rw [hs1] at this
        rw [this, show 1 + k = k + 1 from by omega]
        rfl
      have hx3 : (Lx.strB (123 :: t)).extract 1 (1 + k) = Lx.strB (t.take k) := by
        rw [Lx.strB_extract, show 1 + k - 1 = k from by omega]
        rfl
      have hr := Lib.hid (show Lx.dollarP (123 :: t) = if k = 0 ∨ t[k]? ≠ some 125 then ([], -1) else (t.take k, (k : Int) + 3) from by
        unfold Lx.dollarP
        rw [if_neg h1, if_pos h2]
        simp only [List.drop_succ_cons, List.drop_zero, hk])
      have H1 := Lib.hid h1
      have H2 := Lib.hid h2
      have HP1 := Lib.hid (show decide ((123 :: t).head? = some 63) = false from decide_eq_false h1)
      have HK := Lib.hid hk
      have hki : (k : Int) ≤ (t.length : Int) := by omega
      have hk0 : (0 : Int) ≤ (k : Int) := by omega
      clear h1 h2 hk
      have hw1 : IntKind.i64.wrap (1 + (k : Int)) = 1 + (k : Int) := by rw [IntKind.wrap_i64]; omega
      by_cases hz : k = 0
      · have hz1 : ((k : Int) == 0) = true := by rw [beq_iff_eq]; omega
        have hr2 := Lib.hid (hr.out.trans (if_pos (.inl hz)))
        clear hz
        go_enter Tryd.func58, Tryd.ntmps58
        go_wp2_with fail
        refine (Tryd.strings_HasPrefix _ _ _).mono ?_
        rw [hp.out, HP1.out]
        rintro e w' ⟨rfl, rfl⟩
        go_wp2_with fail
        refine (Tryd.strings_HasPrefix _ _ _).mono ?_
        rw [hp.out, H2.out]
        rintro e w' ⟨rfl, rfl⟩
        go_wp2_with fail
        refine (name_list t _ (by omega)).mono ?_
        rw [HK.out]
        rintro e w1 ⟨rfl, hc1⟩
        have HC1 := Lib.hid hc1
        clear hc1
        go_wp2
        go_ret2
        rw [hr2.out]
        exact ⟨rfl, HC1.out⟩
      · have hz1 : ((k : Int) == 0) = false := by rw [beq_eq_false_iff_ne]; omega
        have hz2 := Lib.hid hz
        clear hz
        by_cases h125 : t[k]? = some 125
        · have hr2 := Lib.hid (hr.out.trans (if_neg (by rintro (h | h); exact hz2.out h; exact h h125)))
          have HP3 := Lib.hid (show decide ((t.drop k).head? = some 125) = true from decide_eq_true (by rw [head_drop]; exact h125))
          clear h125
          go_enter Tryd.func58, Tryd.ntmps58
          go_wp2_with fail
          refine (Tryd.strings_HasPrefix _ _ _).mono ?_
          rw [hp.out, HP1.out]
          rintro e w' ⟨rfl, rfl⟩
          go_wp2_with fail
          refine (Tryd.strings_HasPrefix _ _ _).mono ?_
          rw [hp.out, H2.out]
          rintro e w' ⟨rfl, rfl⟩
          go_wp2_with fail
          refine (name_list t _ (by omega)).mono ?_
          rw [HK.out]
          rintro e w1 ⟨rfl, hc1⟩
          have HC1 := Lib.hid hc1
          clear hc1
          go_wp2_with fail
          refine (Tryd.strings_HasPrefix _ _ _).mono ?_
          rw [pre_one, HP3.out]
          rintro e w' ⟨rfl, rfl⟩
          go_wp2
          go_ret2
          rw [hr2.out]
          exact ⟨ret2_si hx3 rfl, HC1.out⟩
        · have hr2 := Lib.hid (hr.out.trans (if_pos (.inr h125)))
          have HP3 := Lib.hid (show decide ((t.drop k).head? = some 125) = false from decide_eq_false (by rw [head_drop]; exact h125))
          clear h125
          go_enter Tryd.func58, Tryd.ntmps58
          go_wp2_with fail
          refine (Tryd.strings_HasPrefix _ _ _).mono ?_
          rw [hp.out, HP1.out]
          rintro e w' ⟨rfl, rfl⟩
          go_wp2_with fail
          refine (Tryd.strings_HasPrefix _ _ _).mono ?_
          rw [hp.out, H2.out]
          rintro e w' ⟨rfl, rfl⟩
          go_wp2_with fail
          refine (name_list t _ (by omega)).mono ?_
          rw [HK.out]
          rintro e w1 ⟨rfl, hc1⟩
          have HC1 := Lib.hid hc1
          clear hc1
          go_wp2_with fail
          refine (Tryd.strings_HasPrefix _ _ _).mono ?_
          rw [pre_one, HP3.out]
          rintro e w' ⟨rfl, rfl⟩
          go_wp2
          go_ret2
          rw [hr2.out]
          exact ⟨rfl, HC1.out⟩
    · obtain ⟨k, hk⟩ : ∃ k, Lx.nameLen r = k := ⟨_, rfl⟩
      have hkl := (nameLen_le r).1
      rw [hk] at hkl
      have hx3 : (Lx.strB r).extract 0 k = Lx.strB (r.take k) := by rw [Lx.strB_extract, Nat.sub_zero]; rfl
      have hr := Lib.hid (show Lx.dollarP r = (r.take k, (k : Int) + 1) from by
        unfold Lx.dollarP
        rw [if_neg h1, if_neg h2, hk])
      have HP1 := Lib.hid (show decide (r.head? = some 63) = false from decide_eq_false h1)
      have HP2 := Lib.hid (show decide (r.head? = some 123) = false from decide_eq_false h2)
      have HK := Lib.hid hk
      have hki : (k : Int) ≤ (r.length : Int) := by omega
      have hk0 : (0 : Int) ≤ (k : Int) := by omega
      clear h1 h2 hk
      go_enter Tryd.func58, Tryd.ntmps58
      go_wp2_with fail
      refine (Tryd.strings_HasPrefix _ _ _).mono ?_
      rw [hp.out, HP1.out]
      rintro e w' ⟨rfl, rfl⟩
      go_wp2_with fail
      refine (Tryd.strings_HasPrefix _ _ _).mono ?_
      rw [hp.out, HP2.out]
      rintro e w' ⟨rfl, rfl⟩
      go_wp2_with fail
      refine (name_list r _ (by omega)).mono ?_
      rw [HK.out]
      rintro e w1 ⟨rfl, hc1⟩
      have HC1 := Lib.hid hc1
      clear hc1
      go_wp2
      go_ret2
      rw [hr.out]
      exact ⟨rfl, HC1.out⟩

end Go.Proofs.YtfgbbmnmblchiaaDoor
