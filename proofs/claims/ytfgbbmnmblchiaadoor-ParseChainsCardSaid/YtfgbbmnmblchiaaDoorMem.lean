/-
  Words on memory for this seat's walks: rows of cells that a slice value stands for, a change of the world that touches a list of blocks alone, and the law of append over them.
-/
import Derived.WalkKit
import Derived.Deep.LoopGhost
import Derived.WalkLawsBesides
import Derived.WalkSpells
import Derived.Lib.Hide
import Derived.Deep.QuietTactic
import Derived.BigQuiet
import Derived.Outline
import Derived.Deep.DeepFit
import Derived.Deep.DeepMust
import Derived.RegionTactic
import Derived.ChangeAlike
import Derived.Deep.CutBlock
import Derived.Deep.DeepCutAuto
import Derived.Laws.BytesArg
import Derived.Lib.SlBytesConst
namespace Go.Proofs.YtfgbbmnmblchiaaDoor
open Go.RowKit

/-- w' is w with new blocks and with changes to the blocks of F alone. -/
structure Chg (F : List Nat) (w w' : World) : Prop where
  os : w'.os = w.os
  tape : w'.tape = w.tape
  output : w'.output = w.output
  size : w.heap.size ≤ w'.heap.size
  block : ∀ k, k < w.heap.size → k ∉ F → w'.heap[k]? = w.heap[k]?

theorem Chg.refl (F : List Nat) (w : World) : Chg F w w := ⟨rfl, rfl, rfl, Nat.le_refl _, fun _ _ _ => rfl⟩

theorem Chg.trans {F G : List Nat} {a b c : World} (h : Chg F a b) (k : Chg G b c) (hs : ∀ x ∈ G, x ∈ F ∨ a.heap.size ≤ x) : Chg F a c :=
  ⟨k.os.trans h.os, k.tape.trans h.tape, k.output.trans h.output, Nat.le_trans h.size k.size, fun i hi hF =>
    (k.block i (Nat.lt_of_lt_of_le hi h.size) (fun hG => by rcases hs i hG with h1 | h1; exact hF h1; omega)).trans (h.block i hi hF)⟩

/-- the commonest chain: the second change touches new blocks and nothing else. -/
theorem Chg.then0 {F : List Nat} {a b c : World} (h : Chg F a b) (k : Chg [] b c) : Chg F a c := h.trans k (by simp)

theorem Chg.mono {F G : List Nat} {a b : World} (h : Chg F a b) (hs : ∀ x ∈ F, x ∈ G ∨ a.heap.size ≤ x) : Chg G a b :=
  ⟨h.os, h.tape, h.output, h.size, fun i hi hG => h.block i hi (fun hF => by rcases hs i hF with h1 | h1; exact hG h1; omega)⟩

theorem Chg.alloc {F : List Nat} {a w : World} (h : Chg F a w) (o : Obj) : Chg F a (w.alloc o) :=
  h.trans (G := []) ⟨rfl, rfl, rfl, by simp, fun k hk _ => Below.heap_alloc _ _ _ hk⟩ (by simp)

theorem Chg.drew {F : List Nat} {a w : World} (h : Chg F a w) : Chg F a w.drew := ⟨h.os, h.tape, h.output, h.size, h.block⟩

theorem Chg.drew0 {F : List Nat} {w w' : World} (h : Chg F w.drew w') : Chg F w w' := ⟨h.os, h.tape, h.output, h.size, h.block⟩

theorem Chg.drewN {F : List Nat} {a w : World} (h : Chg F a w) (n : Nat) : Chg F a (w.drewN n) := ⟨h.os, h.tape, h.output, h.size, h.block⟩

theorem Chg.setCell {F : List Nat} {a w : World} (h : Chg F a w) (p : Addr) (u : Value) (hp : p.block ∈ F ∨ a.heap.size ≤ p.block) : Chg F a (w.setCell p u) :=
  h.trans (G := [p.block]) ⟨rfl, rfl, rfl, by simp [World.setCell], fun k _ hn => Below.heap_setCell _ _ _ _ (by simpa using hn)⟩ (by simpa using hp)

theorem Chg.grown {F : List Nat} {a w w' : World} {row : Option Nat} (h : Chg F a w) (hg : w.grownBy w' row) (hr : ∀ k, row = some k → k ∈ F ∨ a.heap.size ≤ k) : Chg F a w' :=
  h.trans (G := row.toList) ⟨hg.os, hg.tape, hg.output, hg.size, fun k hk hn => hg.block k hk (fun e => hn (by rw [← e]; simp))⟩ (fun x hx => hr x (by simpa using hx))

theorem Chg.ofBelow {w w' : World} (h : Below w.heap.size w w') : Chg [] w w' := ⟨h.os, h.tape, h.output, h.size, fun k hk _ => h.block k hk⟩
theorem Chg.below {w w' : World} (h : Chg [] w w') : Below w.heap.size w w' := ⟨h.os, h.tape, h.output, h.size, fun k hk => h.block k hk (by simp)⟩

theorem Chg.cell {F : List Nat} {w w' : World} (h : Chg F w w') {p : Addr} {v : Value} (hv : w.cell? p = some v) (hp : p.block ∉ F) : w'.cell? p = some v :=
  (World.cell?_of_block (w := w) (h.block p.block (World.block_lt_of_cell? w p hv) hp)).trans hv

theorem Chg.cellEq {F : List Nat} {w w' : World} (h : Chg F w w') {p : Addr} (hb : p.block < w.heap.size) (hp : p.block ∉ F) : w'.cell? p = w.cell? p :=
  World.cell?_of_block (w := w) (h.block p.block hb hp)

theorem Chg.obj {F : List Nat} {w w' : World} (h : Chg F w w') {k : Nat} {o : Obj} (hk : w.heap[k]? = some o) (hp : k ∉ F) : w'.heap[k]? = some o :=
  (h.block k (Array.getElem?_eq_some_iff.1 hk).1 hp).trans hk

theorem lt_of_obj {w : World} {k : Nat} {o : Obj} (h : w.heap[k]? = some o) : k < w.heap.size := (Array.getElem?_eq_some_iff.1 h).1

theorem obj_alloc_new (w : World) (o : Obj) : (w.alloc o).heap[w.heap.size]? = some o := heap_alloc_new w o
theorem obj_alloc_old {w : World} {k : Nat} {x : Obj} (h : w.heap[k]? = some x) (o : Obj) : (w.alloc o).heap[k]? = some x :=
  (Below.heap_alloc w o k (lt_of_obj h)).trans h

/-- a cell of a block that is known whole. -/
theorem cell_of_obj {w : World} {b : Nat} {c : Array Value} {E : TypeId} {f : Nat × Nat} (h : w.heap[b]? = some (.cells c E f)) {j : Nat} {v : Value} (hj : c[j]? = some v) : w.cell? ⟨b, j, none⟩ = some v := by
  simp [World.cell?, h, hj]
theorem free_of_obj {w : World} {b : Nat} {c : Array Value} {E : TypeId} (h : w.heap[b]? = some (.cells c E (0, 0))) (j : Nat) : w.frozen? ⟨b, j, none⟩ = false := by
  simp [World.frozen?, h]
theorem obj_setCell {w : World} {b : Nat} {c : Array Value} {E : TypeId} {f : Nat × Nat} (h : w.heap[b]? = some (.cells c E f)) (j : Nat) (v : Value) :
    (w.setCell ⟨b, j, none⟩ v).heap[b]? = some (.cells (c.setIfInBounds j v) E f) := by
  simp [World.setCell, Array.getElem?_modify, h]
theorem obj_setCell_other {w : World} {k : Nat} {o : Obj} (h : w.heap[k]? = some o) {p : Addr} (hne : k ≠ p.block) (v : Value) : (w.setCell p v).heap[k]? = some o :=
  (Below.heap_setCell w p v k hne).trans h

/-- THE SLICE VALUE v, of n elements of 'size' cells each, STANDS FOR THE CELLS xs in a block of its own (or has no room at all, wherever it points). -/
def Row (w : World) (E : TypeId) (size : Nat) (v : Value) (n : Nat) (xs : List Value) : Prop :=
  xs.length = n * size ∧
  ((n = 0 ∧ ∃ a, v = .slice a 0 0) ∨
   ∃ g cap cur, v = .slice (some ⟨g, 0, none⟩) n cap ∧ w.heap[g]? = some (.cells cur E (0, 0)) ∧ n ≤ cap ∧ cap ≤ maxLen ∧ cap * size ≤ cur.size ∧ cur.toList.take (n * size) = xs)

/-- the block that a row lies in: none, if it has no room. -/
def rowBlock : Value → List Nat
  | .slice (some a) _ cap => if cap = 0 then [] else [a.block]
  | _ => []

theorem Row.nil (w : World) (E : TypeId) (size : Nat) (a : Option Addr) : Row w E size (.slice a 0 0) 0 [] := ⟨by simp, .inl ⟨rfl, a, rfl⟩⟩

theorem Row.block_lt {w : World} {E : TypeId} {size : Nat} {v : Value} {n : Nat} {xs : List Value} (h : Row w E size v n xs) : ∀ k ∈ rowBlock v, k < w.heap.size := by
  intro k hk
  rcases h.2 with ⟨_, a, rfl⟩ | ⟨g, cap, cur, rfl, hg, _⟩
  · cases a <;> simp [rowBlock] at hk
  · simp only [rowBlock] at hk
    split at hk
    · simp at hk
    · simp at hk; subst hk; exact lt_of_obj hg

theorem Row.kept {w w' : World} {F : List Nat} {E : TypeId} {size : Nat} {v : Value} {n : Nat} {xs : List Value} (h : Row w E size v n xs) (hc : Chg F w w') (hne : ∀ k ∈ rowBlock v, k ∉ F) : Row w' E size v n xs := by
  refine ⟨h.1, ?_⟩
  rcases h.2 with h2 | ⟨g, cap, cur, rfl, hg, h3, h4, h5, h6⟩
  · exact .inl h2
  · by_cases h0 : cap = 0
    · subst h0
      exact .inl ⟨by omega, some ⟨g, 0, none⟩, by have : n = 0 := by omega
                                                  subst this; rfl⟩
    · exact .inr ⟨g, cap, cur, rfl, hc.obj hg (hne g (by simp [rowBlock, h0])), h3, h4, h5, h6⟩

theorem cells_of_take {w : World} {g : Nat} {cur : Array Value} {E : TypeId} {f : Nat × Nat} {k : Nat} {xs : List Value} (hg : w.heap[g]? = some (.cells cur E f)) (h6 : cur.toList.take k = xs) {j : Nat} {u : Value} (hj : xs[j]? = some u) : w.cell? ⟨g, j, none⟩ = some u := by
  refine cell_of_obj hg ?_
  rw [← h6, List.getElem?_take] at hj
  split at hj
  · simpa using hj
  · cases hj

theorem Addr.add_zero_off (g j : Nat) : (⟨g, 0, none⟩ : Addr).add j = ⟨g, j, none⟩ := by
  unfold Addr.add
  split <;> simp_all

theorem Row.ofOwns {w : World} {base : Nat} {E : TypeId} {size : Nat} {v : Value} {n : Nat} {xs : List Value} (h : w.ownsRow base E size v n xs) : Row w E size v n xs := by
  refine ⟨h.1, ?_⟩
  rcases h.2 with ⟨rfl, rfl⟩ | ⟨g, cap, cur, rfl, _, hg, h3, h4, h5, h6⟩
  · exact .inl ⟨rfl, none, rfl⟩
  · exact .inr ⟨g, cap, cur, rfl, hg, h3, h4, Nat.le_of_eq h5.symm, h6⟩

theorem rowBlock_own (v : Value) : ∀ k ∈ rowBlock v, v.ownBlock = some k := by
  intro k hk
  cases v with
  | slice a n c =>
    cases a with
    | none => simp [rowBlock] at hk
    | some a =>
      simp only [rowBlock] at hk
      split at hk
      · simp at hk
      · simp at hk; subst hk; rfl
  | _ => simp [rowBlock] at hk

/-- what a slice value of m elements has at its head: to be read, or appended. Of a slice without elements nothing is asked. -/
def SrcAt (w : World) (a : Option Addr) (news : List Value) : Prop :=
  news ≠ [] → ∃ b off, a = some ⟨b, off, none⟩ ∧ ∀ j u, news[j]? = some u → w.cell? ⟨b, off + j, none⟩ = some u

theorem Row.src {w : World} {E : TypeId} {size : Nat} {a : Option Addr} {n m cap : Nat} {xs : List Value} (h : Row w E size (.slice a m cap) n xs) : SrcAt w a xs := by
  intro hne
  rcases h.2 with ⟨rfl, ao, _⟩ | ⟨g, cap', cur, hv, hg, h3, h4, h5, h6⟩
  · exact absurd (List.eq_nil_of_length_eq_zero (by simpa using h.1)) hne
  · cases hv
    exact ⟨g, 0, rfl, fun j u hj => by rw [Nat.zero_add]; exact cells_of_take hg h6 hj⟩

/-- its shape. -/
theorem Row.shape {w : World} {E : TypeId} {size : Nat} {v : Value} {n : Nat} {xs : List Value} (h : Row w E size v n xs) : ∃ a cap, v = .slice a n cap ∧ n ≤ cap ∧ cap ≤ maxLen := by
  rcases h.2 with ⟨rfl, a, rfl⟩ | ⟨g, cap, cur, rfl, _, h3, h4, _⟩
  · exact ⟨a, 0, rfl, Nat.le_refl _, Nat.zero_le _⟩
  · exact ⟨_, cap, rfl, h3, h4⟩

/-- .. with a letter for its length. -/
theorem Row.shape3 {w : World} {E : TypeId} {size : Nat} {v : Value} {n : Nat} {xs : List Value} (h : Row w E size v n xs) : ∃ a m cap, v = .slice a m cap ∧ Hid (m = n) := by
  obtain ⟨a, cap, rfl, _⟩ := h.shape
  exact ⟨a, n, cap, rfl, rfl⟩

/-- 's[:len(s):len(s)]' stands for the same. -/
theorem Row.clip {w : World} {E : TypeId} {size : Nat} {a : Option Addr} {n m cap : Nat} {xs : List Value} (h : Row w E size (.slice a m cap) n xs) : Row w E size (.slice a n n) n xs := by
  refine ⟨h.1, ?_⟩
  rcases h.2 with ⟨rfl, ao, hv⟩ | ⟨g, cap', cur, hv, hg, h3, h4, h5, h6⟩
  · cases hv; exact .inl ⟨rfl, _, rfl⟩
  · cases hv
    exact .inr ⟨g, _, cur, rfl, hg, Nat.le_refl _, Nat.le_trans h3 h4, Nat.le_trans (Nat.mul_le_mul_right _ h3) h5, h6⟩

theorem rowBlock_clip (a : Option Addr) (n m cap : Nat) (h : n ≤ cap) : ∀ k ∈ rowBlock (.slice a n n), k ∈ rowBlock (.slice a m cap) := by
  intro k hk
  cases a with
  | none => simp [rowBlock] at hk
  | some a =>
    simp only [rowBlock] at hk ⊢
    split at hk
    · simp at hk
    · rw [if_neg (by omega)]; exact hk

theorem SrcAt.kept {w w' : World} {F : List Nat} {a : Option Addr} {news : List Value} (h : SrcAt w a news) (hc : Chg F w w') (hne : ∀ x, a = some x → x.block ∉ F) : SrcAt w' a news := by
  intro h0
  obtain ⟨b, off, rfl, hb⟩ := h h0
  exact ⟨b, off, rfl, fun j u hj => hc.cell (hb j u hj) (by simpa using hne _ rfl)⟩

/-- APPEND: some value that stands for both, in some world where nothing but the row's own block has turned. -/
theorem run_append_row {P : Program} (w : World) (t ty E : TypeId) (i : TypeInfo) (z : Value) (size bytes : Nat) (ht : P.underlying t = some (.slice E)) (hi : P.info? E = some i) (hz : i.zero = some z)
    (hsize : i.size = size) (hby : i.bytes = bytes) (hzs : z.cells.size = size) (hsz : 0 < size)
    (v : Value) (n : Nat) (xs : List Value) (hrow : Row w E size v n xs)
    (a : Option Addr) (m c : Nat) (news : List Value) (hl : news.length = m * size) (hnews : SrcAt w a news) (h1 : ∀ u ∈ news, u.oneCell' = true)
    (h63 : n + m ≤ maxLen) (hbytes : (n + m) * bytes ≤ 140737488355328) :
    ∃ v' w', (Builtin.append_ #[t, t] ty #[v, .slice a m c]).run P w = .ok v' w' ∧ Row w' E size v' (n + m) (xs ++ news) ∧ Chg (rowBlock v) w w' ∧ (∀ k ∈ rowBlock v', k ∈ rowBlock v ∨ w.heap.size ≤ k) := by
  by_cases hm : m = 0
  · subst hm
    have hnn : news = [] := List.eq_nil_of_length_eq_zero (by simpa using hl)
    subst hnn
    refine ⟨v, w, ?_, by simpa using hrow, Chg.refl _ _, fun k hk => .inl hk⟩
    rcases hrow.2 with ⟨rfl, ao, rfl⟩ | ⟨g, cap, cur, rfl, hg, h3, h4, h5, h6⟩
    · cases ao <;> cases a <;> simp [Builtin.append_, run_underlying ht, sizeOf, typeInfo, hi, Builtin.lenOf, Builtin.firstCells, storeCells, loadCells, loadCellsFrom]
    · cases a <;> simp [Builtin.append_, run_underlying ht, sizeOf, typeInfo, hi, Builtin.lenOf, Builtin.firstCells, storeCells, loadCells, loadCellsFrom, h3]
  · have hne : news ≠ [] := by
      intro e
      rw [e] at hl
      have := Nat.mul_pos (Nat.pos_of_ne_zero hm) hsz
      simp at hl
      omega
    obtain ⟨b, off, rfl, hcell⟩ := hnews hne
    have hcell' : ∀ j u, news[j]? = some u → w.cell? ((⟨b, off, none⟩ : Addr).add j) = some u := by
      intro j u hj
      have := hcell j u hj
      unfold Addr.add
      split
      · subst_vars; simpa using this
      · exact this
    rcases hrow.2 with ⟨rfl, ao, rfl⟩ | ⟨g, cap, cur, rfl, hg, h3, h4, h5, h6⟩
    · have hx0 : xs = [] := List.eq_nil_of_length_eq_zero (by simpa using hrow.1)
      subst hx0
      cases ao with
      | none =>
        obtain ⟨v', w', hr, r1, r2, r3⟩ := run_append_own (P := P) w w.heap.size t ty E i z size bytes ht hi hz hsize hby hzs hsz (.slice none 0 0) 0 [] (World.ownsRow_nil w _ E size) _ m c news hl hcell' h1 h63 hbytes (Nat.le_refl _)
        refine ⟨v', w', hr, Row.ofOwns r1, ?_, fun k hk => .inr (r1.lt k (rowBlock_own _ k hk)).1⟩
        exact (Chg.refl _ _).grown r2 (by simp [Value.ownBlock])
      | some ad =>
        obtain ⟨v', w', hr, r1, r2⟩ := run_append_arg_grows (P := P) w t ty E i z size bytes ht hi hz hsize hby hzs hsz ad 0 0 [] (by simp) (by simp) _ m c news hl hcell' (by omega) h63 hbytes
        refine ⟨v', w', hr, Row.ofOwns r1, ?_, fun k hk => .inr (r1.lt k (rowBlock_own _ k hk)).1⟩
        exact (Chg.refl _ _).grown r2 (by simp)
    · by_cases hc0 : cap = 0
      · subst hc0
        have hn0 : n = 0 := by omega
        subst hn0
        have hx0 : xs = [] := List.eq_nil_of_length_eq_zero (by simpa using hrow.1)
        subst hx0
        obtain ⟨v', w', hr, r1, r2⟩ := run_append_arg_grows (P := P) w t ty E i z size bytes ht hi hz hsize hby hzs hsz ⟨g, 0, none⟩ 0 0 [] (by simp) (by simp) _ m c news hl hcell' (by omega) h63 hbytes
        refine ⟨v', w', hr, Row.ofOwns r1, ?_, fun k hk => .inr (r1.lt k (rowBlock_own _ k hk)).1⟩
        exact (Chg.refl _ _).grown r2 (by simp)
      · by_cases hroom : n + m ≤ cap
        · have hr := run_append_room (P := P) w t ty E i ht hi g n cap cur hg _ m c news (by rw [hsize]; exact hl) hcell' h1 hroom (by
            rw [hsize, hl, ← Nat.add_mul]; exact Nat.le_trans (Nat.mul_le_mul_right _ hroom) h5)
          have hlt := lt_of_obj hg
          refine ⟨_, _, hr, ?_, ?_, fun k hk => .inl (by simpa [rowBlock] using hk)⟩
          · refine ⟨by rw [List.length_append, hrow.1, hl, Nat.add_mul], .inr ⟨g, cap, (cur.toList.take (n * i.size) ++ news ++ cur.toList.drop (n * i.size + news.length)).toArray, rfl, setRow_heap w g _ _ _ _ hg, hroom, h4, ?_, ?_⟩⟩
            · have e1 : n * size + news.length ≤ cur.toList.length := by
                rw [Array.length_toList (xs := cur), hl, ← Nat.add_mul]; exact Nat.le_trans (Nat.mul_le_mul_right _ hroom) h5
              have e0 : n * size ≤ cur.toList.length := by omega
              rw [List.size_toArray, hsize, List.length_append, List.length_append, List.length_take, List.length_drop, Nat.min_eq_left e0]
              rw [Array.length_toList (xs := cur)] at e1 ⊢
              omega
            · simp only [hsize]
              have e2 : (cur.toList.take (n * size)).length = n * size := by rw [h6, hrow.1]
              have e3 : (n + m) * size = (cur.toList.take (n * size) ++ news).length := by rw [List.length_append, e2, hl, Nat.add_mul]
              rw [List.toList_toArray, e3, List.take_left, h6]
          · exact ⟨rfl, rfl, rfl, by simp, fun k _ hk => setRow_other w g k _ (by simpa [rowBlock, hc0] using hk)⟩
        · obtain ⟨v', w', hr, r1, r2⟩ := run_append_arg_grows (P := P) w t ty E i z size bytes ht hi hz hsize hby hzs hsz ⟨g, 0, none⟩ n cap xs hrow.1
            (by
              intro j u hj
              rw [Addr.add_zero_off]
              exact cells_of_take hg h6 hj) _ m c news hl hcell' (by omega) h63 hbytes
          refine ⟨v', w', hr, Row.ofOwns r1, ?_, fun k hk => .inr (r1.lt k (rowBlock_own _ k hk)).1⟩
          exact (Chg.refl _ _).grown r2 (by simp)

theorem Row.alloc {w : World} {E : TypeId} {size : Nat} {v : Value} {n : Nat} {xs : List Value} (h : Row w E size v n xs) (o : Obj) : Row (w.alloc o) E size v n xs :=
  h.kept ((Chg.refl [] w).alloc o) (by simp)
theorem Row.kept0 {w w' : World} {E : TypeId} {size : Nat} {v : Value} {n : Nat} {xs : List Value} (h : Row w E size v n xs) (hc : Chg [] w w') : Row w' E size v n xs := h.kept hc (by simp)
theorem Row.drew {w : World} {E : TypeId} {size : Nat} {v : Value} {n : Nat} {xs : List Value} (h : Row w E size v n xs) : Row w.drew E size v n xs := h
theorem SrcAt.kept0 {w w' : World} {a : Option Addr} {news : List Value} (h : SrcAt w a news) (hc : Chg [] w w') : SrcAt w' a news := h.kept hc (by simp)
theorem SrcAt.alloc {w : World} {a : Option Addr} {news : List Value} (h : SrcAt w a news) (o : Obj) : SrcAt (w.alloc o) a news := h.kept0 ((Chg.refl [] w).alloc o)

/-- what stands in a block that has just been laid. -/
theorem srcNew (w : World) (c : Array Value) (E : TypeId) (f : Nat × Nat) : SrcAt (w.alloc (.cells c E f)) (some ⟨w.heap.size, 0, none⟩) c.toList :=
  fun _ => ⟨_, 0, rfl, fun j u hj => by rw [Nat.zero_add]; exact cell_of_obj (obj_alloc_new w _) (by simpa using hj)⟩
theorem srcNew1 (w : World) (v : Value) (E : TypeId) (f : Nat × Nat) : SrcAt (w.alloc (.cells #[v] E f)) (some ⟨w.heap.size, 0, none⟩) [v] := srcNew w #[v] E f

/-- .. AT THE OPERATION, for the walk. -/
theorem wpList_append_row {P : Program} (w : World) {ops : Array Oper} {rest : List Oper} {o : Oper} {a : Act} {Q : Exit → Act → World → Prop}
    (hg : o.guard = none) (s x : Operand) (t : TypeId) (hop : o.op = Op.call { callee := Callee.builtin Builtin.append, args := #[s, x], argTypes := #[t, t] })
    (E : TypeId) (i : TypeInfo) (z : Value) (size bytes : Nat) (h1 : P.underlying t = some (.slice E)) (h2 : P.info? E = some i) (h3 : i.zero = some z) (h4 : i.size = size) (h5 : i.bytes = bytes) (h6 : z.cells.size = size) (h7 : 0 < size)
    (v : Value) (n : Nat) (xs : List Value) (hs : a.eval s = v) (hrow : Row w E size v n xs)
    (ao : Option Addr) (m c : Nat) (news : List Value) (hx : a.eval x = .slice ao m c) (hl : news.length = m * size) (hsrc : SrcAt w ao news) (h1c : ∀ u ∈ news, u.oneCell' = true)
    (b1 : n + m ≤ maxLen) (b2 : (n + m) * bytes ≤ 140737488355328)
    (hK : ∀ v' w', Row w' E size v' (n + m) (xs ++ news) → Chg (rowBlock v) w w' → (∀ k ∈ rowBlock v', k ∈ rowBlock v ∨ w.heap.size ≤ k) → wpList P ops Q rest (a.put o.dst v') w') :
    wpList P ops Q (o :: rest) a w := by
  refine wpList_plain hg fun K' hK' => ?_
  obtain ⟨v', w', hrun, r1, r2, r3⟩ := run_append_row (P := P) w t o.type E i z size bytes h1 h2 h3 h4 h5 h6 h7 v n xs hrow ao m c news hl hsrc h1c b1 b2
  unfold Oper.wp
  simp [execOp, hop, resolve, invoke, builtin, hs, hx, hrun, Result.andThen]
  exact hK' _ _ (hK v' w' r1 r2 r3)

/-- .. AT A STEP OF A REGION THAT DRAWS ITS ORDER. -/
theorem step_append_row {P : Program} {w : World} {ops : Array Oper} {o : Oper} {a : Act} {K : Act → World → Prop} {Q : Exit → Act → World → Prop} {E0 : Prop}
    (hg : o.guard = none) (s x : Operand) (t : TypeId) (hop : o.op = Op.call { callee := Callee.builtin Builtin.append, args := #[s, x], argTypes := #[t, t] })
    (E : TypeId) (i : TypeInfo) (z : Value) (size bytes : Nat) (h1 : P.underlying t = some (.slice E)) (h2 : P.info? E = some i) (h3 : i.zero = some z) (h4 : i.size = size) (h5 : i.bytes = bytes) (h6 : z.cells.size = size) (h7 : 0 < size)
    (v : Value) (n : Nat) (xs : List Value) (hs : a.eval s = v) (hrow : Row w E size v n xs)
    (ao : Option Addr) (m c : Nat) (news : List Value) (hx : a.eval x = .slice ao m c) (hl : news.length = m * size) (hsrc : SrcAt w ao news) (h1c : ∀ u ∈ news, u.oneCell' = true)
    (b1 : n + m ≤ maxLen) (b2 : (n + m) * bytes ≤ 140737488355328)
    (hK : ∀ v' w', Row w' E size v' (n + m) (xs ++ news) → Chg (rowBlock v) w w' → (∀ k ∈ rowBlock v', k ∈ rowBlock v ∨ w.heap.size ≤ k) → K (a.put o.dst v') w') :
    if Region.wanted o (yielded ops a.tmps) = true then Oper.wp P o a w K Q else E0 := by
  have hw : Region.wanted o (yielded ops a.tmps) = true := by simp [Region.wanted, hg]
  rw [if_pos hw]
  obtain ⟨v', w', hrun, r1, r2, r3⟩ := run_append_row (P := P) w t o.type E i z size bytes h1 h2 h3 h4 h5 h6 h7 v n xs hrow ao m c news hl hsrc h1c b1 b2
  unfold Oper.wp
  simp [execOp, hop, resolve, invoke, builtin, hs, hx, hrun, Result.andThen]
  exact hK v' w' r1 r2 r3

/-- 'string(b)'. -/
theorem run_conv_string {P : Program} (w : World) (src dst e : TypeId) (hs : P.underlying src = some (.slice e)) (he : P.underlying e = some (.int .u8)) (hd : P.underlying dst = some .string)
    (a : Option Addr) (c : Nat) (bs : List UInt8) (h : SrcAt w a (bs.map fun x => Value.int .u8 (x.toNat : Int))) : (convert src dst (.slice a bs.length c)).run P w = .ok (.string ⟨bs.toArray⟩) w := by
  by_cases h0 : bs = []
  · subst h0
    cases a with
    | none =>
      rw [List.length_nil, run_convert_bytes_nil w src e hs he 0 c dst hd]; rfl
    | some ad =>
      rw [run_convert_bytes_string w src dst e _ _ c hs he hd]
      have hl : (loadCells ad ([] : List UInt8).length).run P w = .ok (([] : List Int).map (Value.int .u8)).toArray w := by simp [loadCells, loadCellsFrom]
      rw [run_bytesToString w ad _ c [] hl]
      rfl
  · obtain ⟨b, off, rfl, hb⟩ := h (by simpa using h0)
    have hlen : (bs.map fun x => (x.toNat : Int)).length = bs.length := by simp
    rw [run_convert_bytes_arg w src e hs he b off bs.length c (bs.map fun x => (x.toNat : Int)) hlen (fun i hi => hb i _ (by simp [hi])) dst hd]
    congr 2
    unfold strOfNums
    congr 2
    rw [List.map_map]
    conv => rhs; rw [← List.map_id bs]
    apply List.map_congr_left
    intro x _
    simp

/-! ### '&' with a mask -/
theorem i64_and511 (n : Int) : bits .and .i64 n 511 = n % 512 := by
  have h127 : (BitVec.ofInt 64 511).toNat = 2 ^ 9 - 1 := by decide
  have key : (BitVec.ofInt 64 n &&& BitVec.ofInt 64 511).toNat = (n % ((2 ^ 64 : Nat) : Int)).toNat % 2 ^ 9 := by
    rw [BitVec.toNat_and, BitVec.toNat_ofInt, h127, Nat.and_two_pow_sub_one_eq_mod]
  show IntKind.i64.wrap ((BitVec.ofInt 64 n &&& BitVec.ofInt 64 511).toNat : Nat) = n % 512
  rw [key, IntKind.wrap_i64]
  omega

theorem i64_and1 (n : Int) : bits .and .i64 n 1 = n % 2 := by
  have h127 : (BitVec.ofInt 64 1).toNat = 2 ^ 1 - 1 := by decide
  have key : (BitVec.ofInt 64 n &&& BitVec.ofInt 64 1).toNat = (n % ((2 ^ 64 : Nat) : Int)).toNat % 2 ^ 1 := by
    rw [BitVec.toNat_and, BitVec.toNat_ofInt, h127, Nat.and_two_pow_sub_one_eq_mod]
  show IntKind.i64.wrap ((BitVec.ofInt 64 n &&& BitVec.ofInt 64 1).toNat : Nat) = n % 2
  rw [key, IntKind.wrap_i64]
  omega

theorem i64_and2047 (n : Int) : bits .and .i64 n 2047 = n % 2048 := by
  have h127 : (BitVec.ofInt 64 2047).toNat = 2 ^ 11 - 1 := by decide
  have key : (BitVec.ofInt 64 n &&& BitVec.ofInt 64 2047).toNat = (n % ((2 ^ 64 : Nat) : Int)).toNat % 2 ^ 11 := by
    rw [BitVec.toNat_and, BitVec.toNat_ofInt, h127, Nat.and_two_pow_sub_one_eq_mod]
  show IntKind.i64.wrap ((BitVec.ofInt 64 n &&& BitVec.ofInt 64 2047).toNat : Nat) = n % 2048
  rw [key, IntKind.wrap_i64]
  omega

theorem i64_and255 (n : Int) : bits .and .i64 n 255 = n % 256 := by
  have h127 : (BitVec.ofInt 64 255).toNat = 2 ^ 8 - 1 := by decide
  have key : (BitVec.ofInt 64 n &&& BitVec.ofInt 64 255).toNat = (n % ((2 ^ 64 : Nat) : Int)).toNat % 2 ^ 8 := by
    rw [BitVec.toNat_and, BitVec.toNat_ofInt, h127, Nat.and_two_pow_sub_one_eq_mod]
  show IntKind.i64.wrap ((BitVec.ofInt 64 n &&& BitVec.ofInt 64 255).toNat : Nat) = n % 256
  rw [key, IntKind.wrap_i64]
  omega

theorem i64_and1023 (n : Int) : bits .and .i64 n 1023 = n % 1024 := by
  have h127 : (BitVec.ofInt 64 1023).toNat = 2 ^ 10 - 1 := by decide
  have key : (BitVec.ofInt 64 n &&& BitVec.ofInt 64 1023).toNat = (n % ((2 ^ 64 : Nat) : Int)).toNat % 2 ^ 10 := by
    rw [BitVec.toNat_and, BitVec.toNat_ofInt, h127, Nat.and_two_pow_sub_one_eq_mod]
  show IntKind.i64.wrap ((BitVec.ofInt 64 n &&& BitVec.ofInt 64 1023).toNat : Nat) = n % 1024
  rw [key, IntKind.wrap_i64]
  omega

theorem i64_and63 (n : Int) : bits .and .i64 n 63 = n % 64 := by
  have h127 : (BitVec.ofInt 64 63).toNat = 2 ^ 6 - 1 := by decide
  have key : (BitVec.ofInt 64 n &&& BitVec.ofInt 64 63).toNat = (n % ((2 ^ 64 : Nat) : Int)).toNat % 2 ^ 6 := by
    rw [BitVec.toNat_and, BitVec.toNat_ofInt, h127, Nat.and_two_pow_sub_one_eq_mod]
  show IntKind.i64.wrap ((BitVec.ofInt 64 n &&& BitVec.ofInt 64 63).toNat : Nat) = n % 64
  rw [key, IntKind.wrap_i64]
  omega

theorem i64_and7 (n : Int) : bits .and .i64 n 7 = n % 8 := by
  have h127 : (BitVec.ofInt 64 7).toNat = 2 ^ 3 - 1 := by decide
  have key : (BitVec.ofInt 64 n &&& BitVec.ofInt 64 7).toNat = (n % ((2 ^ 64 : Nat) : Int)).toNat % 2 ^ 3 := by
    rw [BitVec.toNat_and, BitVec.toNat_ofInt, h127, Nat.and_two_pow_sub_one_eq_mod]
  show IntKind.i64.wrap ((BitVec.ofInt 64 n &&& BitVec.ofInt 64 7).toNat : Nat) = n % 8
  rw [key, IntKind.wrap_i64]
  omega

theorem i64_and3 (n : Int) : bits .and .i64 n 3 = n % 4 := by
  have h127 : (BitVec.ofInt 64 3).toNat = 2 ^ 2 - 1 := by decide
  have key : (BitVec.ofInt 64 n &&& BitVec.ofInt 64 3).toNat = (n % ((2 ^ 64 : Nat) : Int)).toNat % 2 ^ 2 := by
    rw [BitVec.toNat_and, BitVec.toNat_ofInt, h127, Nat.and_two_pow_sub_one_eq_mod]
  show IntKind.i64.wrap ((BitVec.ofInt 64 n &&& BitVec.ofInt 64 3).toNat : Nat) = n % 4
  rw [key, IntKind.wrap_i64]
  omega

theorem i64_and15 (n : Int) : bits .and .i64 n 15 = n % 16 := by
  have h127 : (BitVec.ofInt 64 15).toNat = 2 ^ 4 - 1 := by decide
  have key : (BitVec.ofInt 64 n &&& BitVec.ofInt 64 15).toNat = (n % ((2 ^ 64 : Nat) : Int)).toNat % 2 ^ 4 := by
    rw [BitVec.toNat_and, BitVec.toNat_ofInt, h127, Nat.and_two_pow_sub_one_eq_mod]
  show IntKind.i64.wrap ((BitVec.ofInt 64 n &&& BitVec.ofInt 64 15).toNat : Nat) = n % 16
  rw [key, IntKind.wrap_i64]
  omega

theorem i64_and2_ (n : Int) : bits .and .i64 n 2 = 0 ∨ bits .and .i64 n 2 = 2 := by
  have h2 : (BitVec.ofInt 64 2).toNat = 2 := by decide
  have key : (BitVec.ofInt 64 n &&& BitVec.ofInt 64 2).toNat = (BitVec.ofInt 64 n).toNat &&& 2 := by rw [BitVec.toNat_and, h2]
  have hle : (BitVec.ofInt 64 n).toNat &&& 2 ≤ 2 := Nat.and_le_right
  have hne : (BitVec.ofInt 64 n).toNat &&& 2 ≠ 1 := by
    intro h
    have := congrArg (fun x => Nat.testBit x 0) h
    simp at this
  have e : bits .and .i64 n 2 = IntKind.i64.wrap (((BitVec.ofInt 64 n).toNat &&& 2 : Nat) : Int) := by
    show IntKind.i64.wrap ((BitVec.ofInt 64 n &&& BitVec.ofInt 64 2).toNat : Nat) = _
    rw [key]
  rw [e, IntKind.wrap_i64]
  omega

end Go.Proofs.YtfgbbmnmblchiaaDoor
