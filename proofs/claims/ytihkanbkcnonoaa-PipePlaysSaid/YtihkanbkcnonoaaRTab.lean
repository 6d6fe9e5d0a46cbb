/-
  How the document's table of pipes lies in memory: a struct, and a row of structs of six cells; and what a change of one of these leaves.
-/
import Derived.Test.YtihkanbkcnonoaaRef3b
import Derived.Test.YtihkanbkcnonoaaAt
namespace Go.Proofs.Ytihkanbkcnonoaa
open Go.RowKit Go.Maps
set_option linter.unusedVariables false

def strB (bs : List UInt8) : ByteArray := ⟨bs.toArray⟩
theorem strB_size (bs : List UInt8) : (strB bs).size = bs.length := by simp [strB, ByteArray.size]
theorem strB_extract (bs : List UInt8) (i j : Nat) : (strB bs).extract i j = strB ((bs.drop i).take (j - i)) := by
  unfold strB
  apply ByteArray.ext
  simp [ByteArray.data_extract]
theorem strB_append (a b : List UInt8) : strB a ++ strB b = strB (a ++ b) := by
  unfold strB
  apply ByteArray.ext
  simp

theorem strB_toList (bs : List UInt8) : (strB bs).toList = bs := by
  rw [ByteArray.toList_eq]; simp [strB]

/-- the cells of an entry. -/
def ecells (id : Int) (a1 : Option Addr) (n1 c1 : Nat) (a2 : Option Addr) (n2 c2 : Nat) (p : Pi.Pp) : List Value :=
  [.int .i64 id, .int .i64 p.heirs, .int .i64 p.readers, .slice a1 n1 c1, .slice a2 n2 c2, .string (strB p.b)]

/-- an entry of the document's table. -/
structure REnt where
  id : Int
  a1 : Option Addr
  n1 : Nat
  c1 : Nat
  a2 : Option Addr
  n2 : Nat
  c2 : Nat
  p : Pi.Pp

def REnt.cells (e : REnt) : List Value := ecells e.id e.a1 e.n1 e.c1 e.a2 e.n2 e.c2 e.p
def REnt.blocks (e : REnt) : List Nat := rowBlock (.slice e.a1 e.n1 e.c1) ++ rowBlock (.slice e.a2 e.n2 e.c2)
def REnt.rows (w : World) (e : REnt) : Prop :=
  Row w 3 1 (.slice e.a1 e.n1 e.c1) e.n1 (e.p.lab.S.map (Value.int .i64)) ∧ Row w 3 1 (.slice e.a2 e.n2 e.c2) e.n2 (e.p.lab.I.map (Value.int .i64))

def rcells (es : List REnt) : List Value := es.flatMap REnt.cells

theorem rcells_len (es : List REnt) : (rcells es).length = es.length * 6 := by
  induction es with
  | nil => rfl
  | cons e r ih => simp [rcells, REnt.cells, ecells] at ih ⊢; omega

theorem rcells_split (es : List REnt) (i : Nat) (e : REnt) (h : es[i]? = some e) : rcells es = rcells (es.take i) ++ e.cells ++ rcells (es.drop (i + 1)) := by
  obtain ⟨hi, rfl⟩ := List.getElem?_eq_some_iff.1 h
  have : es = es.take i ++ es[i] :: es.drop (i + 1) := by simp
  rw [show rcells es = rcells (es.take i ++ es[i] :: es.drop (i + 1)) from congrArg rcells this]
  simp only [rcells, List.flatMap_append, List.flatMap_cons, List.append_assoc]

theorem rcells_get (es : List REnt) (i j : Nat) (e : REnt) (h : es[i]? = some e) (hj : j < 6) : (rcells es)[i * 6 + j]? = e.cells[j]? := by
  have hi := (List.getElem?_eq_some_iff.1 h).1
  have hl : (rcells (es.take i)).length = i * 6 := by rw [rcells_len, List.length_take]; omega
  rw [rcells_split es i e h, List.append_assoc, List.getElem?_append_right (by omega), hl, List.getElem?_append_left (by simp [REnt.cells, ecells]; omega)]
  congr 1
  omega

theorem rcells_set (es : List REnt) (i j : Nat) (e e' : REnt) (v : Value) (h : es[i]? = some e) (hj : j < 6) (hc : e'.cells = e.cells.set j v) : rcells (es.set i e') = (rcells es).set (i * 6 + j) v := by
  have hi := (List.getElem?_eq_some_iff.1 h).1
  have hl : (rcells (es.take i)).length = i * 6 := by rw [rcells_len, List.length_take]; omega
  have h' : (es.set i e')[i]? = some e' := by simp [hi]
  rw [rcells_split es i e h, rcells_split (es.set i e') i e' h', List.append_assoc, List.append_assoc, List.set_append_right _ _ (by omega), hl]
  rw [show i * 6 + j - i * 6 = j from by omega, List.set_append_left _ _ (by simp [REnt.cells, ecells]; omega), hc, List.take_set_of_le (by omega), List.drop_set_of_lt (by omega)]

theorem rcells_take (es : List REnt) (i : Nat) (h : i ≤ es.length) : (rcells es).take (i * 6) = rcells (es.take i) := by
  have hl : (rcells (es.take i)).length = i * 6 := by rw [rcells_len, List.length_take]; omega
  have e : rcells es = rcells (es.take i) ++ rcells (es.drop i) := by
    conv => lhs; rw [← List.take_append_drop i es]
    simp only [rcells, List.flatMap_append]
  rw [e, List.take_left' hl]

theorem rcells_drop (es : List REnt) (i : Nat) (h : i ≤ es.length) : (rcells es).drop (i * 6) = rcells (es.drop i) := by
  have hl : (rcells (es.take i)).length = i * 6 := by rw [rcells_len, List.length_take]; omega
  have e : rcells es = rcells (es.take i) ++ rcells (es.drop i) := by
    conv => lhs; rw [← List.take_append_drop i es]
    simp only [rcells, List.flatMap_append]
  rw [e, List.drop_left' hl]

theorem rcells_one (es : List REnt) : ∀ u ∈ rcells es, u.oneCell' = true := by
  intro u hu
  obtain ⟨e, _, hu⟩ := List.mem_flatMap.1 hu
  simp only [REnt.cells, ecells, List.mem_cons, List.not_mem_nil, or_false] at hu
  rcases hu with rfl | rfl | rfl | rfl | rfl | rfl <;> rfl

/-- the place of a number; below 0: it is not there. -/
def place (l : List (Int × Pi.Pp)) (id : Int) : Int := match l.findIdx? (fun x => x.1 == id) with | some i => (i : Int) | none => -1

theorem place_none {l : List (Int × Pi.Pp)} {id : Int} (h : ∀ j : Nat, ∀ y, l[j]? = some y → y.1 ≠ id) : place l id = -1 := by
  unfold place
  have : l.findIdx? (fun x => x.1 == id) = none := by
    rw [List.findIdx?_eq_none_iff]
    intro x hx
    obtain ⟨j, hj, rfl⟩ := List.getElem_of_mem hx
    have := h j _ (List.getElem?_eq_getElem hj)
    simpa using this
  rw [this]

theorem place_at {l : List (Int × Pi.Pp)} {id : Int} {k : Nat} {p : Pi.Pp} (h : ∀ j : Nat, j < k → ∀ y, l[j]? = some y → y.1 ≠ id) (hx : l[k]? = some (id, p)) : place l id = k ∧ Pi.find l id = some p := by
  have key : ∀ (l : List (Int × Pi.Pp)) (k : Nat), (∀ j : Nat, j < k → ∀ y, l[j]? = some y → y.1 ≠ id) → l[k]? = some (id, p) → l.findIdx? (fun x => x.1 == id) = some k ∧ Pi.find l id = some p := by
    intro l
    induction l with
    | nil => intro k _ hx; simp at hx
    | cons x r ih =>
      intro k h hx
      cases k with
      | zero =>
        simp at hx
        subst hx
        exact ⟨by simp [List.findIdx?_cons], by simp [Pi.find]⟩
      | succ k =>
        have h0 : x.1 ≠ id := h 0 (by omega) x rfl
        have := ih k (fun j hj y hy => h (j + 1) (by omega) y (by simpa using hy)) (by simpa using hx)
        refine ⟨by simp [List.findIdx?_cons, h0, this.1], ?_⟩
        have h2 := this.2
        unfold Pi.find at h2 ⊢
        simp [h0]
        simpa using h2
  obtain ⟨h1, h2⟩ := key l k h hx
  exact ⟨by unfold place; rw [h1], h2⟩

theorem find_none_of {l : List (Int × Pi.Pp)} {id : Int} (h : ∀ j : Nat, ∀ y, l[j]? = some y → y.1 ≠ id) : Pi.find l id = none := by
  unfold Pi.find
  have : l.find? (fun x => x.1 == id) = none := by
    rw [List.find?_eq_none]
    intro x hx
    obtain ⟨j, hj, rfl⟩ := List.getElem_of_mem hx
    have := h j _ (List.getElem?_eq_getElem hj)
    simpa using this
  rw [this]; rfl

/-- either the number is nowhere, or it has a place. -/
theorem place_cases (l : List (Int × Pi.Pp)) (id : Int) : (Pi.find l id = none ∧ place l id = -1) ∨ ∃ p, ∃ i : Nat, Pi.find l id = some p ∧ place l id = i ∧ l[i]? = some (id, p) := by
  by_cases h : ∀ j : Nat, ∀ y, l[j]? = some y → y.1 ≠ id
  · exact .inl ⟨find_none_of h, place_none h⟩
  · right
    have : ∃ k : Nat, (∃ y, l[k]? = some y ∧ y.1 = id) ∧ ∀ j : Nat, j < k → ∀ y, l[j]? = some y → y.1 ≠ id := by
      simp only [Classical.not_forall] at h
      obtain ⟨j, y, hy, hne⟩ := h
      have hne' : y.1 = id := by simpa using hne
      clear hne
      induction j using Nat.strongRecOn generalizing y with
      | _ j ih =>
        by_cases h2 : ∀ i : Nat, i < j → ∀ z, l[i]? = some z → z.1 ≠ id
        · exact ⟨j, ⟨y, hy, hne'⟩, h2⟩
        · simp only [Classical.not_forall] at h2
          obtain ⟨i, hi, z, hz, hzn⟩ := h2
          exact ih i hi z hz (by simpa using hzn)
    obtain ⟨k, ⟨⟨y1, p⟩, hy, rfl⟩, hlt⟩ := this
    have := place_at hlt hy
    exact ⟨p, k, this.2, this.1, hy⟩

theorem put_at : ∀ (l : List (Int × Pi.Pp)) (i : Nat) (id : Int) (p q : Pi.Pp), (l.map (·.1)).Nodup → l[i]? = some (id, p) → Pi.put l id q = l.set i (id, q)
  | [], _, _, _, _, _, h => by simp at h
  | x :: r, 0, id, p, q, hn, h => by
    simp at h
    subst h
    simp only [List.map_cons, List.nodup_cons] at hn
    have : r.map (fun x => if x.1 == id then (id, q) else x) = r := by
      conv => rhs; rw [← List.map_id r]
      apply List.map_congr_left
      intro y hy
      have : y.1 ≠ id := fun e => hn.1 (List.mem_map.2 ⟨y, hy, e⟩)
      simp [this]
    unfold Pi.put
    rw [List.map_cons, this]
    simp
  | x :: r, i + 1, id, p, q, hn, h => by
    simp at h
    simp only [List.map_cons, List.nodup_cons] at hn
    have hm : id ∈ r.map (·.1) := List.mem_map.2 ⟨(id, p), List.mem_of_getElem? h, rfl⟩
    have hx : x.1 ≠ id := fun e => hn.1 (by rw [e]; exact hm)
    have := put_at r i id p q hn.2 h
    unfold Pi.put at this ⊢
    rw [List.map_cons, this]
    simp [hx]

theorem del_at : ∀ (l : List (Int × Pi.Pp)) (i : Nat) (id : Int) (p : Pi.Pp), (l.map (·.1)).Nodup → l[i]? = some (id, p) → Pi.del l id = l.take i ++ l.drop (i + 1)
  | [], _, _, _, _, h => by simp at h
  | x :: r, 0, id, p, hn, h => by
    simp at h
    subst h
    simp only [List.map_cons, List.nodup_cons] at hn
    unfold Pi.del
    simp only [List.take_zero, List.nil_append, Nat.zero_add, List.drop_succ_cons, List.drop_zero]
    rw [List.filter_cons_of_neg (by simp)]
    rw [List.filter_eq_self]
    intro y hy
    have : y.1 ≠ id := fun e => hn.1 (List.mem_map.2 ⟨y, hy, e⟩)
    simp [this]
  | x :: r, i + 1, id, p, hn, h => by
    simp at h
    simp only [List.map_cons, List.nodup_cons] at hn
    have hm : id ∈ r.map (·.1) := List.mem_map.2 ⟨(id, p), List.mem_of_getElem? h, rfl⟩
    have hx : x.1 ≠ id := fun e => hn.1 (by rw [e]; exact hm)
    have := del_at r i id p hn.2 h
    unfold Pi.del at this ⊢
    rw [List.filter_cons_of_pos (by simp [hx]), this]
    rfl

theorem put_ids (l : List (Int × Pi.Pp)) (id : Int) (q : Pi.Pp) : (Pi.put l id q).map (·.1) = l.map (·.1) := by
  unfold Pi.put
  rw [List.map_map]
  apply List.map_congr_left
  intro x _
  simp only [Function.comp]
  split
  · rename_i h; simp at h; exact h.symm
  · rfl

theorem del_put (l : List (Int × Pi.Pp)) (id : Int) (q : Pi.Pp) : Pi.del (Pi.put l id q) id = Pi.del l id := by
  unfold Pi.del Pi.put
  induction l with
  | nil => rfl
  | cons x r ih =>
    by_cases h : x.1 = id
    · simp [h] at ih ⊢; exact ih
    · simp [h] at ih ⊢; exact ih

/-- a store into a row. -/
theorem Row.set {w : World} {E : TypeId} {size g n cap : Nat} {xs : List Value} (h : Row w E size (.slice (some ⟨g, 0, none⟩) n cap) n xs) (hn : 0 < n) (j : Nat) (v : Value) :
    Row (w.setCell ⟨g, j, none⟩ v) E size (.slice (some ⟨g, 0, none⟩) n cap) n (xs.set j v) := by
  refine ⟨by rw [List.length_set]; exact h.1, ?_⟩
  rcases h.2 with ⟨rfl, _⟩ | ⟨g', cap', cur, hv, hg, h3, h4, h5, h6⟩
  · omega
  · cases hv
    refine .inr ⟨g, cap, cur.setIfInBounds j v, rfl, obj_setCell hg j v, h3, h4, by simpa using h5, ?_⟩
    rw [Array.toList_setIfInBounds, ← h6, List.take_set]

theorem Row.obj {w : World} {E : TypeId} {size n cap : Nat} {a : Option Addr} {xs : List Value} (h : Row w E size (.slice a n cap) n xs) (hn : 0 < n) :
    ∃ g cur, a = some ⟨g, 0, none⟩ ∧ w.heap[g]? = some (.cells cur E (0, 0)) ∧ cur.toList.take (n * size) = xs ∧ n ≤ cap ∧ cap ≤ maxLen := by
  rcases h.2 with ⟨rfl, _⟩ | ⟨g', cap', cur, hv, hg, h3, h4, h5, h6⟩
  · omega
  · cases hv
    exact ⟨g', cur, rfl, hg, h6, h3, h4⟩

/-- block rb is the document's table; 'own': all blocks that are its own. -/
def RefAt (w : World) (rb : Nat) (own : List Nat) (s : Pi.Tb) : Prop :=
  ∃ (a : Option Addr) (n cap : Nat) (es : List REnt), w.heap[rb]? = some (.cells #[.slice a n cap, .int .i64 (s.next - 1)] 46 (0, 0)) ∧
    Row w 71 6 (.slice a n cap) n (rcells es) ∧ (∀ e ∈ es, e.rows w) ∧ s.ps = es.map (fun e => (e.id, e.p)) ∧ (s.ps.map (·.1)).Nodup ∧
    own = rb :: (rowBlock (.slice a n cap) ++ es.flatMap REnt.blocks) ∧ rb ∉ rowBlock (.slice a n cap) ++ es.flatMap REnt.blocks ∧ ∀ k ∈ rowBlock (.slice a n cap), k ∉ es.flatMap REnt.blocks

theorem REnt.rows.kept {w w' : World} {F : List Nat} {e : REnt} (h : e.rows w) (hc : Chg F w w') (hne : ∀ k ∈ e.blocks, k ∉ F) : e.rows w' :=
  ⟨h.1.kept hc (fun k hk => hne k (by simp [REnt.blocks, hk])), h.2.kept hc (fun k hk => hne k (by simp [REnt.blocks, hk]))⟩
theorem REnt.rows.lt {w : World} {e : REnt} (h : e.rows w) : ∀ k ∈ e.blocks, k < w.heap.size := by
  intro k hk
  rcases List.mem_append.1 hk with hk | hk
  · exact h.1.block_lt k hk
  · exact h.2.block_lt k hk

theorem RefAt.kept {w w' : World} {F : List Nat} {rb : Nat} {own : List Nat} {s : Pi.Tb} (h : RefAt w rb own s) (hc : Chg F w w') (hne : ∀ k ∈ own, k ∉ F) : RefAt w' rb own s := by
  obtain ⟨a, n, cap, es, h1, h2, h3, h4, h5, rfl, h7, h8⟩ := h
  refine ⟨a, n, cap, es, hc.obj h1 (hne rb (by simp)), h2.kept hc (fun k hk => hne k (by simp [hk])), fun e he => (h3 e he).kept hc (fun k hk => hne k ?_), h4, h5, rfl, h7, h8⟩
  simp only [List.mem_cons, List.mem_append, List.mem_flatMap]
  exact .inr (.inr ⟨e, he, hk⟩)

theorem RefAt.kept0 {w w' : World} {rb : Nat} {own : List Nat} {s : Pi.Tb} (h : RefAt w rb own s) (hc : Chg [] w w') : RefAt w' rb own s := h.kept hc (by simp)

theorem RefAt.lt {w : World} {rb : Nat} {own : List Nat} {s : Pi.Tb} (h : RefAt w rb own s) : ∀ k ∈ own, k < w.heap.size := by
  obtain ⟨a, n, cap, es, h1, h2, h3, h4, h5, rfl, h7, h8⟩ := h
  intro k hk
  simp only [List.mem_cons, List.mem_append, List.mem_flatMap] at hk
  rcases hk with rfl | hk | ⟨e, he, hk⟩
  · exact lt_of_obj h1
  · exact h2.block_lt k hk
  · exact (h3 e he).lt k hk

/-- THE DOCUMENT'S TABLE, SEEN AT ONE NUMBER. -/
structure RFoc (w : World) (rb : Nat) (own : List Nat) (s : Pi.Tb) (id : Int) (p : Pi.Pp) (g n cap i : Nat) (a1 : Option Addr) (n1 c1 : Nat) (a2 : Option Addr) (n2 c2 : Nat) : Prop where
  place : place s.ps id = i
  lt : i < n
  caps : n ≤ cap ∧ cap ≤ maxLen
  hd : w.cell? ⟨rb, 0, none⟩ = some (.slice (some ⟨g, 0, none⟩) n cap)
  k0 : w.cell? ⟨g, i * 6, none⟩ = some (.int .i64 id)
  k1 : w.cell? ⟨g, i * 6 + 1, none⟩ = some (.int .i64 p.heirs)
  k2 : w.cell? ⟨g, i * 6 + 2, none⟩ = some (.int .i64 p.readers)
  k3 : w.cell? ⟨g, i * 6 + 3, none⟩ = some (.slice a1 n1 c1)
  k4 : w.cell? ⟨g, i * 6 + 4, none⟩ = some (.slice a2 n2 c2)
  k5 : w.cell? ⟨g, i * 6 + 5, none⟩ = some (.string (strB p.b))
  free : ∀ j, w.frozen? ⟨g, j, none⟩ = false
  rfree : ∀ j, w.frozen? ⟨rb, j, none⟩ = false
  lab : LabAt w a1 n1 c1 a2 n2 c2 p.lab
  gown : g ∈ own
  rown : rb ∈ own
  gne : g ≠ rb
  upd : ∀ (w' : World) (q : Pi.Pp) (j : Nat) (v : Value), Chg [] w w' → q.lab = p.lab → j < 6 → ecells id a1 n1 c1 a2 n2 c2 q = (ecells id a1 n1 c1 a2 n2 c2 p).set j v →
    RefAt (w'.setCell ⟨g, i * 6 + j, none⟩ v) rb own { s with ps := Pi.put s.ps id q }
  rem : ∃ cs, (∀ u ∈ cs, u.oneCell' = true) ∧ Row w 71 6 (.slice (some ⟨g, 0, none⟩) n cap) n cs ∧ ∀ (w2 : World) (a' : Option Addr) (n' cap' : Nat), n' + 1 = n → Chg [] w w2 →
    Row w2 71 6 (.slice a' n' cap') n' (cs.take (i * 6) ++ cs.drop ((i + 1) * 6)) → (∀ k ∈ rowBlock (.slice a' n' cap'), w.heap.size ≤ k) →
    ∃ own', RefAt (w2.setCell ⟨rb, 0, none⟩ (.slice a' n' cap')) rb own' { s with ps := Pi.del s.ps id } ∧ ∀ k ∈ own', k ∈ own ∨ w.heap.size ≤ k

theorem Nums.ofRow {w : World} {a : Option Addr} {n c : Nat} {zs : List Int} (h : Row w 3 1 (.slice a n c) n (zs.map (Value.int .i64))) : Nums w a n c zs := by
  obtain ⟨a', c', h1, h2, h3⟩ := h.shape
  cases h1
  exact ⟨by have := h.1; simpa using this, h2, h3, h.src⟩

theorem RefAt.focus {w : World} {rb : Nat} {own : List Nat} {s : Pi.Tb} {id : Int} (h : RefAt w rb own s) :
    (Pi.find s.ps id = none ∧ place s.ps id = -1) ∨ ∃ p g n cap i a1 n1 c1 a2 n2 c2, Pi.find s.ps id = some p ∧ RFoc w rb own s id p g n cap i a1 n1 c1 a2 n2 c2 := by
  rcases place_cases s.ps id with hn | ⟨p, i, hf, hp, hi⟩
  · exact .inl hn
  · right
    obtain ⟨a, n, cap, es, h1, h2, h3, h4, h5, rfl, h7, h8⟩ := h
    have hlen : es.length = n := by have := h2.1; rw [rcells_len] at this; omega
    have hii := hi
    rw [h4, List.getElem?_map] at hi
    obtain ⟨e, he, hep⟩ := Option.map_eq_some_iff.1 hi
    obtain ⟨id', a1, n1, c1, a2, n2, c2, p'⟩ := e
    simp only [Prod.mk.injEq] at hep
    obtain ⟨rfl, rfl⟩ := hep
    have hlt : i < es.length := (List.getElem?_eq_some_iff.1 he).1
    obtain ⟨g, cur, rfl, hg, ht, hc1, hc2⟩ := h2.obj (by omega)
    have hmem := List.mem_of_getElem? he
    have hrows := h3 _ hmem
    have hcell : ∀ j v, j < 6 → (ecells id' a1 n1 c1 a2 n2 c2 p')[j]? = some v → w.cell? ⟨g, i * 6 + j, none⟩ = some v := fun j v hj hv =>
      cells_of_take hg ht (by rw [rcells_get es i j _ he hj]; exact hv)
    have hgb : g ∈ rowBlock (.slice (some ⟨g, 0, none⟩) n cap) := by
      simp only [rowBlock]; rw [if_neg (by omega)]; simp
    have hgr : g ≠ rb := fun e => h7 (by rw [← e, List.mem_append]; exact .inl hgb)
    refine ⟨p', g, n, cap, i, a1, n1, c1, a2, n2, c2, hf, hp, by omega, ⟨hc1, hc2⟩, cell_of_obj h1 (j := 0) rfl, hcell 0 _ (by omega) rfl, hcell 1 _ (by omega) rfl, hcell 2 _ (by omega) rfl, hcell 3 _ (by omega) rfl, hcell 4 _ (by omega) rfl, hcell 5 _ (by omega) rfl, free_of_obj hg, free_of_obj h1, ⟨Nums.ofRow hrows.1, Nums.ofRow hrows.2⟩, ?_, by simp, hgr, ?_, ?_⟩
    · simp only [List.mem_cons, List.mem_append]
      exact .inr (.inl hgb)
    · intro w' q j v hc hq hj hcs
      have hset : Chg [g] w' (w'.setCell ⟨g, i * 6 + j, none⟩ v) := (Chg.refl [g] w').setCell _ _ (by simp)
      have hch : Chg [g] w (w'.setCell ⟨g, i * 6 + j, none⟩ v) := (hc.mono (by simp)).trans hset (by simp)
      have hrow := (h2.kept hc (by simp)).set (by omega) (i * 6 + j) v
      rw [← rcells_set es i j _ ⟨id', a1, n1, c1, a2, n2, c2, q⟩ v he hj hcs] at hrow
      have hbl : (es.set i ⟨id', a1, n1, c1, a2, n2, c2, q⟩).flatMap REnt.blocks = es.flatMap REnt.blocks := by
        have : (es.set i ⟨id', a1, n1, c1, a2, n2, c2, q⟩).map REnt.blocks = es.map REnt.blocks := by
          rw [List.map_set]
          apply List.ext_getElem?
          intro m
          by_cases hm : i = m
          · subst hm
            rw [List.getElem?_set_self (by simpa using hlt), List.getElem?_map, he]
            rfl
          · rw [List.getElem?_set_ne hm]
        rw [List.flatMap_def, List.flatMap_def, this]
      refine ⟨_, n, cap, es.set i ⟨id', a1, n1, c1, a2, n2, c2, q⟩, hch.obj h1 (by simpa using fun e => hgr e.symm), hrow, ?_, ?_, ?_, by rw [hbl], by rw [hbl]; exact h7, by rw [hbl]; exact h8⟩
      · intro e hme
        obtain ⟨m, hm, hme⟩ := List.getElem_of_mem hme
        have hml : m < es.length := by simpa using hm
        rw [List.getElem_set] at hme
        split at hme
        · subst hme
          have hk := REnt.rows.kept (e := ⟨id', a1, n1, c1, a2, n2, c2, p'⟩) hrows hch (fun k hk hkg => h8 g hgb (by
            simp at hkg; subst hkg
            exact List.mem_flatMap.2 ⟨_, hmem, hk⟩))
          refine ⟨?_, ?_⟩
          · have := hk.1; simp only at this ⊢; rw [hq]; exact this
          · have := hk.2; simp only at this ⊢; rw [hq]; exact this
        · subst hme
          exact (h3 _ (List.getElem_mem _)).kept hch (fun k hk hkg => h8 g hgb (by
            simp at hkg; subst hkg
            exact List.mem_flatMap.2 ⟨_, List.getElem_mem _, hk⟩))
      · simp only
        rw [put_at _ i id' p' q h5 hii, h4, List.map_set]
      · simp only
        rw [put_ids]
        exact h5
    · refine ⟨rcells es, rcells_one es, h2, fun w2 a' n' cap' hn' hc hrow hnew => ?_⟩
      rw [rcells_take es i (by omega), rcells_drop es (i + 1) (by omega)] at hrow
      have hset : Chg [rb] w2 (w2.setCell ⟨rb, 0, none⟩ (.slice a' n' cap')) := (Chg.refl [rb] w2).setCell _ _ (by simp)
      have hch : Chg [rb] w (w2.setCell ⟨rb, 0, none⟩ (.slice a' n' cap')) := (hc.mono (by simp)).trans hset (by simp)
      have hsub : ∀ e, e ∈ es.take i ++ es.drop (i + 1) → e ∈ es := fun e he => (List.mem_append.1 he).elim List.mem_of_mem_take List.mem_of_mem_drop
      have hsubb : ∀ k, k ∈ (es.take i ++ es.drop (i + 1)).flatMap REnt.blocks → k ∈ es.flatMap REnt.blocks := fun k hk => by
        obtain ⟨e, he, hk⟩ := List.mem_flatMap.1 hk
        exact List.mem_flatMap.2 ⟨e, hsub e he, hk⟩
      have hlb : ∀ k, k ∈ es.flatMap REnt.blocks → k < w.heap.size := fun k hk => by
        obtain ⟨e, he, hk⟩ := List.mem_flatMap.1 hk
        exact (h3 e he).lt k hk
      have hrbl := lt_of_obj h1
      refine ⟨rb :: (rowBlock (.slice a' n' cap') ++ (es.take i ++ es.drop (i + 1)).flatMap REnt.blocks), ⟨a', n', cap', es.take i ++ es.drop (i + 1), ?_, ?_, ?_, ?_, ?_, rfl, ?_, ?_⟩, ?_⟩
      · exact obj_setCell (hc.obj h1 (by simp)) 0 _
      · rw [show rcells (es.take i ++ es.drop (i + 1)) = rcells (es.take i) ++ rcells (es.drop (i + 1)) from by simp only [rcells, List.flatMap_append]]
        exact hrow.kept hset (fun k hk e => by simp at e; subst e; have := hnew k hk; omega)
      · intro e he
        exact (h3 e (hsub e he)).kept hch (fun k hk e2 => by
          simp at e2; subst e2
          exact h7 (List.mem_append.2 (.inr (List.mem_flatMap.2 ⟨e, hsub e he, hk⟩))))
      · simp only
        rw [del_at _ i id' p' h5 hii, h4, List.map_append, List.map_take, List.map_drop]
      · simp only
        unfold Pi.del
        exact h5.sublist (List.Sublist.map _ List.filter_sublist)
      · rw [List.mem_append]
        rintro (hk | hk)
        · have := hnew _ hk; omega
        · exact h7 (List.mem_append.2 (.inr (hsubb _ hk)))
      · intro k hk hk2
        have := hnew k hk
        have := hlb k (hsubb k hk2)
        omega
      · intro k hk
        simp only [List.mem_cons, List.mem_append] at hk ⊢
        rcases hk with rfl | hk | hk
        · exact .inl (.inl rfl)
        · exact .inr (hnew k hk)
        · exact .inl (.inr (.inr (hsubb k hk)))

end Go.Proofs.Ytihkanbkcnonoaa
