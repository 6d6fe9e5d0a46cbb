/-
  A node that is built up link by link: its memory.
-/
import Derived.Test.YtfgbbmnmblchiaaDoorPipe
namespace Go.Proofs.YtfgbbmnmblchiaaDoor
open Go.RowKit
set_option linter.unusedVariables false

abbrev So (tv : Value) (vs : List Value) (rb nb : Nat) (lo hi : Nat) (k : Nat) : Prop := Sk tv vs rb nb (.slice none 0 0) lo hi k

structure NodeB (w : World) (pb : Nat) (a : Option Addr) (c : Nat) (ts : List Lx.Tok) (vs : List Value) (rb nb : Nat) (q deep : Nat) (n : Ps.Node) (cs : List Value) (wr : World) : Prop where
  ps : PS wr pb a c ts vs q deep 0
  nd : wr.heap[nb]? = some (.cells cs.toArray 30 (0, 0))
  rs : wr.heap[rb]? = some (.cells (nodeC 0 (.slice none 0 0)) 30 (0, 0))
  node : NodeAt wr (So (.slice a ts.length c) vs rb nb w.heap.size wr.heap.size) n cs
  chg : Chg [pb] w wr
  rb0 : w.heap.size ≤ rb
  nb0 : w.heap.size ≤ nb
  ne : rb ≠ nb
  old : pb < w.heap.size ∧ ∀ k, TB (.slice a ts.length c) vs k → k < w.heap.size

/-- an error, on the way out. -/
structure BadB (w : World) (pb : Nat) (a : Option Addr) (c : Nat) (ts : List Lx.Tok) (vs : List Value) (rb : Nat) (q deep : Nat) (er : Int) (wr : World) : Prop where
  ps : PS wr pb a c ts vs q deep er
  rs : wr.heap[rb]? = some (.cells (nodeC 0 (.slice none 0 0)) 30 (0, 0))
  chg : Chg [pb] w wr
  rb0 : w.heap.size ≤ rb
  old : pb < w.heap.size ∧ ∀ k, TB (.slice a ts.length c) vs k → k < w.heap.size

theorem six_obj {w : World} {b : Nat} {E : TypeId} {x0 x1 x2 x3 x4 x5 : Value} (h : w.heap[b]? = some (.cells #[x0, x1, x2, x3, x4, x5] E (0, 0))) (v0 v1 v2 v3 v4 v5 : Value) : (sixW w b v0 v1 v2 v3 v4 v5).heap[b]? = some (.cells #[v0, v1, v2, v3, v4, v5] E (0, 0)) :=
  obj_setCell (obj_setCell (obj_setCell (obj_setCell (obj_setCell (obj_setCell h 0 v0) 1 v1) 2 v2) 3 v3) 4 v4) 5 v5
theorem six_size (w : World) (b : Nat) (v0 v1 v2 v3 v4 v5 : Value) : (sixW w b v0 v1 v2 v3 v4 v5).heap.size = w.heap.size := by simp [sixW, World.setCell]

theorem six_cells {w : World} {b : Nat} {E : TypeId} {x0 x1 x2 x3 x4 x5 : Value} (h : w.heap[b]? = some (.cells #[x0, x1, x2, x3, x4, x5] E (0, 0))) :
    w.cell? ⟨b, 0, none⟩ = some x0 ∧ w.cell? ⟨b, 1, none⟩ = some x1 ∧ w.cell? ⟨b, 2, none⟩ = some x2 ∧ w.cell? ⟨b, 3, none⟩ = some x3 ∧ w.cell? ⟨b, 4, none⟩ = some x4 ∧ w.cell? ⟨b, 5, none⟩ = some x5 ∧ ∀ j, w.frozen? ⟨b, j, none⟩ = false :=
  ⟨cell_of_obj h rfl, cell_of_obj h rfl, cell_of_obj h rfl, cell_of_obj h rfl, cell_of_obj h rfl, cell_of_obj h rfl, free_of_obj h⟩

theorem six_alloc_new (w : World) (b : Nat) (v0 v1 v2 v3 v4 v5 : Value) (o : Obj) : ((sixW w b v0 v1 v2 v3 v4 v5).alloc o).heap[w.heap.size]? = some o := by
  have := obj_alloc_new (sixW w b v0 v1 v2 v3 v4 v5) o
  rwa [six_size] at this
theorem six_cells_alloc {w : World} {b : Nat} {E : TypeId} {x0 x1 x2 x3 x4 x5 : Value} (h : w.heap[b]? = some (.cells #[x0, x1, x2, x3, x4, x5] E (0, 0))) :
    (∀ o, (w.alloc o).cell? ⟨b, 0, none⟩ = some x0) ∧ (∀ o, (w.alloc o).cell? ⟨b, 1, none⟩ = some x1) ∧ (∀ o, (w.alloc o).cell? ⟨b, 2, none⟩ = some x2) ∧ (∀ o, (w.alloc o).cell? ⟨b, 3, none⟩ = some x3) ∧ (∀ o, (w.alloc o).cell? ⟨b, 4, none⟩ = some x4) ∧ (∀ o, (w.alloc o).cell? ⟨b, 5, none⟩ = some x5) ∧ ∀ o j, (w.alloc o).frozen? ⟨b, j, none⟩ = false :=
  ⟨fun o => (six_cells (obj_alloc_old h o)).1, fun o => (six_cells (obj_alloc_old h o)).2.1, fun o => (six_cells (obj_alloc_old h o)).2.2.1, fun o => (six_cells (obj_alloc_old h o)).2.2.2.1, fun o => (six_cells (obj_alloc_old h o)).2.2.2.2.1, fun o => (six_cells (obj_alloc_old h o)).2.2.2.2.2.1, fun o => (six_cells (obj_alloc_old h o)).2.2.2.2.2.2⟩

section
variable {w wr w' : World} {pb : Nat} {a : Option Addr} {c : Nat} {ts : List Lx.Tok} {vs : List Value} {rb nb : Nat} {q deep : Nat} {n : Ps.Node} {cs : List Value}

theorem NodeB.so_pb (h : NodeB w pb a c ts vs rb nb q deep n cs wr) {hi : Nat} : ¬ So (.slice a ts.length c) vs rb nb w.heap.size hi pb := by
  rintro ⟨h1, _⟩
  rcases h1 with h1 | h1
  · exact h.ps.out h1
  · have := h.old.1
    omega

theorem NodeB.call (h : NodeB w pb a c ts vs rb nb q deep n cs wr) (hc : Chg [pb] wr w') {q' : Nat} (hp : PS w' pb a c ts vs q' deep 0) : NodeB w pb a c ts vs rb nb q' deep n cs w' := by
  have hpb := h.old.1
  have hrb := h.rb0
  have hnb := h.nb0
  exact
    { h with
      ps := hp
      nd := hc.obj h.nd (by simp; omega)
      rs := hc.obj h.rs (by simp; omega)
      node := NodeAt.mono (fun j hj => ⟨hj.1.imp id (fun h1 => ⟨h1.1, Nat.lt_of_lt_of_le h1.2 hc.size⟩), hj.2⟩) _ _ (NodeAt.kept hc (fun k hk => by simp at hk; subst hk; exact h.so_pb) _ _ h.node)
      chg := h.chg.trans hc (fun x hx => .inl hx) }

theorem NodeB.kept0 (h : NodeB w pb a c ts vs rb nb q deep n cs wr) (hc : Chg [] wr w') : NodeB w pb a c ts vs rb nb q deep n cs w' := h.call (hc.mono (by simp)) (h.ps.chg0 hc)

theorem NodeB.setAt (h : NodeB w pb a c ts vs rb nb q deep n cs wr) (z : Int) (hz : z = ((q + 1 : Nat) : Int)) (hq : q + 1 ≤ ts.length) : NodeB w pb a c ts vs rb nb (q + 1) deep n cs (wr.setCell ⟨pb, 1, none⟩ (.int .i64 z)) :=
  h.call (Chg.setP _ _ _ _) (h.ps.setAt (q + 1) z hz hq)

/-- how it begins: the result's block laid, a call, its answer laid down. -/
theorem NodeB.start {w1 : World} (h : PS w pb a c ts vs q deep 0) {q' : Nat} (hp : PS w1 pb a c ts vs q' deep 0) (hc : Chg [pb] (w.alloc (.cells (nodeC 0 (.slice none 0 0)) 30)) w1)
    (hn : NodeAt w1 (Sn (.slice a ts.length c) vs (w.alloc (.cells (nodeC 0 (.slice none 0 0)) 30)).heap.size w1.heap.size) n cs) : NodeB w pb a c ts vs w.heap.size w1.heap.size q' deep n cs (w1.alloc (.cells cs.toArray 30)) := by
  have hlt := h.lt
  have e : (w.alloc (.cells (nodeC 0 (.slice none 0 0)) 30)).heap.size = w.heap.size + 1 := by simp
  have hs := hc.size
  rw [e] at hs hn
  have ha : Chg [] w1 (w1.alloc (.cells cs.toArray 30)) := (Chg.refl _ _).alloc _
  have hs2 := ha.size
  exact
    { ps := hp.chg0 ha
      nd := obj_alloc_new _ _
      rs := obj_alloc_old (hc.obj (obj_alloc_new w _) (by simp; omega)) _
      node := NodeAt.mono (fun j hj => by
        rcases hj with hj | hj
        · have := h.tb_lt j hj
          exact ⟨.inl hj, by omega, by omega, by simp [rowBlock]⟩
        · exact ⟨.inr ⟨by omega, by omega⟩, by omega, by omega, by simp [rowBlock]⟩) _ _ (NodeAt.kept ha (by simp) _ _ hn)
      chg := ((((Chg.refl [pb] w).alloc _).trans hc (fun x hx => .inl hx))).then0 ha
      rb0 := Nat.le_refl _
      nb0 := by omega
      ne := by omega
      old := ⟨h.lt, h.tb_lt⟩ }

/-- the node handed back. -/
theorem NodeB.fin (h : NodeB w pb a c ts vs rb nb q deep n cs wr) (hc : Chg [rb] wr w') : RdPost w pb a c ts vs deep (.ok n q) (.returned (.tuple #[.agg cs.toArray, .bool true])) w' := by
  have hrb := h.rb0
  refine ⟨cs, NodeAt.mono (fun j hj => ?_) _ _ (NodeAt.kept hc (fun j hj hS => by simp at hj; exact hS.2.1 hj) _ _ h.node), rfl, h.ps.chg hc (fun j hj => by simp at hj; subst hj; exact ⟨by have := h.old.1; omega, fun ht => by have := h.old.2 j ht; omega⟩), h.chg.trans hc (fun x hx => .inr (by simp at hx; omega))⟩
  have := hc.size
  exact hj.1.imp id (fun h1 => ⟨h1.1, by omega⟩)

theorem BadB.fin {er : Int} (h : BadB w pb a c ts vs rb q deep er wr) (hc : Chg [rb] wr w') : RdPost w pb a c ts vs deep (.bad er q) (.returned (.tuple #[.agg (nodeC 0 (.slice none 0 0)), .bool false])) w' := by
  have hrb := h.rb0
  exact ⟨_, ⟨0, [], none, none, none, none, 0, 0, 0, 0, 0, 0, 0, 0, rfl⟩, rfl, h.ps.chg hc (fun j hj => by simp at hj; subst hj; exact ⟨by have := h.old.1; omega, fun ht => by have := h.old.2 j ht; omega⟩), h.chg.trans hc (fun x hx => .inr (by simp at hx; omega))⟩

theorem BadB.kept0 {er : Int} (h : BadB w pb a c ts vs rb q deep er wr) (hc : Chg [] wr w') : BadB w pb a c ts vs rb q deep er w' :=
  { h with ps := h.ps.chg0 hc, rs := hc.obj h.rs (by simp), chg := h.chg.then0 hc }

/-- a call that fails. -/
theorem NodeB.bad (h : NodeB w pb a c ts vs rb nb q deep n cs wr) {w2 w3 W : World} {q' : Nat} {er : Int} {tb : Nat} (h2 : Chg [] wr w2) (hp : PS w3 pb a c ts vs q' deep er) (h3 : Chg [pb] w2 w3) (hW : Chg [tb, nb] w3 W) (ht : wr.heap.size ≤ tb) : BadB w pb a c ts vs rb q' deep er W := by
  have hpb := h.old.1
  have hrb := h.rb0
  have hnb := h.nb0
  have l1 := lt_of_obj h.rs
  have s := h.chg.size
  have hm : ∀ j ∈ [tb, nb], j = tb ∨ j = nb := fun j hj => by simpa using hj
  have hne := h.ne
  exact
    { ps := hp.chg hW (fun j hj => by
        have : w.heap.size ≤ j := by rcases hm j hj with h1 | h1 <;> omega
        exact ⟨by omega, fun ht => by have := h.old.2 j ht; omega⟩)
      rs := hW.obj (h3.obj (h2.obj h.rs (by simp)) (by simp; omega)) (by simp; omega)
      chg := ((h.chg.then0 h2).trans h3 (fun x hx => .inl hx)).trans hW (fun x hx => .inr (by rcases hm x hx with h1 | h1 <;> omega))
      rb0 := hrb
      old := h.old }

/-- two nodes joined. -/
theorem NodeB.link (h : NodeB w pb a c ts vs rb nb q deep n cs wr) {w2 w3 W : World} {q' : Nat} {m : Ps.Node} {ms : List Value} {tb kb : Nat} {k : Int} (h2 : Chg [] wr w2) (hp : PS w3 pb a c ts vs q' deep 0) (h3 : Chg [pb] w2 w3)
    (hm : NodeAt w3 (Sn (.slice a ts.length c) vs w2.heap.size w3.heap.size) m ms) (hW : Chg [tb, nb] w3 W) (ht : wr.heap.size ≤ tb) (ht2 : tb < w2.heap.size) (hk : w3.heap.size ≤ kb)
    (hnb : W.heap[nb]? = some (.cells (nodeC k (.slice (some ⟨kb, 0, none⟩) 2 2)) 30 (0, 0))) (hkb : W.heap[kb]? = some (.cells (cs ++ ms).toArray 30 (0, 0))) :
    NodeB w pb a c ts vs rb nb q' deep (Ps.node k [n, m]) [.int .i64 k, .slice (some ⟨kb, 0, none⟩) 2 2, .string ⟨#[]⟩, .slice none 0 0, .slice none 0 0, .slice none 0 0] W := by
  have hpb := h.old.1
  have hrb := h.rb0
  have hnb0 := h.nb0
  have l1 := lt_of_obj h.rs
  have l2 := lt_of_obj h.nd
  have l3 := lt_of_obj hkb
  have s := h.chg.size
  have s2 := h2.size
  have s3 := h3.size
  have sW := hW.size
  have hmem : ∀ j ∈ [tb, nb], j = tb ∨ j = nb := fun j hj => by simpa using hj
  have hne := h.ne
  have hn1 : NodeAt W (So (.slice a ts.length c) vs rb nb w.heap.size W.heap.size) n cs := by
    have hlt : ∀ j, So (.slice a ts.length c) vs rb nb w.heap.size wr.heap.size j → j < wr.heap.size := fun j hj => by
      rcases hj.1 with h1 | h1
      · have := h.old.2 j h1; omega
      · exact h1.2
    refine NodeAt.mono (fun j hj => ⟨hj.1.imp id (fun h1 => ⟨h1.1, by omega⟩), hj.2⟩) _ _ (NodeAt.kept hW (fun j hj hS => ?_) _ _ (NodeAt.kept h3 (fun j hj hS => ?_) _ _ (NodeAt.kept h2 (by simp) _ _ h.node)))
    · rcases hmem j hj with h1 | h1
      · have := hlt j hS; omega
      · exact hS.2.2.1 h1
    · simp at hj; subst hj; exact h.so_pb hS
  have hm1 : NodeAt W (So (.slice a ts.length c) vs rb nb w.heap.size W.heap.size) m ms := by
    refine NodeAt.mono (fun j hj => ?_) _ _ (NodeAt.kept hW (fun j hj hS => ?_) _ _ hm)
    · rcases hj with h1 | h1
      · have := h.old.2 j h1
        exact ⟨.inl h1, by omega, by omega, by simp [rowBlock]⟩
      · exact ⟨.inr ⟨by omega, by omega⟩, by omega, by omega, by simp [rowBlock]⟩
    · rcases hS with h4 | h4
      · have := h.old.2 j h4
        rcases hmem j hj with h1 | h1 <;> omega
      · rcases hmem j hj with h1 | h1 <;> omega
  have hcs := hn1.one.1
  have hms := hm1.one.1
  have hrow : Row W 30 6 (.slice (some ⟨kb, 0, none⟩) 2 2) 2 (cs ++ ms) :=
    ⟨by rw [List.length_append, hcs, hms], .inr ⟨kb, 2, _, rfl, hkb, Nat.le_refl _, by unfold maxLen; omega, by simp [hcs, hms], by rw [List.take_of_length_le (by simp [hcs, hms])]⟩⟩
  exact
    { ps := hp.chg hW (fun j hj => by
        have : w.heap.size ≤ j := by rcases hmem j hj with h1 | h1 <;> omega
        exact ⟨by omega, fun ht => by have := h.old.2 j ht; omega⟩)
      nd := hnb
      rs := hW.obj (h3.obj (h2.obj h.rs (by simp)) (by simp; omega)) (by simp; omega)
      node := node_at (Row.sl hrow (fun j hj => by
          have : j = kb := by simpa [rowBlock] using hj
          subst this
          exact ⟨.inr ⟨by omega, l3⟩, by omega, by omega, by simp [rowBlock]⟩)) (NodesAt.snoc (ns := [n]) (by unfold NodesAt; exact ⟨cs, [], by simp, hn1, by unfold NodesAt; rfl⟩) hm1)
      chg := ((h.chg.then0 h2).trans h3 (fun x hx => .inl hx)).trans hW (fun x hx => .inr (by rcases hmem x hx with h1 | h1 <;> omega))
      rb0 := hrb
      nb0 := hnb0
      ne := hne
      old := h.old }
end

end Go.Proofs.YtfgbbmnmblchiaaDoor
