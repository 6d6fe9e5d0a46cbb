/-
  What a reading leaves; a list of kids that grows.
-/
import Derived.Test.YtfgbbmnmblchiaaDoorFail
namespace Go.Proofs.YtfgbbmnmblchiaaDoor
open Go.RowKit
set_option linter.unusedVariables false

theorem Tryd.infoNode : (Tryd.prog.info? 30).map (fun i => (i.zero, i.size, i.bytes)) = some (some (.agg #[.int .i64 0, .slice none 0 0, .string ⟨#[]⟩, .slice none 0 0, .slice none 0 0, .slice none 0 0]), 6, 120) := by kernel_rfl

/-- the tokens' blocks, and those made between two sizes of the heap. -/
def Sn (tv : Value) (vs : List Value) (lo hi : Nat) (k : Nat) : Prop := TB tv vs k ∨ (lo ≤ k ∧ k < hi)

/-- six cells of a node, whatever they are. -/
def Six (cs : List Value) : Prop := ∃ (k : Int) (s : List UInt8) (ka wa sa ra : Option Addr) (kn kc wn wc sn sc rn rc : Nat), cs = [.int .i64 k, .slice ka kn kc, .string (Lx.strB s), .slice wa wn wc, .slice sa sn sc, .slice ra rn rc]

theorem NodeAt.Six {w : World} {S : Nat → Prop} {n : Ps.Node} {cs : List Value} (h : NodeAt w S n cs) : Six cs := by
  obtain ⟨ka, wa, sa, ra, kn, kc, wn, wc, sn, sc, rn, rc, rfl, _⟩ := h.six
  exact ⟨_, _, _, _, _, _, _, _, _, _, _, _, _, _, rfl⟩

theorem Six.one {cs : List Value} (h : Six cs) : cs.length = 6 ∧ ∀ u ∈ cs, u.oneCell' = true := by
  obtain ⟨k, s, ka, wa, sa, ra, kn, kc, wn, wc, sn, sc, rn, rc, rfl⟩ := h
  refine ⟨rfl, fun u hu => ?_⟩
  simp only [List.mem_cons, List.not_mem_nil, or_false] at hu
  rcases hu with rfl | rfl | rfl | rfl | rfl | rfl <;> rfl

/-- what a reading leaves. -/
def RdPost (w : World) (pb : Nat) (a : Option Addr) (c : Nat) (ts : List Lx.Tok) (vs : List Value) (deep : Nat) (r : Ps.Res Ps.Node) (e : Ending) (w' : World) : Prop :=
  match r with
  | .bad er q => ∃ cs, Six cs ∧ e = .returned (.tuple #[.agg cs.toArray, .bool false]) ∧ PS w' pb a c ts vs q deep er ∧ Chg [pb] w w'
  | .ok n q => ∃ cs, NodeAt w' (Sn (.slice a ts.length c) vs w.heap.size w'.heap.size) n cs ∧ e = .returned (.tuple #[.agg cs.toArray, .bool true]) ∧ PS w' pb a c ts vs q deep 0 ∧ Chg [pb] w w'

/-- what a tree's blocks are among while its kids' row grows. -/
def Sk (tv : Value) (vs : List Value) (rb nb : Nat) (kv : Value) (lo hi : Nat) (k : Nat) : Prop := Sn tv vs lo hi k ∧ k ≠ rb ∧ k ≠ nb ∧ k ∉ rowBlock kv

def nodeC (k : Int) (kv : Value) : Array Value := #[.int .i64 k, kv, .string ⟨#[]⟩, .slice none 0 0, .slice none 0 0, .slice none 0 0]

structure KidsAt (w : World) (pb : Nat) (a : Option Addr) (c : Nat) (ts : List Lx.Tok) (vs : List Value) (rb nb : Nat) (k : Int) (q deep : Nat) (acc : List Ps.Node) (kv : Value) (xs : List Value) (wr : World) : Prop where
  ps : PS wr pb a c ts vs q deep 0
  nd : wr.heap[nb]? = some (.cells (nodeC k kv) 30 (0, 0))
  rs : wr.heap[rb]? = some (.cells (nodeC 0 (.slice none 0 0)) 30 (0, 0))
  row : Row wr 30 6 kv acc.length xs
  nodes : NodesAt wr (Sk (.slice a ts.length c) vs rb nb kv w.heap.size wr.heap.size) acc xs
  new : ∀ k ∈ rowBlock kv, w.heap.size ≤ k ∧ k ≠ rb ∧ k ≠ nb
  chg : Chg [pb] w wr
  rb0 : w.heap.size ≤ rb
  nb0 : w.heap.size ≤ nb
  ne : rb ≠ nb
  old : pb < w.heap.size ∧ ∀ k, TB (.slice a ts.length c) vs k → k < w.heap.size
  few : acc.length ≤ q

section
variable {w wr w' : World} {pb : Nat} {a : Option Addr} {c : Nat} {ts : List Lx.Tok} {vs : List Value} {rb nb : Nat} {k : Int} {q deep : Nat} {acc : List Ps.Node} {kv : Value} {xs : List Value}

theorem KidsAt.sk_lt (h : KidsAt w pb a c ts vs rb nb k q deep acc kv xs wr) {j hi : Nat} (hj : Sk (.slice a ts.length c) vs rb nb kv w.heap.size hi j) (hh : wr.heap.size ≤ hi) : j < hi := by
  rcases hj.1 with h1 | h1
  · have := h.old.2 j h1
    have := h.chg.size
    omega
  · exact h1.2

theorem KidsAt.sk_pb (h : KidsAt w pb a c ts vs rb nb k q deep acc kv xs wr) {hi : Nat} : ¬ Sk (.slice a ts.length c) vs rb nb kv w.heap.size hi pb := by
  rintro ⟨h1, _⟩
  rcases h1 with h1 | h1
  · exact h.ps.out h1
  · have := h.old.1
    omega

/-- a call that turns the reader alone. -/
theorem KidsAt.call (h : KidsAt w pb a c ts vs rb nb k q deep acc kv xs wr) (hc : Chg [pb] wr w') {q' : Nat} (hp : PS w' pb a c ts vs q' deep 0) (hq : q ≤ q') : KidsAt w pb a c ts vs rb nb k q' deep acc kv xs w' := by
  have hpb := h.old.1
  have hrb := h.rb0
  have hnb := h.nb0
  exact
    { h with
      ps := hp
      nd := hc.obj h.nd (by simp; omega)
      rs := hc.obj h.rs (by simp; omega)
      row := h.row.kept hc (fun k hk => by have := (h.new k hk).1; simp; omega)
      nodes := NodesAt.mono (fun j hj => ⟨hj.1.imp id (fun h1 => ⟨h1.1, Nat.lt_of_lt_of_le h1.2 hc.size⟩), hj.2⟩) _ _ (NodesAt.kept hc (fun k hk => by simp at hk; subst hk; exact h.sk_pb) _ _ h.nodes)
      chg := h.chg.trans hc (fun x hx => .inl hx)
      few := Nat.le_trans h.few hq }

theorem KidsAt.kept0 (h : KidsAt w pb a c ts vs rb nb k q deep acc kv xs wr) (hc : Chg [] wr w') : KidsAt w pb a c ts vs rb nb k q deep acc kv xs w' := h.call (hc.mono (by simp)) (h.ps.chg0 hc) (Nat.le_refl _)

/-- the tree that a call hands back lies apart. -/
theorem KidsAt.got (h : KidsAt w pb a c ts vs rb nb k q deep acc kv xs wr) {n : Ps.Node} {cs : List Value} (hn : NodeAt w' (Sn (.slice a ts.length c) vs wr.heap.size w'.heap.size) n cs) :
    NodeAt w' (Sk (.slice a ts.length c) vs rb nb kv w.heap.size w'.heap.size) n cs := by
  have h1 := lt_of_obj h.nd
  have h2 := lt_of_obj h.rs
  have h3 := h.rb0
  have h4 := h.nb0
  have h5 := h.chg.size
  refine NodeAt.mono (fun j hj => ?_) _ _ hn
  rcases hj with hj | hj
  · have h6 := h.old.2 j hj
    exact ⟨.inl hj, by omega, by omega, fun hk => by have := (h.new j hk).1; omega⟩
  · exact ⟨.inr ⟨by omega, hj.2⟩, by omega, by omega, fun hk => by have := Row.block_lt h.row j hk; omega⟩

/-- one kid more. -/
theorem KidsAt.add {w1 w2 w3 : World} (h : KidsAt w pb a c ts vs rb nb k q deep acc kv xs w1) {n : Ps.Node} {cs : List Value} {v' : Value} (hn : NodeAt w1 (Sk (.slice a ts.length c) vs rb nb kv w.heap.size w1.heap.size) n cs)
    (h12 : Chg [] w1 w2) (hr : Row w3 30 6 v' (acc.length + 1) (xs ++ cs)) (h23 : Chg (rowBlock kv) w2 w3) (hb : ∀ k ∈ rowBlock v', k ∈ rowBlock kv ∨ w1.heap.size ≤ k) (hf : acc.length + 1 ≤ q) :
    KidsAt w pb a c ts vs rb nb k q deep (acc ++ [n]) v' (xs ++ cs) (w3.setCell ⟨nb, 1, none⟩ v') := by
  have hpb := h.old.1
  have hrb := h.rb0
  have hnb := h.nb0
  have h13 : Chg (rowBlock kv) w1 w3 := (h12.mono (by simp)).trans h23 (fun x hx => .inl hx)
  have hs : Chg [nb] w3 (w3.setCell ⟨nb, 1, none⟩ v') := (Chg.refl [nb] w3).setCell _ _ (.inl (by simp))
  have s1 := h12.size
  have s2 := h13.size
  have s3 := hs.size
  have l1 := lt_of_obj h.nd
  have l2 := lt_of_obj h.rs
  have n1 : ∀ j, j ∈ rowBlock kv → j ≠ pb ∧ ¬ TB (.slice a ts.length c) vs j := fun j hj => by
    have := (h.new j hj).1
    exact ⟨by omega, fun ht => by have := h.old.2 j ht; omega⟩
  have n2 : ∀ j ∈ rowBlock v', w.heap.size ≤ j ∧ j ≠ rb ∧ j ≠ nb := fun j hj => by
    rcases hb j hj with h1 | h1
    · exact h.new j h1
    · have := h.chg.size
      exact ⟨by omega, by omega, by omega⟩
  have hsm : ∀ j, Sk (.slice a ts.length c) vs rb nb kv w.heap.size w1.heap.size j → Sk (.slice a ts.length c) vs rb nb v' w.heap.size (w3.setCell ⟨nb, 1, none⟩ v').heap.size j := fun j hj => by
    have hlt := h.sk_lt hj (Nat.le_refl _)
    refine ⟨hj.1.imp id (fun h1 => ⟨h1.1, by omega⟩), hj.2.1, hj.2.2.1, fun hk => ?_⟩
    rcases hb j hk with h1 | h1
    · exact hj.2.2.2 h1
    · omega
  have hk3 : ∀ j ∈ rowBlock kv, ¬ Sk (.slice a ts.length c) vs rb nb kv w.heap.size w1.heap.size j := fun j hj hS => hS.2.2.2 hj
  have hks : ∀ j ∈ [nb], ¬ Sk (.slice a ts.length c) vs rb nb kv w.heap.size w1.heap.size j := fun j hj hS => by simp at hj; exact hS.2.2.1 hj
  have hN := NodesAt.snoc (NodesAt.kept hs hks _ _ (NodesAt.kept h13 hk3 _ _ h.nodes)) (NodeAt.kept hs hks _ _ (NodeAt.kept h13 hk3 _ _ hn))
  have hP3 : PS w3 pb a c ts vs q deep 0 := h.ps.chg h13 n1
  exact
    { ps := hP3.chg hs (fun j hj => by simp at hj; subst hj; exact ⟨by omega, fun ht => by have := h.old.2 j ht; omega⟩)
      nd := obj_setCell (h13.obj h.nd (fun hj => (h.new _ hj).2.2 rfl)) 1 v'
      rs := hs.obj (h13.obj h.rs (fun hj => (h.new _ hj).2.1 rfl)) (by simp; exact h.ne)
      row := by
        rw [List.length_append, List.length_singleton]
        exact hr.kept hs (fun j hj => by simp; exact (n2 j hj).2.2)
      nodes := NodesAt.mono hsm _ _ hN
      new := n2
      chg := (h.chg.trans h13 (fun x hx => .inr (h.new x hx).1)).trans hs (fun x hx => .inr (by simp at hx; omega))
      rb0 := hrb
      nb0 := hnb
      ne := h.ne
      old := h.old
      few := by rw [List.length_append, List.length_singleton]; exact hf }

theorem KidsAt.setAt (h : KidsAt w pb a c ts vs rb nb k q deep acc kv xs wr) (z : Int) (hz : z = ((q + 1 : Nat) : Int)) (hq : q + 1 ≤ ts.length) : KidsAt w pb a c ts vs rb nb k (q + 1) deep acc kv xs (wr.setCell ⟨pb, 1, none⟩ (.int .i64 z)) :=
  h.call (Chg.setP _ _ _ _) (h.ps.setAt (q + 1) z hz hq) (by omega)

/-- at the end, one kid alone is the answer: its cells stand in the result's block. -/
theorem KidsAt.fin1 (h : KidsAt w pb a c ts vs rb nb k q deep acc kv xs wr) {n : Ps.Node} {cs : List Value} (hn : NodeAt wr (Sk (.slice a ts.length c) vs rb nb kv w.heap.size wr.heap.size) n cs) (hc : Chg [rb] wr w') :
    RdPost w pb a c ts vs deep (.ok n q) (.returned (.tuple #[.agg cs.toArray, .bool true])) w' := by
  have hrb := h.rb0
  refine ⟨cs, NodeAt.mono (fun j hj => ?_) _ _ (NodeAt.kept hc (fun j hj hS => by simp at hj; exact hS.2.1 hj) _ _ hn), rfl, h.ps.chg hc (fun j hj => by simp at hj; subst hj; exact ⟨by have := h.old.1; omega, fun ht => by have := h.old.2 j ht; omega⟩), h.chg.trans hc (fun x hx => .inr (by simp at hx; omega))⟩
  have := hc.size
  exact hj.1.imp id (fun h1 => ⟨h1.1, by omega⟩)

/-- .. all of them, in a node of their own. -/
theorem KidsAt.finN (h : KidsAt w pb a c ts vs rb nb k q deep acc kv xs wr) {ka : Option Addr} {kn kc : Nat} (hv : kv = .slice ka kn kc) (hn : kn = acc.length) (hc : Chg [rb, nb] wr w') :
    RdPost w pb a c ts vs deep (.ok (Ps.node k acc) q) (.returned (.tuple #[.agg (nodeC k (.slice ka kn kn)), .bool true])) w' := by
  subst hv hn
  have hrb := h.rb0
  have hnb := h.nb0
  have hpb := h.old.1
  have hlen := h.row.shape
  obtain ⟨a', cap, hv, hle, _⟩ := hlen
  cases hv
  have hmem : ∀ j ∈ [rb, nb], j = rb ∨ j = nb := fun j hj => by simpa using hj
  have s := hc.size
  have hS : ∀ j ∈ [rb, nb], ¬ Sk (.slice a ts.length c) vs rb nb (.slice ka acc.length kc) w.heap.size wr.heap.size j := fun j hj hS => by
    rcases hmem j hj with h1 | h1
    · exact hS.2.1 h1
    · exact hS.2.2.1 h1
  have hr : Row w' 30 6 (.slice ka acc.length acc.length) acc.length xs := Row.clip (h.row.kept hc (fun j hj hm => by
    rcases hmem j hm with h1 | h1
    · exact (h.new j hj).2.1 h1
    · exact (h.new j hj).2.2 h1))
  have hN := NodesAt.kept hc hS _ _ h.nodes
  refine ⟨_, node_at (Row.sl hr (fun j hj => ?_)) (NodesAt.mono (fun j hj => ?_) _ _ hN), rfl, h.ps.chg hc (fun j hj => ?_), h.chg.trans hc (fun x hx => .inr ?_)⟩
  · have h1 := rowBlock_clip ka acc.length acc.length kc hle j hj
    have h2 := Row.block_lt h.row j h1
    exact .inr ⟨(h.new j h1).1, by omega⟩
  · exact hj.1.imp id (fun h1 => ⟨h1.1, by omega⟩)
  · have : w.heap.size ≤ j := by rcases hmem j hj with h1 | h1 <;> omega
    exact ⟨by omega, fun ht => by have := h.old.2 j ht; omega⟩
  · rcases hmem x hx with h1 | h1 <;> omega

/-- .. or an error. -/
theorem KidsAt.finB (h : KidsAt w pb a c ts vs rb nb k q deep acc kv xs wr) {w1 : World} {er : Int} {q' : Nat} (hp : PS w1 pb a c ts vs q' deep er) (hc : Chg [pb] wr w1) (h2 : Chg [rb] w1 w') :
    RdPost w pb a c ts vs deep (.bad er q') (.returned (.tuple #[.agg (nodeC 0 (.slice none 0 0)), .bool false])) w' := by
  have hrb := h.rb0
  exact ⟨_, ⟨0, [], none, none, none, none, 0, 0, 0, 0, 0, 0, 0, 0, rfl⟩, rfl, hp.chg h2 (fun j hj => by simp at hj; subst hj; exact ⟨by have := h.old.1; omega, fun ht => by have := h.old.2 j ht; omega⟩), (h.chg.trans hc (fun x hx => .inl hx)).trans h2 (fun x hx => .inr (by simp at hx; omega))⟩
end

theorem node_cells {w : World} {b : Nat} {k : Int} {kv : Value} {E : TypeId} (h : w.heap[b]? = some (.cells (nodeC k kv) E (0, 0))) :
    w.cell? ⟨b, 0, none⟩ = some (.int .i64 k) ∧ w.cell? ⟨b, 1, none⟩ = some kv ∧ w.cell? ⟨b, 2, none⟩ = some (.string ⟨#[]⟩) ∧ w.cell? ⟨b, 3, none⟩ = some (.slice none 0 0) ∧ w.cell? ⟨b, 4, none⟩ = some (.slice none 0 0) ∧ w.cell? ⟨b, 5, none⟩ = some (.slice none 0 0) ∧ ∀ j, w.frozen? ⟨b, j, none⟩ = false :=
  ⟨cell_of_obj h rfl, cell_of_obj h rfl, cell_of_obj h rfl, cell_of_obj h rfl, cell_of_obj h rfl, cell_of_obj h rfl, free_of_obj h⟩
theorem node_cells_alloc {w : World} {b : Nat} {k : Int} {kv : Value} {E : TypeId} (h : w.heap[b]? = some (.cells (nodeC k kv) E (0, 0))) :
    (∀ o, (w.alloc o).cell? ⟨b, 0, none⟩ = some (.int .i64 k)) ∧ (∀ o, (w.alloc o).cell? ⟨b, 1, none⟩ = some kv) ∧ (∀ o, (w.alloc o).cell? ⟨b, 2, none⟩ = some (.string ⟨#[]⟩)) ∧ (∀ o, (w.alloc o).cell? ⟨b, 3, none⟩ = some (.slice none 0 0)) ∧ (∀ o, (w.alloc o).cell? ⟨b, 4, none⟩ = some (.slice none 0 0)) ∧ (∀ o, (w.alloc o).cell? ⟨b, 5, none⟩ = some (.slice none 0 0)) ∧ ∀ o j, (w.alloc o).frozen? ⟨b, j, none⟩ = false :=
  ⟨fun o => (node_cells (obj_alloc_old h o)).1, fun o => (node_cells (obj_alloc_old h o)).2.1, fun o => (node_cells (obj_alloc_old h o)).2.2.1, fun o => (node_cells (obj_alloc_old h o)).2.2.2.1, fun o => (node_cells (obj_alloc_old h o)).2.2.2.2.1, fun o => (node_cells (obj_alloc_old h o)).2.2.2.2.2.1, fun o => (node_cells (obj_alloc_old h o)).2.2.2.2.2.2⟩

/-- six cells written. -/
def sixW (w : World) (b : Nat) (v0 v1 v2 v3 v4 v5 : Value) : World := (((((w.setCell ⟨b, 0, none⟩ v0).setCell ⟨b, 1, none⟩ v1).setCell ⟨b, 2, none⟩ v2).setCell ⟨b, 3, none⟩ v3).setCell ⟨b, 4, none⟩ v4).setCell ⟨b, 5, none⟩ v5
theorem Chg.six {F : List Nat} {a w : World} (h : Chg F a w) (b : Nat) (v0 v1 v2 v3 v4 v5 : Value) (hb : b ∈ F ∨ a.heap.size ≤ b) : Chg F a (sixW w b v0 v1 v2 v3 v4 v5) :=
  (((((h.setCell _ _ hb).setCell _ _ hb).setCell _ _ hb).setCell _ _ hb).setCell _ _ hb).setCell _ _ hb

theorem Row.head {w : World} {E : TypeId} {size : Nat} {a : Option Addr} {n m cap : Nat} {xs : List Value} (h : Row w E size (.slice a m cap) n xs) (hn : 0 < n) : ∃ g, a = some ⟨g, 0, none⟩ ∧ ∀ (j : Nat) (u : Value), xs[j]? = some u → w.cell? ⟨g, j, none⟩ = some u := by
  rcases h.2 with ⟨rfl, _⟩ | ⟨g, cap', cur, hv, hg, h3, h4, h5, h6⟩
  · omega
  · cases hv
    exact ⟨g, rfl, fun j u hj => cells_of_take hg h6 hj⟩

theorem srcNew2 (w : World) (o : Obj) (c : Array Value) (E : TypeId) (f : Nat × Nat) : SrcAt ((w.alloc o).alloc (.cells c E f)) (some ⟨w.heap.size + 1, 0, none⟩) c.toList := by
  have e : (w.alloc o).heap.size = w.heap.size + 1 := by simp
  rw [← e]
  exact srcNew _ _ _ _

theorem NodesAt.one {w : World} {S : Nat → Prop} {n : Ps.Node} {xs : List Value} (h : NodesAt w S [n] xs) : NodeAt w S n xs := by
  unfold NodesAt at h
  obtain ⟨cs, ys, rfl, h1, h2⟩ := h
  unfold NodesAt at h2
  subst h2
  rw [List.append_nil]
  exact h1

/-- how it begins. -/
theorem KidsAt.start {w : World} {pb : Nat} {a : Option Addr} {c : Nat} {ts : List Lx.Tok} {vs : List Value} {q deep : Nat} (h : PS w pb a c ts vs q deep 0) (k : Int) :
    KidsAt w pb a c ts vs w.heap.size (w.heap.size + 1) k q deep [] (.slice none 0 0) [] ((w.alloc (.cells (nodeC 0 (.slice none 0 0)) 30)).alloc (.cells (nodeC k (.slice none 0 0)) 30)) := by
  have hc : Chg [] w ((w.alloc (.cells (nodeC 0 (.slice none 0 0)) 30)).alloc (.cells (nodeC k (.slice none 0 0)) 30)) := ((Chg.refl [] w).alloc _).alloc _
  have e : (w.alloc (.cells (nodeC 0 (.slice none 0 0)) 30)).heap.size = w.heap.size + 1 := by simp
  exact
    { ps := h.chg0 hc
      nd := by rw [← e]; exact obj_alloc_new _ _
      rs := obj_alloc_old (obj_alloc_new w _) _
      row := Row.nil _ _ _ _
      nodes := by unfold NodesAt; rfl
      new := by simp [rowBlock]
      chg := hc.mono (by simp)
      rb0 := Nat.le_refl _
      nb0 := by omega
      ne := by omega
      old := ⟨h.lt, h.tb_lt⟩
      few := Nat.zero_le _ }

end Go.Proofs.YtfgbbmnmblchiaaDoor
