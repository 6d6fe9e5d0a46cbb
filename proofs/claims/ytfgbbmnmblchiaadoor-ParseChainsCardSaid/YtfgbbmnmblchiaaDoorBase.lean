/-
  A reading under way: the reader, the result's block; trees held meanwhile.
-/
import Derived.Test.YtfgbbmnmblchiaaDoorList
namespace Go.Proofs.YtfgbbmnmblchiaaDoor
open Go.RowKit
set_option linter.unusedVariables false

structure Base (w : World) (pb : Nat) (a : Option Addr) (c : Nat) (ts : List Lx.Tok) (vs : List Value) (q deep : Nat) (wr : World) : Prop where
  ps : PS wr pb a c ts vs q deep 0
  rs : wr.heap[w.heap.size]? = some (.cells (nodeC 0 (.slice none 0 0)) 30 (0, 0))
  chg : Chg [pb] w wr
  old : pb < w.heap.size ∧ ∀ k, TB (.slice a ts.length c) vs k → k < w.heap.size

section
variable {w wr w' : World} {pb : Nat} {a : Option Addr} {c : Nat} {ts : List Lx.Tok} {vs : List Value} {q deep : Nat} {n : Ps.Node} {cs : List Value}

theorem Base.start (h : PS w pb a c ts vs q deep 0) : Base w pb a c ts vs q deep (w.alloc (.cells (nodeC 0 (.slice none 0 0)) 30)) where
  ps := h.chg0 ((Chg.refl [] w).alloc _)
  rs := obj_alloc_new w _
  chg := (Chg.refl _ _).alloc _
  old := ⟨h.lt, h.tb_lt⟩

theorem Base.call (h : Base w pb a c ts vs q deep wr) (hc : Chg [pb] wr w') {q' : Nat} (hp : PS w' pb a c ts vs q' deep 0) : Base w pb a c ts vs q' deep w' :=
  { h with ps := hp, rs := hc.obj h.rs (by have := h.old.1; simp; omega), chg := h.chg.trans hc (fun x hx => .inl hx) }
theorem Base.kept0 (h : Base w pb a c ts vs q deep wr) (hc : Chg [] wr w') : Base w pb a c ts vs q deep w' := h.call (hc.mono (by simp)) (h.ps.chg0 hc)
theorem Base.setAt (h : Base w pb a c ts vs q deep wr) (z : Int) (hz : z = ((q + 1 : Nat) : Int)) (hq : q + 1 ≤ ts.length) : Base w pb a c ts vs (q + 1) deep (wr.setCell ⟨pb, 1, none⟩ (.int .i64 z)) :=
  h.call (Chg.setP _ _ _ _) (h.ps.setAt (q + 1) z hz hq)
theorem Base.bad (h : Base w pb a c ts vs q deep wr) (hc : Chg [pb] wr w') {q' : Nat} {er : Int} (hp : PS w' pb a c ts vs q' deep er) : BadB w pb a c ts vs w.heap.size q' deep er w' :=
  { ps := hp, rs := hc.obj h.rs (by have := h.old.1; simp; omega), chg := h.chg.trans hc (fun x hx => .inl hx), rb0 := Nat.le_refl _, old := h.old }

/-- a tree held stays. -/
theorem Base.hold (h : Base w pb a c ts vs q deep wr) {lo hi : Nat} (hlo : w.heap.size ≤ lo) (hn : NodeAt wr (Sn (.slice a ts.length c) vs lo hi) n cs) (hc : Chg [pb] wr w') : NodeAt w' (Sn (.slice a ts.length c) vs lo hi) n cs :=
  NodeAt.kept hc (fun j hj hS => by
    simp at hj; subst hj
    rcases hS with h1 | h1
    · exact h.ps.out h1
    · have := h.old.1; omega) _ _ hn
theorem hold0 {lo hi : Nat} {tv : Value} (hn : NodeAt wr (Sn tv vs lo hi) n cs) (hc : Chg [] wr w') : NodeAt w' (Sn tv vs lo hi) n cs := NodeAt.kept hc (by simp) _ _ hn
theorem Sn.up {lo hi lo' hi' : Nat} {tv : Value} (hn : NodeAt wr (Sn tv vs lo hi) n cs) (h1 : lo' ≤ lo) (h2 : hi ≤ hi') : NodeAt wr (Sn tv vs lo' hi') n cs :=
  NodeAt.mono (fun j hj => hj.imp id (fun h => ⟨by omega, by omega⟩)) _ _ hn

/-- a node of kids, in the result's block. -/
theorem Base.fin (h : Base w pb a c ts vs q deep wr) {k : Int} {ns : List Ps.Node} {xs : List Value} {kb m : Nat} (hm : ns.length = m) (h0 : 0 < m) (hs : m ≤ 100000) (hn : NodesAt wr (Sn (.slice a ts.length c) vs (w.heap.size + 1) wr.heap.size) ns xs) (hc : Chg [w.heap.size] wr w')
    (hk : w.heap.size ≤ kb) (hkb : w'.heap[kb]? = some (.cells xs.toArray 30 (0, 0))) :
    RdPost w pb a c ts vs deep (.ok (Ps.node k ns) q) (.returned (.tuple #[.agg (nodeC k (.slice (some ⟨kb, 0, none⟩) m m)), .bool true])) w' := by
  subst hm
  have hlen := NodesAt.len hn
  have hsz := hc.size
  have hrow : Row w' 30 6 (.slice (some ⟨kb, 0, none⟩) ns.length ns.length) ns.length xs :=
    ⟨hlen, .inr ⟨kb, _, _, rfl, hkb, Nat.le_refl _, by unfold maxLen; omega, by simp [hlen], by rw [List.take_of_length_le (by simp [hlen])]⟩⟩
  have hN : NodesAt w' (Sn (.slice a ts.length c) vs w.heap.size w'.heap.size) ns xs := by
    refine NodesAt.mono (fun j hj => hj.imp id (fun h => ⟨by omega, by omega⟩)) _ _ (NodesAt.kept hc (fun j hj hS => ?_) _ _ hn)
    simp at hj; subst hj
    rcases hS with h1 | h1
    · have := h.old.2 _ h1; omega
    · omega
  refine ⟨_, node_at (Row.sl hrow (fun j hj => ?_)) hN, rfl, h.ps.chg hc (fun j hj => ?_), h.chg.trans hc (fun x hx => .inr (by simp at hx; omega))⟩
  · have hj2 : j = kb := by
      simp only [rowBlock] at hj
      split at hj
      · simp at hj
      · simpa using hj
    subst hj2
    exact .inr ⟨hk, lt_of_obj hkb⟩
  · simp at hj; subst hj
    exact ⟨by have := h.old.1; omega, fun ht => by have := h.old.2 _ ht; omega⟩

/-- a tree itself, in the result's block. -/
theorem Base.finT (h : Base w pb a c ts vs q deep wr) (hn : NodeAt wr (Sn (.slice a ts.length c) vs (w.heap.size + 1) wr.heap.size) n cs) (hc : Chg [w.heap.size] wr w') :
    RdPost w pb a c ts vs deep (.ok n q) (.returned (.tuple #[.agg cs.toArray, .bool true])) w' := by
  have hsz := hc.size
  refine ⟨cs, NodeAt.mono (fun j hj => hj.imp id (fun h => ⟨by omega, by omega⟩)) _ _ (NodeAt.kept hc (fun j hj hS => ?_) _ _ hn), rfl, h.ps.chg hc (fun j hj => ?_), h.chg.trans hc (fun x hx => .inr (by simp at hx; omega))⟩
  · simp at hj; subst hj
    rcases hS with h1 | h1
    · have := h.old.2 _ h1; omega
    · omega
  · simp at hj; subst hj
    exact ⟨by have := h.old.1; omega, fun ht => by have := h.old.2 _ ht; omega⟩

/-- an error, with whatever stands in the result's block. -/
theorem BadB.fin6 {er : Int} {rb : Nat} (h : BadB w pb a c ts vs rb q deep er wr) {cs : List Value} (h6 : Six cs) (hc : Chg [rb] wr w') : RdPost w pb a c ts vs deep (.bad er q) (.returned (.tuple #[.agg cs.toArray, .bool false])) w' := by
  have hrb := h.rb0
  exact ⟨_, h6, rfl, h.ps.chg hc (fun j hj => by simp at hj; subst hj; exact ⟨by have := h.old.1; omega, fun ht => by have := h.old.2 j ht; omega⟩), h.chg.trans hc (fun x hx => .inr (by simp at hx; omega))⟩
end

theorem NodesAt.two {w : World} {S : Nat → Prop} {n m : Ps.Node} {cs ms : List Value} (h1 : NodeAt w S n cs) (h2 : NodeAt w S m ms) : NodesAt w S [n, m] (cs ++ ms) :=
  NodesAt.snoc (ns := [n]) (by unfold NodesAt; exact ⟨cs, [], by simp, h1, by unfold NodesAt; rfl⟩) h2
theorem NodesAt.of1 {w : World} {S : Nat → Prop} {n : Ps.Node} {cs : List Value} (h1 : NodeAt w S n cs) : NodesAt w S [n] cs := by
  unfold NodesAt
  exact ⟨cs, [], by simp, h1, by unfold NodesAt; rfl⟩
theorem NodesAt.three {w : World} {S : Nat → Prop} {n m o : Ps.Node} {cs ms os : List Value} (h1 : NodeAt w S n cs) (h2 : NodeAt w S m ms) (h3 : NodeAt w S o os) : NodesAt w S [n, m, o] (cs ++ ms ++ os) :=
  NodesAt.snoc (ns := [n, m]) (NodesAt.two h1 h2) h3

end Go.Proofs.YtfgbbmnmblchiaaDoor
