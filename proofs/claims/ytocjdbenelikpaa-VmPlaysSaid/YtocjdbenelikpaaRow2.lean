/-
  Whole arrays by value, into and out of the block made last: as laws of a walk.
-/
import Derived.Test.YtocjdbenelikpaaMem
import Derived.Deep.WholeRow
import Derived.Laws.Rows
namespace Go.Proofs.Ytocjdbenelikpaa
open Go.RowKit
set_option linter.unusedVariables false
variable {P : Program}

theorem wpList_store_new {op : Oper} {rest : List Oper} {ops : Array Oper} {a : Act} {Q : Exit → Act → World → Prop} (w : World) (hgd : op.guard = none) (ty : TypeId) (x y : Operand) (ho : op.op = .store ty x y) (hdst : op.dst = none)
    (c c' : Array Value) (hx : a.eval x = .pointer (some ⟨w.heap.size, 0, none⟩)) (hy : a.eval y = .agg c') (hi : (P.info? ty).map (·.size) = some c'.size) (hs : c.size = c'.size) (h1 : c'.all (·.oneCell') = true)
    (h : wpList P ops Q rest a (w.alloc (.cells c' ty))) : wpList P ops Q (op :: rest) a (w.alloc (.cells c ty)) := by
  refine wpList_plain hgd fun K' hK' => ?_
  have hst := run_storeVar_new (P := P) w ty c c' hi hs h1
  unfold Oper.wp execOp
  simp only [ho, hx, hy, Instr.storeAt, Instr.sureAddr, Sem.run_bind, Sem.run_pure, Result.andThen_ok, hst]
  have e : a.put op.dst undef = a := by rw [hdst]; rfl
  have h2 := hK' a _ h
  rw [← e] at h2
  exact h2

/-- .. into a block that is not the last. -/
theorem wpList_store_row {op : Oper} {rest : List Oper} {ops : Array Oper} {a : Act} {Q : Exit → Act → World → Prop} {w : World} (hgd : op.guard = none) (ty : TypeId) (x y : Operand) (ho : op.op = .store ty x y) (hdst : op.dst = none)
    (g : Nat) (t : TypeId) (c c' : Array Value) (hx : a.eval x = .pointer (some ⟨g, 0, none⟩)) (hy : a.eval y = .agg c') (hg : w.heap[g]? = some (.cells c t (0, 0))) (hi : (P.info? ty).map (·.size) = some c'.size) (hs : c.size = c'.size)
    (h1 : c'.all (·.oneCell') = true) (h : wpList P ops Q rest a (w.setRow g c')) : wpList P ops Q (op :: rest) a w := by
  refine wpList_plain hgd fun K' hK' => ?_
  have hst := run_storeVar_row (P := P) w g t ty c c' hg hi hs h1
  unfold Oper.wp execOp
  simp only [ho, hx, hy, Instr.storeAt, Instr.sureAddr, Sem.run_bind, Sem.run_pure, Result.andThen_ok, hst]
  have e : a.put op.dst undef = a := by rw [hdst]; rfl
  have h2 := hK' a _ h
  rw [← e] at h2
  exact h2

theorem Chg.setRow {F : List Nat} {a w : World} (h : Chg F a w) (g : Nat) (cs : Array Value) (hp : g ∈ F ∨ a.heap.size ≤ g) : Chg F a (w.setRow g cs) :=
  h.trans (G := [g]) ⟨rfl, rfl, rfl, by simp, fun k _ hn => setRow_other w g k cs (by simpa using hn)⟩ (by simpa using hp)

end Go.Proofs.Ytocjdbenelikpaa
