/-
  The document's machine in memory: the same plain machine, its code and its bytes as strings.
-/
import Derived.Test.YtocjdbenelikpaaRefV
import Derived.Test.YtocjdbenelikpaaLoad
namespace Go.Proofs.Ytocjdbenelikpaa
open Go.RowKit
set_option linter.unusedVariables false

/-- its cells. -/
def refCells (m : Vm.M) : Array Value :=
  (.string (strB m.code) :: .int .i64 m.n :: (m.r.map (Value.int .i64) ++ [.string (strB m.mem), .int .i64 m.pc, .int .i64 m.stopped])).toArray

structure RefAt (w : World) (rb : Nat) (m : Vm.M) : Prop where
  obj : w.heap[rb]? = some (.cells (refCells m) 58 (0, 0))
  len : m.code.length = 4 * m.n
  n1 : 1 ≤ m.n ∧ m.n ≤ 256
  r8 : m.r.length = 8
  m1k : m.mem.length = 1024
  wf : ∀ i, i < 8 → (Lit.int .i64 (Vm.reg m i)).wf = true

section
variable {w : World} {rb : Nat} {m : Vm.M}

theorem refCells_reg (h8 : m.r.length = 8) {i : Nat} (hi : i < 8) : (refCells m)[2 + i]? = some (.int .i64 (Vm.reg m i)) := by
  unfold refCells Vm.reg
  rw [List.getElem?_toArray, show 2 + i = i + 1 + 1 from by omega, List.getElem?_cons_succ, List.getElem?_cons_succ, List.getElem?_append_left (by simp; omega), List.getElem?_map]
  simp [List.getElem?_eq_getElem (show i < m.r.length by omega), List.getD]
theorem refCells_tail (h8 : m.r.length = 8) (j : Nat) : (refCells m)[10 + j]? = [Value.string (strB m.mem), .int .i64 m.pc, .int .i64 m.stopped][j]? := by
  unfold refCells
  rw [List.getElem?_toArray, show 10 + j = (8 + j) + 1 + 1 from by omega, List.getElem?_cons_succ, List.getElem?_cons_succ, List.getElem?_append_right (by simp; omega)]
  simp [h8]

theorem RefAt.code (h : RefAt w rb m) : w.cell? ⟨rb, 0, none⟩ = some (.string (strB m.code)) := cell_of_obj h.obj (by simp [refCells])
theorem RefAt.n (h : RefAt w rb m) : w.cell? ⟨rb, 1, none⟩ = some (.int .i64 m.n) := cell_of_obj h.obj (by simp [refCells])
theorem RefAt.reg (h : RefAt w rb m) {i : Nat} (hi : i < 8) : w.cell? ⟨rb, 2 + i, none⟩ = some (.int .i64 (Vm.reg m i)) := cell_of_obj h.obj (refCells_reg h.r8 hi)
theorem RefAt.mem (h : RefAt w rb m) : w.cell? ⟨rb, 10, none⟩ = some (.string (strB m.mem)) := cell_of_obj h.obj (refCells_tail h.r8 0)
theorem RefAt.pc (h : RefAt w rb m) : w.cell? ⟨rb, 11, none⟩ = some (.int .i64 m.pc) := cell_of_obj h.obj (refCells_tail h.r8 1)
theorem RefAt.stopped (h : RefAt w rb m) : w.cell? ⟨rb, 12, none⟩ = some (.int .i64 m.stopped) := cell_of_obj h.obj (refCells_tail h.r8 2)
theorem RefAt.free (h : RefAt w rb m) (j : Nat) : w.frozen? ⟨rb, j, none⟩ = false := free_of_obj h.obj j

theorem RefAt.kept {w' : World} {F : List Nat} (h : RefAt w rb m) (hc : Chg F w w') (h1 : rb ∉ F) : RefAt w' rb m := ⟨hc.obj h.obj h1, h.len, h.n1, h.r8, h.m1k, h.wf⟩
theorem RefAt.kept0 {w' : World} (h : RefAt w rb m) (hc : Chg [] w w') : RefAt w' rb m := h.kept hc (by simp)
theorem RefAt.drew (h : RefAt w rb m) : RefAt w.drew rb m := h.kept0 (Chg.refl [] w).drew

theorem refCells_setR (h8 : m.r.length = 8) {i : Nat} (hi : i < 8) (v : Int) : (refCells m).setIfInBounds (2 + i) (.int .i64 v) = refCells (Vm.setR m i v) := by
  unfold refCells Vm.setR
  rw [List.setIfInBounds_toArray, show 2 + i = i + 1 + 1 from by omega, List.set_cons_succ, List.set_cons_succ, List.set_append_left _ _ (by simp; omega), List.map_set]
theorem refCells_setTail (h8 : m.r.length = 8) (j : Nat) (v : Value) : (refCells m).setIfInBounds (10 + j) v =
    (.string (strB m.code) :: .int .i64 m.n :: (m.r.map (Value.int .i64) ++ [Value.string (strB m.mem), .int .i64 m.pc, .int .i64 m.stopped].set j v)).toArray := by
  unfold refCells
  rw [List.setIfInBounds_toArray, show 10 + j = (8 + j) + 1 + 1 from by omega, List.set_cons_succ, List.set_cons_succ, List.set_append_right _ _ (by simp; omega)]
  simp [h8]

theorem RefAt.setR (h : RefAt w rb m) {i : Nat} (hi : i < 8) (v : Int) (hv : (Lit.int .i64 v).wf = true) : RefAt (w.setCell ⟨rb, 2 + i, none⟩ (.int .i64 v)) rb (Vm.setR m i v) := by
  have ho := obj_setCell h.obj (2 + i) (.int .i64 v)
  rw [refCells_setR h.r8 hi] at ho
  refine ⟨ho, h.len, h.n1, by simp [Vm.setR, h.r8], h.m1k, fun j hj => ?_⟩
  by_cases hij : i = j
  · subst hij
    simp [Vm.reg, Vm.setR, List.getD, h.r8, hi]
    exact hv
  · have := h.wf j hj
    simp only [Vm.reg, Vm.setR, List.getD, List.getElem?_set_ne hij] at this ⊢
    exact this
theorem RefAt.setMem (h : RefAt w rb m) (ys : List UInt8) (hl : ys.length = 1024) : RefAt (w.setCell ⟨rb, 10, none⟩ (.string (strB ys))) rb { m with mem := ys } := by
  have ho := obj_setCell h.obj (10 + 0) (.string (strB ys))
  rw [refCells_setTail h.r8] at ho
  exact ⟨ho, h.len, h.n1, h.r8, hl, h.wf⟩
theorem RefAt.setPc (h : RefAt w rb m) (v : Int) : RefAt (w.setCell ⟨rb, 11, none⟩ (.int .i64 v)) rb { m with pc := v } := by
  have ho := obj_setCell h.obj (10 + 1) (.int .i64 v)
  rw [refCells_setTail h.r8] at ho
  exact ⟨ho, h.len, h.n1, h.r8, h.m1k, h.wf⟩
theorem RefAt.setStopped (h : RefAt w rb m) (v : Int) : RefAt (w.setCell ⟨rb, 12, none⟩ (.int .i64 v)) rb { m with stopped := v } := by
  have ho := obj_setCell h.obj (10 + 2) (.int .i64 v)
  rw [refCells_setTail h.r8] at ho
  exact ⟨ho, h.len, h.n1, h.r8, h.m1k, h.wf⟩
end

end Go.Proofs.Ytocjdbenelikpaa
