/-
  A machine in memory.
-/
import Derived.Test.YtocjdbenelikpaaRows
import Derived.Test.YtocjdbenelikpaaSpec
namespace Go.Proofs.Ytocjdbenelikpaa
open Go.RowKit
set_option linter.unusedVariables false

/-- the state in block mb; its code in another block. -/
structure MachAt (w : World) (mb cb co cc : Nat) (m : Vm.M) : Prop where
  obj : w.heap[mb]? = some (.cells (Vm.cells (.slice (some ⟨cb, co, none⟩) (4 * m.n) cc) m) 71 (0, 0))
  code : ∀ i, i < 4 * m.n → w.cell? ⟨cb, co + i, none⟩ = some (byteV (m.code.getD i 0))
  len : m.code.length = 4 * m.n
  cap : 4 * m.n ≤ cc ∧ cc ≤ 9223372036854775807
  n1 : 1 ≤ m.n ∧ m.n ≤ 256
  r8 : m.r.length = 8
  m1k : m.mem.length = 1024
  wf : ∀ i, i < 8 → (Lit.int .i64 (Vm.reg m i)).wf = true
  ne : cb ≠ mb

section
variable {w : World} {mb cb co cc : Nat} {m : Vm.M}

theorem cells_reg (cv : Value) (h8 : m.r.length = 8) {i : Nat} (hi : i < 8) : (Vm.cells cv m)[2 + i]? = some (.int .i64 (Vm.reg m i)) := by
  unfold Vm.cells Vm.reg
  rw [List.getElem?_toArray, show 2 + i = i + 1 + 1 from by omega, List.getElem?_cons_succ, List.getElem?_cons_succ, List.getElem?_append_left (by simp; omega), List.getElem?_map]
  simp [List.getElem?_eq_getElem (show i < m.r.length by omega), List.getD]
theorem cells_mem (cv : Value) (h8 : m.r.length = 8) (h1k : m.mem.length = 1024) {i : Nat} (hi : i < 1024) : (Vm.cells cv m)[10 + i]? = some (byteV (m.mem.getD i 0)) := by
  unfold Vm.cells
  rw [List.getElem?_toArray, show 10 + i = (8 + i) + 1 + 1 from by omega, List.getElem?_cons_succ, List.getElem?_cons_succ, List.getElem?_append_right (by simp; omega), List.getElem?_append_left (by simp; omega), List.getElem?_map]
  simp [h8, List.getElem?_eq_getElem (show i < m.mem.length by omega), List.getD]
theorem cells_pc (cv : Value) (h8 : m.r.length = 8) (h1k : m.mem.length = 1024) : (Vm.cells cv m)[1034]? = some (.int .i64 m.pc) := by
  unfold Vm.cells
  rw [List.getElem?_toArray, List.getElem?_cons_succ, List.getElem?_cons_succ, List.getElem?_append_right (by simp; omega), List.getElem?_append_right (by simp; omega)]
  simp [h8, h1k]
theorem cells_stopped (cv : Value) (h8 : m.r.length = 8) (h1k : m.mem.length = 1024) : (Vm.cells cv m)[1035]? = some (.int .i64 m.stopped) := by
  unfold Vm.cells
  rw [List.getElem?_toArray, List.getElem?_cons_succ, List.getElem?_cons_succ, List.getElem?_append_right (by simp; omega), List.getElem?_append_right (by simp; omega)]
  simp [h8, h1k]

theorem MachAt.reg (h : MachAt w mb cb co cc m) {i : Nat} (hi : i < 8) : w.cell? ⟨mb, 2 + i, none⟩ = some (.int .i64 (Vm.reg m i)) := cell_of_obj h.obj (cells_reg _ h.r8 hi)
theorem MachAt.byte (h : MachAt w mb cb co cc m) {i : Nat} (hi : i < 1024) : w.cell? ⟨mb, 10 + i, none⟩ = some (byteV (m.mem.getD i 0)) := cell_of_obj h.obj (cells_mem _ h.r8 h.m1k hi)
theorem MachAt.pc (h : MachAt w mb cb co cc m) : w.cell? ⟨mb, 1034, none⟩ = some (.int .i64 m.pc) := cell_of_obj h.obj (cells_pc _ h.r8 h.m1k)
theorem MachAt.stopped (h : MachAt w mb cb co cc m) : w.cell? ⟨mb, 1035, none⟩ = some (.int .i64 m.stopped) := cell_of_obj h.obj (cells_stopped _ h.r8 h.m1k)
theorem MachAt.n (h : MachAt w mb cb co cc m) : w.cell? ⟨mb, 1, none⟩ = some (.int .i64 m.n) := cell_of_obj h.obj (by simp [Vm.cells])
theorem MachAt.slice (h : MachAt w mb cb co cc m) : w.cell? ⟨mb, 0, none⟩ = some (.slice (some ⟨cb, co, none⟩) (4 * m.n) cc) := cell_of_obj h.obj (by simp [Vm.cells])
theorem MachAt.free (h : MachAt w mb cb co cc m) (j : Nat) : w.frozen? ⟨mb, j, none⟩ = false := free_of_obj h.obj j

theorem MachAt.kept {w' : World} {F : List Nat} (h : MachAt w mb cb co cc m) (hc : Chg F w w') (h1 : mb ∉ F) (h2 : cb ∉ F) : MachAt w' mb cb co cc m :=
  ⟨hc.obj h.obj h1, fun i hi => hc.cell (h.code i hi) h2, h.len, h.cap, h.n1, h.r8, h.m1k, h.wf, h.ne⟩
theorem MachAt.kept0 {w' : World} (h : MachAt w mb cb co cc m) (hc : Chg [] w w') : MachAt w' mb cb co cc m := h.kept hc (by simp) (by simp)
theorem MachAt.drew (h : MachAt w mb cb co cc m) : MachAt w.drew mb cb co cc m := h.kept0 (Chg.refl [] w).drew

theorem cells_setR (cv : Value) (h8 : m.r.length = 8) {i : Nat} (hi : i < 8) (v : Int) : (Vm.cells cv m).setIfInBounds (2 + i) (.int .i64 v) = Vm.cells cv (Vm.setR m i v) := by
  unfold Vm.cells Vm.setR
  rw [List.setIfInBounds_toArray, show 2 + i = i + 1 + 1 from by omega, List.set_cons_succ, List.set_cons_succ, List.set_append_left _ _ (by simp; omega), List.map_set]
theorem cells_setM (cv : Value) (h8 : m.r.length = 8) (h1k : m.mem.length = 1024) {i : Nat} (hi : i < 1024) (v : UInt8) : (Vm.cells cv m).setIfInBounds (10 + i) (byteV v) = Vm.cells cv (Vm.setM m i v) := by
  unfold Vm.cells Vm.setM
  rw [List.setIfInBounds_toArray, show 10 + i = (8 + i) + 1 + 1 from by omega, List.set_cons_succ, List.set_cons_succ, List.set_append_right _ _ (by simp; omega)]
  congr 4
  rw [List.length_map, h8, show 8 + i - 8 = i from by omega, List.set_append_left _ _ (by simp; omega), List.map_set]
theorem cells_setPc (cv : Value) (h8 : m.r.length = 8) (h1k : m.mem.length = 1024) (v : Int) : (Vm.cells cv m).setIfInBounds 1034 (.int .i64 v) = Vm.cells cv { m with pc := v } := by
  unfold Vm.cells
  rw [List.setIfInBounds_toArray, List.set_cons_succ, List.set_cons_succ, List.set_append_right _ _ (by simp; omega), List.set_append_right _ _ (by simp; omega)]
  simp [h8, h1k]
theorem cells_setStopped (cv : Value) (h8 : m.r.length = 8) (h1k : m.mem.length = 1024) (v : Int) : (Vm.cells cv m).setIfInBounds 1035 (.int .i64 v) = Vm.cells cv { m with stopped := v } := by
  unfold Vm.cells
  rw [List.setIfInBounds_toArray, List.set_cons_succ, List.set_cons_succ, List.set_append_right _ _ (by simp; omega), List.set_append_right _ _ (by simp; omega)]
  simp [h8, h1k]

theorem MachAt.setR (h : MachAt w mb cb co cc m) {i : Nat} (hi : i < 8) (v : Int) (hv : (Lit.int .i64 v).wf = true) : MachAt (w.setCell ⟨mb, 2 + i, none⟩ (.int .i64 v)) mb cb co cc (Vm.setR m i v) := by
  have ho := obj_setCell h.obj (2 + i) (.int .i64 v)
  rw [cells_setR _ h.r8 hi] at ho
  refine ⟨ho, fun j hj => ?_, h.len, h.cap, h.n1, by simp [Vm.setR, h.r8], h.m1k, fun j hj => ?_, h.ne⟩
  · exact ((Chg.refl [mb] w).setCell ⟨mb, 2 + i, none⟩ _ (by simp)).cell (h.code j hj) (by simpa using h.ne)
  · by_cases hij : i = j
    · subst hij
      simp [Vm.reg, Vm.setR, List.getD, h.r8, hi]
      exact hv
    · have := h.wf j hj
      simp only [Vm.reg, Vm.setR, List.getD, List.getElem?_set_ne hij] at this ⊢
      exact this
theorem MachAt.setM (h : MachAt w mb cb co cc m) {i : Nat} (hi : i < 1024) (v : UInt8) : MachAt (w.setCell ⟨mb, 10 + i, none⟩ (byteV v)) mb cb co cc (Vm.setM m i v) := by
  have ho := obj_setCell h.obj (10 + i) (byteV v)
  rw [cells_setM _ h.r8 h.m1k hi] at ho
  exact ⟨ho, fun j hj => ((Chg.refl [mb] w).setCell ⟨mb, 10 + i, none⟩ _ (by simp)).cell (h.code j hj) (by simpa using h.ne), h.len, h.cap, h.n1, h.r8, by simp [Vm.setM, h.m1k], h.wf, h.ne⟩
theorem MachAt.setPc (h : MachAt w mb cb co cc m) (v : Int) : MachAt (w.setCell ⟨mb, 1034, none⟩ (.int .i64 v)) mb cb co cc { m with pc := v } := by
  have ho := obj_setCell h.obj 1034 (.int .i64 v)
  rw [cells_setPc _ h.r8 h.m1k] at ho
  exact ⟨ho, fun j hj => ((Chg.refl [mb] w).setCell ⟨mb, 1034, none⟩ _ (by simp)).cell (h.code j hj) (by simpa using h.ne), h.len, h.cap, h.n1, h.r8, h.m1k, h.wf, h.ne⟩
theorem MachAt.setStopped (h : MachAt w mb cb co cc m) (v : Int) : MachAt (w.setCell ⟨mb, 1035, none⟩ (.int .i64 v)) mb cb co cc { m with stopped := v } := by
  have ho := obj_setCell h.obj 1035 (.int .i64 v)
  rw [cells_setStopped _ h.r8 h.m1k] at ho
  exact ⟨ho, fun j hj => ((Chg.refl [mb] w).setCell ⟨mb, 1035, none⟩ _ (by simp)).cell (h.code j hj) (by simpa using h.ne), h.len, h.cap, h.n1, h.r8, h.m1k, h.wf, h.ne⟩
end

end Go.Proofs.Ytocjdbenelikpaa
