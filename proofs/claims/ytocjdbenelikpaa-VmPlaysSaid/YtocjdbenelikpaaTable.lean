/-
  The codes' fields: table, walked.
-/
import Derived.Test.YtocjdbenelikpaaOpA
import Derived.Test.YtocjdbenelikpaaRow2
namespace Go.Proofs.Ytocjdbenelikpaa
open Go.RowKit
set_option linter.unusedVariables false

/-- which of x, y, k a code has; is k an instruction? -/
def flds : List (Bool × Bool × Bool × Bool) :=
  let none := (false, false, false, false)
  let xk := (true, false, true, false)
  let xy := (true, true, false, false)
  let j := (false, false, true, true)
  let xj := (true, false, true, true)
  [none, none, xk, xy, xy, xy, xy, xy, xy, xy, xy, xy, xk, xk, xy, xy, j, xj, xj, xy, xy, xk]
def tabCells : Array Value := (flds.flatMap fun f => [Value.bool f.1, .bool f.2.1, .bool f.2.2.1, .bool f.2.2.2]).toArray

set_option maxHeartbeats 4000000 in
set_option maxRecDepth 100000 in
theorem table_any (w : World) : Calls Try.prog 36 #[] w fun e w' => e = .returned (.agg tabCells) ∧ Chg [] w w' := by
  go_enter Try.func36, Try.ntmps36
  go_wp2_with (refine wpList_store_row (t := 79) rfl 79 _ _ rfl rfl w.heap.size _ tabCells rfl rfl (by repeat (first | exact heap_alloc_new _ _ | refine obj_alloc_old ?_ _)) (by kernel_rfl) (by kernel_rfl) (by kernel_rfl) ?_)
  refine bodyPost_ret (v := .agg tabCells) (results_cell_row rfl _ _ w.heap.size _ tabCells (0, 0) _ rfl (setRow_heap _ _ _ _ _ _ (by repeat (first | exact heap_alloc_new _ _ | refine obj_alloc_old ?_ _))) Try.underlying79 rfl (by kernel_rfl)) rfl ⟨rfl, ?_⟩
  exact ((((((((Chg.refl [] w).alloc _).alloc _).alloc _).alloc _).alloc _).alloc _)).setRow _ _ (.inr (Nat.le_refl _))

/-- the table in a block. -/
def TabAt (w : World) (tb : Nat) : Prop := w.heap[tb]? = some (.cells tabCells 79 (0, 0))
def fld (c : Nat) : Bool × Bool × Bool × Bool := flds.getD c (false, false, false, false)

theorem TabAt.cells {w : World} {tb : Nat} (h : TabAt w tb) {c : Nat} (hc : c < 22) :
    w.cell? ⟨tb, c * 4, none⟩ = some (.bool (fld c).1) ∧ w.cell? ⟨tb, c * 4 + 1, none⟩ = some (.bool (fld c).2.1) ∧ w.cell? ⟨tb, c * 4 + 2, none⟩ = some (.bool (fld c).2.2.1) ∧ w.cell? ⟨tb, c * 4 + 3, none⟩ = some (.bool (fld c).2.2.2) := by
  have key : ∀ c, c < 22 → tabCells[c * 4]? = some (.bool (fld c).1) ∧ tabCells[c * 4 + 1]? = some (.bool (fld c).2.1) ∧ tabCells[c * 4 + 2]? = some (.bool (fld c).2.2.1) ∧ tabCells[c * 4 + 3]? = some (.bool (fld c).2.2.2) := by
    intro c hc
    match c, hc with
    | 0, _ => exact ⟨rfl, rfl, rfl, rfl⟩
    | 1, _ => exact ⟨rfl, rfl, rfl, rfl⟩
    | 2, _ => exact ⟨rfl, rfl, rfl, rfl⟩
    | 3, _ => exact ⟨rfl, rfl, rfl, rfl⟩
    | 4, _ => exact ⟨rfl, rfl, rfl, rfl⟩
    | 5, _ => exact ⟨rfl, rfl, rfl, rfl⟩
    | 6, _ => exact ⟨rfl, rfl, rfl, rfl⟩
    | 7, _ => exact ⟨rfl, rfl, rfl, rfl⟩
    | 8, _ => exact ⟨rfl, rfl, rfl, rfl⟩
    | 9, _ => exact ⟨rfl, rfl, rfl, rfl⟩
    | 10, _ => exact ⟨rfl, rfl, rfl, rfl⟩
    | 11, _ => exact ⟨rfl, rfl, rfl, rfl⟩
    | 12, _ => exact ⟨rfl, rfl, rfl, rfl⟩
    | 13, _ => exact ⟨rfl, rfl, rfl, rfl⟩
    | 14, _ => exact ⟨rfl, rfl, rfl, rfl⟩
    | 15, _ => exact ⟨rfl, rfl, rfl, rfl⟩
    | 16, _ => exact ⟨rfl, rfl, rfl, rfl⟩
    | 17, _ => exact ⟨rfl, rfl, rfl, rfl⟩
    | 18, _ => exact ⟨rfl, rfl, rfl, rfl⟩
    | 19, _ => exact ⟨rfl, rfl, rfl, rfl⟩
    | 20, _ => exact ⟨rfl, rfl, rfl, rfl⟩
    | 21, _ => exact ⟨rfl, rfl, rfl, rfl⟩
    | c + 22, h => exact absurd h (by omega)
  obtain ⟨h0, h1, h2, h3⟩ := key c hc
  exact ⟨cell_of_obj h h0, cell_of_obj h h1, cell_of_obj h h2, cell_of_obj h h3⟩

end Go.Proofs.Ytocjdbenelikpaa
