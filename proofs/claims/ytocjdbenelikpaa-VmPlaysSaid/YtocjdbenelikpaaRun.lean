/-
  The machine's run, walked.
-/
import Derived.Test.YtocjdbenelikpaaOpA
import Derived.Test.YtocjdbenelikpaaRow2
namespace Go.Proofs.Ytocjdbenelikpaa
open Go.RowKit
set_option linter.unusedVariables false

def fnNo : List Nat := [41, 42, 43, 44, 45, 46, 47, 48, 49, 50, 51, 52, 53, 54, 55, 57, 58, 59, 60, 61, 62, 63]
def fnOf (c : Nat) : Nat := fnNo.getD c 0
def fnCells : Array Value := (fnNo.map fun f => Value.func (.func f) #[] #[]).toArray

theorem call_one {P : Program} {f : FuncId} {fn : Func} (hf : P.funcs[f]? = some fn) (hn : (fn.name == "runtime.NumGoroutine") = false) (hb : fn.body.isNone = false) (args : Array Value) (w : World) :
    Sem.run P (callFunc f args) w = .ok (.enter f args) w := by
  obtain ⟨b, hb'⟩ : ∃ b, fn.body = some b := by
    cases h : fn.body with
    | none => rw [h] at hb; cases hb
    | some b => exact ⟨b, rfl⟩
  simp at hn
  simp [callFunc, go_sem, hf, hb', hn]

theorem ops_any (w : World) : Calls Try.prog 35 #[] w fun e w' => e = .returned (.agg fnCells) ∧ Chg [] w w' := by
  go_enter Try.func35, Try.ntmps35
  go_wp2_with (refine wpList_store_new _ rfl 75 _ _ rfl rfl _ fnCells rfl rfl (by kernel_rfl) (by kernel_rfl) (by kernel_rfl) ?_)
  refine bodyPost_ret (v := .agg fnCells) (results_cell_row rfl _ _ w.heap.size _ fnCells (0, 0) _ rfl (heap_alloc_new w _) Try.underlying75 rfl (by kernel_rfl)) rfl ⟨rfl, (Chg.refl [] w).alloc _⟩

/-- the codes' meanings in a block. -/
def FnsAt (w : World) (fb : Nat) : Prop := w.heap[fb]? = some (.cells fnCells 75 (0, 0))
theorem FnsAt.cell {w : World} {fb : Nat} (h : FnsAt w fb) {c : Nat} (hc : c < 22) : w.cell? ⟨fb, c, none⟩ = some (.func (.func (fnOf c)) #[] #[]) :=
  cell_of_obj h (by
    unfold fnCells
    rw [List.getElem?_toArray, List.getElem?_map]
    have : c < fnNo.length := hc
    simp [List.getElem?_eq_getElem this, fnOf])

theorem call_fn {c : Nat} (hc : c < 22) : ∀ (args : Array Value) (w : World), Sem.run Try.prog (callFunc (fnOf c) args) w = .ok (.enter (fnOf c) args) w := by
  intro args w
  match c, hc with
  | 0, _ => exact call_one Try.func41 (by decide +kernel) (by kernel_rfl) args w
  | 1, _ => exact call_one Try.func42 (by decide +kernel) (by kernel_rfl) args w
  | 2, _ => exact call_one Try.func43 (by decide +kernel) (by kernel_rfl) args w
  | 3, _ => exact call_one Try.func44 (by decide +kernel) (by kernel_rfl) args w
  | 4, _ => exact call_one Try.func45 (by decide +kernel) (by kernel_rfl) args w
  | 5, _ => exact call_one Try.func46 (by decide +kernel) (by kernel_rfl) args w
  | 6, _ => exact call_one Try.func47 (by decide +kernel) (by kernel_rfl) args w
  | 7, _ => exact call_one Try.func48 (by decide +kernel) (by kernel_rfl) args w
  | 8, _ => exact call_one Try.func49 (by decide +kernel) (by kernel_rfl) args w
  | 9, _ => exact call_one Try.func50 (by decide +kernel) (by kernel_rfl) args w
  | 10, _ => exact call_one Try.func51 (by decide +kernel) (by kernel_rfl) args w
  | 11, _ => exact call_one Try.func52 (by decide +kernel) (by kernel_rfl) args w
  | 12, _ => exact call_one Try.func53 (by decide +kernel) (by kernel_rfl) args w
  | 13, _ => exact call_one Try.func54 (by decide +kernel) (by kernel_rfl) args w
  | 14, _ => exact call_one Try.func55 (by decide +kernel) (by kernel_rfl) args w
  | 15, _ => exact call_one Try.func57 (by decide +kernel) (by kernel_rfl) args w
  | 16, _ => exact call_one Try.func58 (by decide +kernel) (by kernel_rfl) args w
  | 17, _ => exact call_one Try.func59 (by decide +kernel) (by kernel_rfl) args w
  | 18, _ => exact call_one Try.func60 (by decide +kernel) (by kernel_rfl) args w
  | 19, _ => exact call_one Try.func61 (by decide +kernel) (by kernel_rfl) args w
  | 20, _ => exact call_one Try.func62 (by decide +kernel) (by kernel_rfl) args w
  | 21, _ => exact call_one Try.func63 (by decide +kernel) (by kernel_rfl) args w
  | c + 22, h => exact absurd h (by omega)

theorem do_any (w : World) (mb cb co cc : Nat) (m : Vm.M) (h : MachAt w mb cb co cc m) (c x y k : Nat) (hc : c < 22) (hx : x < 8) (hy : y < 8) (hk : k < 256) :
    Calls Try.prog (fnOf c) #[.pointer (some ⟨mb, 0, none⟩), .int .i64 x, .int .i64 y, .int .i64 k] w (OpPost w mb cb co cc (Vm.op c x y k m)) := by
  match c, hc with
  | 0, _ => exact op_halt w mb cb co cc m h x y k hx hy hk
  | 1, _ => exact op_trap w mb cb co cc m h x y k hx hy hk
  | 2, _ => exact op_set w mb cb co cc m h x y k hx hy hk
  | 3, _ => exact op_mov w mb cb co cc m h x y k hx hy hk
  | 4, _ => exact op_add w mb cb co cc m h x y k hx hy hk
  | 5, _ => exact op_sub w mb cb co cc m h x y k hx hy hk
  | 6, _ => exact op_mul w mb cb co cc m h x y k hx hy hk
  | 7, _ => exact op_div w mb cb co cc m h x y k hx hy hk
  | 8, _ => exact op_mod w mb cb co cc m h x y k hx hy hk
  | 9, _ => exact op_and w mb cb co cc m h x y k hx hy hk
  | 10, _ => exact op_or w mb cb co cc m h x y k hx hy hk
  | 11, _ => exact op_xor w mb cb co cc m h x y k hx hy hk
  | 12, _ => exact op_shl w mb cb co cc m h x y k hx hy hk
  | 13, _ => exact op_shr w mb cb co cc m h x y k hx hy hk
  | 14, _ => exact op_lss w mb cb co cc m h x y k hx hy hk
  | 15, _ => exact op_eql w mb cb co cc m h x y k hx hy hk
  | 16, _ => exact op_jump w mb cb co cc m h x y k hx hy hk
  | 17, _ => exact op_jz w mb cb co cc m h x y k hx hy hk
  | 18, _ => exact op_jnz w mb cb co cc m h x y k hx hy hk
  | 19, _ => exact op_load w mb cb co cc m h x y k hx hy hk
  | 20, _ => exact op_store w mb cb co cc m h x y k hx hy hk
  | 21, _ => exact op_low w mb cb co cc m h x y k hx hy hk
  | c + 22, h => exact absurd h (by omega)

end Go.Proofs.Ytocjdbenelikpaa
