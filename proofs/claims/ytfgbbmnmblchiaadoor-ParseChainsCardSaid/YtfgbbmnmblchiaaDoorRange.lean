/-
  A range over a string, as a law of a walk; what its turns leave of the world.
-/
import Derived.Test.YtfgbbmnmblchiaaDoorMem
import Derived.Test.YtfgbbmnmblchiaaDoorU8
import Derived.Test.YtfgbbmnmblchiaaDoorShelf
import Derived.Lib.OthersKept
import Derived.Laws.RangeAny
import Derived.Deep.QuietTactic
import Derived.Deep.RegionHeld3
import Derived.Deep.RegionLaw
namespace Go.Proofs.YtfgbbmnmblchiaaDoor
open Go.RowKit
set_option linter.unusedVariables false

theorem ret_bool {a b : Bool} (h : a = b) : Ending.returned (.bool a) = .returned (.bool b) := by rw [h]
theorem ret_i64 {a b : Int} (h : a = b) : Ending.returned (.int .i64 a) = .returned (.int .i64 b) := by rw [h]
theorem ret_str {a b : ByteArray} (h : a = b) : Ending.returned (.string a) = .returned (.string b) := by rw [h]

theorem Chg.iterAt {F : List Nat} {a w : World} (h : Chg F a w) (k : Nat) (hk : a.heap.size ≤ k) (s : ByteArray) (p : Nat) : Chg F a (w.iterAt k s p) :=
  h.trans (G := [k]) ⟨rfl, rfl, rfl, by rw [Lib.iterAt_size]; exact Nat.le_refl _, fun i hi hn => Lib.iterAt_other w k i s p (by simpa using hn)⟩ (by simpa using .inr hk)

theorem Chg.iter {F : List Nat} {a w : World} (h : Chg F a w) (s : ByteArray) (p : Nat) : Chg F a (w.iter s p) := h.alloc _

theorem next_at (w : World) (k : Nat) (l : List UInt8) (pos : Nat) (ty : TypeId) (hk : w.heap[k]? = some (.stringIter (Lx.strB l) pos)) (h : pos < l.length) :
    (Instr.next (.pointer (some ⟨k, 0, none⟩)) true ty).run Tryd.prog w =
      .ok (.tuple #[.bool true, .int .i64 pos, .int .i32 (Lx.rune (l.drop pos))]) (w.iterAt k (Lx.strB l) (pos + Lx.wid (l.drop pos))) := by
  have := Lib.run_next_any_at (P := Tryd.prog) w k (Lx.strB l) pos ty hk (by rw [Lx.strB_size]; exact h)
  rw [Lx.dec_at] at this
  exact this

theorem next_end (w : World) (k : Nat) (l : List UInt8) (pos : Nat) (ty : TypeId) (hk : w.heap[k]? = some (.stringIter (Lx.strB l) pos)) (h : ¬ pos < l.length) :
    (Instr.next (.pointer (some ⟨k, 0, none⟩)) true ty).run Tryd.prog w = .ok (.tuple #[.bool false]) w :=
  Lib.run_next_end_at (P := Tryd.prog) w k (Lx.strB l) pos ty hk (by rw [Lx.strB_size]; exact h)

theorem drop_at (l : List UInt8) (k : Nat) (h : k < l.length) : l.drop k = l.getD k 0 :: l.drop (k + 1) := by
  rw [List.drop_eq_getElem_cons h]
  simp [List.getD, h]

end Go.Proofs.YtfgbbmnmblchiaaDoor
