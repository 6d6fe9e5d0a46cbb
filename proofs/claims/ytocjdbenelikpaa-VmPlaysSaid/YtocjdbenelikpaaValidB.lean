/-
  What an image is: the plain words.
-/
import Derived.Test.YtocjdbenelikpaaSizes
import Derived.Test.YtocjdbenelikpaaTable
namespace Go.Proofs.Ytocjdbenelikpaa
open Go.RowKit

def instrOk (n c x y k : Nat) : Bool :=
  decide (c < 22) && !((!(fld c).1 && x != 0) || (!(fld c).2.1 && y != 0) || (!(fld c).2.2.1 && k != 0) || decide (8 ≤ x) || decide (8 ≤ y) || ((fld c).2.2.2 && decide (n ≤ k)))
def byteAt (b : List UInt8) (i : Nat) : Nat := (b.getD i 0).toNat
def okAt (b : List UInt8) (n i : Nat) : Bool := instrOk n (byteAt b (6 + 4 * i)) (byteAt b (6 + 4 * i + 1)) (byteAt b (6 + 4 * i + 2)) (byteAt b (6 + 4 * i + 3))
def okFrom (b : List UInt8) (n i : Nat) : Bool := ((List.range n).drop i).all (okAt b n)
def validB (b : List UInt8) : Bool := sizesOk b && okFrom b (headN b 2) 0

theorem okFrom_step (b : List UInt8) (n i : Nat) (h : i < n) : okFrom b n i = (okAt b n i && okFrom b n (i + 1)) := by
  unfold okFrom
  rw [List.drop_eq_getElem_cons (by simpa using h)]
  simp
theorem okFrom_end (b : List UInt8) (n i : Nat) (h : n ≤ i) : okFrom b n i = true := by
  unfold okFrom
  rw [List.drop_eq_nil_of_le (by simpa using h)]
  rfl

end Go.Proofs.Ytocjdbenelikpaa
