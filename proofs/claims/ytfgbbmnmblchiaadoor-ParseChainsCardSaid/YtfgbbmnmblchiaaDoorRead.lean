/-
  Which reading a word begins: walked.
-/
import Derived.Test.YtfgbbmnmblchiaaDoorBranch
namespace Go.Proofs.YtfgbbmnmblchiaaDoor
open Go.RowKit
set_option linter.unusedVariables false

/-- the reading of a kind, as a function value. -/
def readV (k : Nat) : Value := if k = 1 then (.func (.func 78) #[] #[]) else if k = 2 then (.func (.func 79) #[] #[]) else if k = 3 then (.func (.func 80) #[] #[]) else if k = 4 then (.func (.func 81) #[] #[]) else .nilFunc

theorem ret_v {a b : Value} (h : a = b) : Ending.returned a = .returned b := by rw [h]

set_option maxHeartbeats 4000000 in
set_option maxRecDepth 10000 in
theorem readings_any (x : List UInt8) (w : World) : Calls Tryd.prog 66 #[.string (Lx.strB x)] w fun e w' => e = .returned (readV (Ps.readK x)) ∧ w' = w := by
  have key : ∀ y : List UInt8, ((Lx.strB x).toList == y) = decide (x = y) := fun y => by
    rw [Lx.strB_toList]
    by_cases h : x = y
    · rw [decide_eq_true h]; simp [h]
    · rw [decide_eq_false h]; simp [h]
  have e1 := key [40]
  have e2 := key [105, 102]
  have e3 := key [119, 104, 105, 108, 101]
  have e4 := key [102, 111, 114]
  have HV := Lib.hid (show readV (Ps.readK x) = if decide (x = [40]) = true then readV 1 else if decide (x = [105, 102]) = true then readV 2 else if decide (x = [119, 104, 105, 108, 101]) = true then readV 3 else if decide (x = [102, 111, 114]) = true then readV 4 else readV 0 from by
    unfold Ps.readK Ps.kwIf Ps.kwWhile Ps.kwFor
    simp only [decide_eq_true_eq]
    repeat' split
    all_goals first | rfl | contradiction)
  clear key
  generalize decide (x = [40]) = b1 at *
  generalize decide (x = [105, 102]) = b2 at *
  generalize decide (x = [119, 104, 105, 108, 101]) = b3 at *
  generalize decide (x = [102, 111, 114]) = b4 at *
  cases b1 <;> cases b2 <;> cases b3 <;> cases b4
  all_goals
    go_enter Tryd.func66, Tryd.ntmps66
    go_wp2_with fail
    go_ret
    exact ⟨ret_v HV.out.symm, rfl⟩

end Go.Proofs.YtfgbbmnmblchiaaDoor
