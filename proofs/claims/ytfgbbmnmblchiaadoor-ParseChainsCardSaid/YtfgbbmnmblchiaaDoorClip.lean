/-
  slices.Clip at pieces and at tokens: walked.
-/
import Derived.Test.YtfgbbmnmblchiaaDoorWordP
namespace Go.Proofs.YtfgbbmnmblchiaaDoor
open Go.RowKit
set_option linter.unusedVariables false

set_option maxRecDepth 10000 in
theorem clip_parts (a : Option Addr) (n c : Nat) (hn : n ≤ c) (hc : c ≤ maxLen) (w : World) :
    Calls Tryd.prog 44 #[.slice a n c] w fun e w' => e = .returned (.slice a n n) ∧ w' = w := by
  have h1 : (n : Int) ≤ (c : Int) := by omega
  have h0 : (0 : Int) ≤ (n : Int) := by omega
  go_enter Tryd.func44, Tryd.ntmps44
  go_wp2
  go_ret
  exact ⟨rfl, rfl⟩

set_option maxRecDepth 10000 in
theorem clip_toks (a : Option Addr) (n c : Nat) (hn : n ≤ c) (hc : c ≤ maxLen) (w : World) :
    Calls Tryd.prog 25 #[.slice a n c] w fun e w' => e = .returned (.slice a n n) ∧ w' = w := by
  have h1 : (n : Int) ≤ (c : Int) := by omega
  have h0 : (0 : Int) ≤ (n : Int) := by omega
  go_enter Tryd.func25, Tryd.ntmps25
  go_wp2
  go_ret
  exact ⟨rfl, rfl⟩

end Go.Proofs.YtfgbbmnmblchiaaDoor
