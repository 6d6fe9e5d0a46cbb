/-
  slices.Clip at pieces and at tokens: walked.
-/
import Derived.Test.YtocngneomllmoaaDoorWordP
namespace Go.Proofs.YtocngneomllmoaaDoor
open Go.RowKit
set_option linter.unusedVariables false

set_option maxRecDepth 10000 in
theorem clip_parts (a : Option Addr) (n c : Nat) (hn : n ≤ c) (hc : c ≤ maxLen) (w : World) :
    Calls Tryd.prog 33 #[.slice a n c] w fun e w' => e = .returned (.slice a n n) ∧ w' = w := by
  have h1 : (n : Int) ≤ (c : Int) := by omega
  have h0 : (0 : Int) ≤ (n : Int) := by omega
  go_enter Tryd.func33, Tryd.ntmps33
  go_wp2
  go_ret
  exact ⟨rfl, rfl⟩

set_option maxRecDepth 10000 in
theorem clip_toks (a : Option Addr) (n c : Nat) (hn : n ≤ c) (hc : c ≤ maxLen) (w : World) :
    Calls Tryd.prog 20 #[.slice a n c] w fun e w' => e = .returned (.slice a n n) ∧ w' = w := by
  have h1 : (n : Int) ≤ (c : Int) := by omega
  have h0 : (0 : Int) ≤ (n : Int) := by omega
  go_enter Tryd.func20, Tryd.ntmps20
  go_wp2
  go_ret
  exact ⟨rfl, rfl⟩

end Go.Proofs.YtocngneomllmoaaDoor
