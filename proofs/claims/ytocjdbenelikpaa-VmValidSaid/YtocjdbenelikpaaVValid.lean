/-
  VmValid, walked.
-/
import Derived.Test.YtocjdbenelikpaaRefW
import Derived.Test.YtocjdbenelikpaaSteps
namespace Go.Proofs.Ytocjdbenelikpaa
open Go.RowKit
set_option linter.unusedVariables false
set_option linter.unusedSimpArgs false

set_option maxHeartbeats 1000000 in
theorem vvalid_any (w : World) (a : Option Addr) (len cap : Nat) (bs : List UInt8) (h : Bytes w a len cap bs) :
    Calls Try.prog 6 #[.slice a len cap] w fun e w' => e = .returned (.bool true) ∧ Chg [] w w' := by
  have hlen := h.len
  have hb : bs.length ≤ 9223372036854775807 := by have := h.cap; unfold maxLen at this; omega
  have H := Lib.hid h
  clear h
  cases hv : validB bs with
  | true =>
    have HV := Lib.hid hv
    clear hv
    go_enter Try.func6, Try.ntmps6
    go_wp2_with fail
    refine (new_good w a len cap bs H.out HV.out).mono ?_
    rintro e w1 ⟨mb, cb, co, cc, rfl, _, _, hc1, _, _⟩
    have HB1 := Lib.hid (H.out.kept0 hc1)
    have HC1 := Lib.hid hc1
    have kc := conv_load w1 a len cap bs hlen HB1.out.src
    clear hc1
    go_wp2_with fail
    refine (valid_ref w1 bs hb).mono ?_
    rw [HV.out]
    rintro e w2 ⟨rfl, hc2⟩
    have HB2 := Lib.hid (HB1.out.kept0 hc2)
    have HC2 := Lib.hid (HC1.out.then0 hc2)
    clear hc2 kc
    go_wp2_with fail
    refine (valid_any w2 a len cap bs HB2.out).mono ?_
    rw [HV.out]
    rintro e w3 ⟨rfl, hc3⟩
    have HC3 := Lib.hid (HC2.out.then0 hc3)
    clear hc3
    go_wp2_with (go_at_call 16; refine (awake_any _).mono ?_; rintro e w9 ⟨rfl, h9⟩)
    all_goals
      go_ret
      exact ⟨rfl, HC3.out.then0 h9⟩
  | false =>
    have HV := Lib.hid hv
    clear hv
    go_enter Try.func6, Try.ntmps6
    go_wp2_with fail
    refine (new_bad w a len cap bs H.out HV.out).mono ?_
    rintro e w1 ⟨rfl, hc1⟩
    have HB1 := Lib.hid (H.out.kept0 hc1)
    have HC1 := Lib.hid hc1
    have kc := conv_load w1 a len cap bs hlen HB1.out.src
    clear hc1
    go_wp2_with fail
    refine (valid_ref w1 bs hb).mono ?_
    rw [HV.out]
    rintro e w2 ⟨rfl, hc2⟩
    have HB2 := Lib.hid (HB1.out.kept0 hc2)
    have HC2 := Lib.hid (HC1.out.then0 hc2)
    clear hc2 kc
    go_wp2_with fail
    refine (valid_any w2 a len cap bs HB2.out).mono ?_
    rw [HV.out]
    rintro e w3 ⟨rfl, hc3⟩
    have HC3 := Lib.hid (HC2.out.then0 hc3)
    clear hc3
    go_wp2_with (go_at_call 16; refine (awake_any _).mono ?_; rintro e w9 ⟨rfl, h9⟩)
    all_goals
      go_ret
      exact ⟨rfl, HC3.out.then0 h9⟩

end Go.Proofs.Ytocjdbenelikpaa
