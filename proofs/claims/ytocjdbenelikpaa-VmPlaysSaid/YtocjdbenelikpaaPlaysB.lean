/-
  VmPlays where the bytes are no image, walked.
-/
import Derived.Test.YtocjdbenelikpaaRunN
namespace Go.Proofs.Ytocjdbenelikpaa
open Go.RowKit
set_option linter.unusedVariables false
set_option linter.unusedSimpArgs false

set_option maxHeartbeats 4000000 in
set_option maxRecDepth 100000 in
theorem plays_bad (w : World) (a : Option Addr) (len cap : Nat) (bs : List UInt8) (h : Bytes w a len cap bs) (hv : validB bs = false) (ao : Option Addr) (no co0 : Nat) :
    Calls Try.prog 11 #[.slice a len cap, .slice ao no co0] w fun e w' => e = .returned (.bool true) ∧ Chg [] w w' := by
  have hlen := h.len
  have hb : bs.length ≤ 9223372036854775807 := by have := h.cap; unfold maxLen at this; omega
  have H := Lib.hid h
  have HV := Lib.hid hv
  clear h hv
  go_enter Try.func11, Try.ntmps11
  go_wp2_with fail
  refine (new_bad w a len cap bs H.out HV.out).mono ?_
  rintro e w1 ⟨rfl, hc1⟩
  have HC1 := Lib.hid hc1
  have kc := conv_load w1 a len cap bs hlen (H.out.kept0 hc1).src
  clear hc1
  go_wp2_with fail
  refine (ref_new_bad w1 bs hb HV.out).mono ?_
  rintro e w2 ⟨rfl, hc2⟩
  have HC2 := Lib.hid (HC1.out.then0 hc2)
  clear hc2 HC1 kc
  go_wp2_with fail
  go_loopg [9] 0 (fun g v9 wr => v9 = .int .i64 0 ∧ Chg [] w wr)
  case atStart => exact ⟨rfl, HC2.out⟩
  case round =>
    obtain ⟨rfl, hc⟩ := hrel
    have HC := Lib.hid hc
    clear hc HC2
    go_wp2_with (go_at_call 16; refine (awake_any _).mono ?_; rintro e w9 ⟨rfl, h9⟩)
    all_goals
      go_ret
      exact ⟨rfl, HC.out.then0 h9⟩

end Go.Proofs.Ytocjdbenelikpaa
