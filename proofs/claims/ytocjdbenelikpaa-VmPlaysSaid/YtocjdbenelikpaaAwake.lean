/-
  The laws' own awake, walked.
-/
import Derived.Test.YtocjdbenelikpaaNew
import Derived.Test.YtocjdbenelikpaaGet
import Derived.Test.YtocjdbenelikpaaRun2
namespace Go.Proofs.Ytocjdbenelikpaa
open Go.RowKit
set_option linter.unusedVariables false
set_option linter.unusedSimpArgs false

def awakeB : List UInt8 := [76, 90, 0, 2, 0, 0, 2, 0, 0, 7, 0, 0, 0, 0]
theorem awake_valid : validB awakeB = true := by decide +kernel
theorem awake_run : (Vm.fin (Vm.go 9 (Vm.ofImage awakeB))).1 = 2 ∧ (Vm.fin (Vm.go 9 (Vm.ofImage awakeB))).2.1 = 2 ∧ Vm.reg (Vm.fin (Vm.go 9 (Vm.ofImage awakeB))).2.2 0 = 7 ∧ (Vm.fin (Vm.go 9 (Vm.ofImage awakeB))).2.2.pc = 1 := by decide +kernel

/-- New at a good image. -/
theorem new_good (w : World) (a : Option Addr) (len cap : Nat) (bs : List UInt8) (h : Bytes w a len cap bs) (hv : validB bs = true) :
    Calls Try.prog 12 #[.slice a len cap] w fun e w' => ∃ mb cb co cc, e = .returned (.tuple #[.pointer (some ⟨mb, 0, none⟩), .int .i64 0]) ∧ MachAt w' mb cb co cc (Vm.ofImage bs) ∧ Vm.Good (Vm.ofImage bs) ∧ Chg [] w w' ∧ w.heap.size ≤ mb ∧ w.heap.size ≤ cb := by
  refine (new_any w a len cap bs h).mono ?_
  intro e w' hp
  unfold NewPost at hp
  rw [hv, if_pos rfl] at hp
  exact hp
theorem new_bad (w : World) (a : Option Addr) (len cap : Nat) (bs : List UInt8) (h : Bytes w a len cap bs) (hv : validB bs = false) :
    Calls Try.prog 12 #[.slice a len cap] w fun e w' => e = .returned (.tuple #[.pointer none, .int .i64 3]) ∧ Chg [] w w' := by
  refine (new_any w a len cap bs h).mono ?_
  intro e w' hp
  unfold NewPost at hp
  rw [hv] at hp
  exact hp

set_option maxHeartbeats 1000000 in
theorem awake_any (w : World) : Calls Try.prog 16 #[] w fun e w' => e = .returned (.bool true) ∧ Chg [] w w' := by
  have hb : Bytes (w.alloc (.cells #[.int .u8 76, .int .u8 90, .int .u8 0, .int .u8 2, .int .u8 0, .int .u8 0, .int .u8 2, .int .u8 0, .int .u8 0, .int .u8 7, .int .u8 0, .int .u8 0, .int .u8 0, .int .u8 0] 5 (14, 15))) (some ⟨w.heap.size, 0, none⟩) 14 14 awakeB :=
    ⟨rfl, by unfold maxLen; omega, fun _ => ⟨_, 0, rfl, fun j u hj => cells_of_take (k := 14) (heap_alloc_new w _) rfl (by rw [Nat.zero_add]; exact hj)⟩⟩
  have HB := Lib.hid hb
  have hcv := fun C => Lib.run_convert_bytes_const (P := Try.prog) w 26 5 C 14 14 Try.underlying26 Try.underlying5
  clear hb
  go_enter Try.func16, Try.ntmps16
  go_wp2_with fail
  refine (new_good _ _ 14 14 awakeB HB.out awake_valid).mono ?_
  rintro e w1 ⟨mb, cb, co, cc, rfl, hm, hg, hc, hmb, _⟩
  have HM := Lib.hid hm
  have HC := Lib.hid (((Chg.refl [] w).alloc _).then0 hc)
  have HMB : Hid (w.heap.size ≤ mb) := Lib.hid (by simp at hmb; omega)
  clear hm hc hmb HB
  go_wp2_with fail
  refine (run_any w1 mb cb co cc _ HM.out hg rfl 9 (by omega)).mono ?_
  rintro e w2 ⟨rfl, hm2, hc2⟩
  have HC2 : Hid (Chg [] w w2) := Lib.hid (HC.out.trans hc2 (fun x hx => .inr (by have := HMB.out; simp at hx; omega)))
  obtain ⟨q1, q2, q3, q4⟩ := awake_run
  generalize Vm.fin (Vm.go 9 (Vm.ofImage awakeB)) = q at *
  rw [q1, q2]
  have HM2 := Lib.hid hm2
  clear hm2 hc2 HM HC
  go_wp2_with fail
  refine (reg_in w2 mb cb co cc _ HM2.out 0 (by omega)).mono ?_
  rintro e w3 ⟨rfl, rfl⟩
  rw [q3]
  go_wp2_with fail
  refine (pc_any w2 mb cb co cc _ HM2.out).mono ?_
  rintro e w3 ⟨rfl, rfl⟩
  rw [q4]
  go_wp2
  go_ret
  exact ⟨rfl, HC2.out⟩

end Go.Proofs.Ytocjdbenelikpaa
