/-
  Run with any fuel, on both machines.
-/
import Derived.Test.YtocjdbenelikpaaRefR
import Derived.Test.YtocjdbenelikpaaRefN
import Derived.WalkMore
namespace Go.Proofs.Ytocjdbenelikpaa
open Go.RowKit
set_option linter.unusedVariables false
set_option linter.unusedSimpArgs false

set_option maxHeartbeats 4000000 in
set_option maxRecDepth 100000 in
theorem run_neg (w : World) (mb cb co cc : Nat) (m : Vm.M) (h : MachAt w mb cb co cc m) (hs : m.stopped = 0) (f : Int) (hf : f < 0) :
    Calls Try.prog 14 #[.pointer (some ⟨mb, 0, none⟩), .int .i64 f] w (RunPost w mb cb co cc (0, 1, m)) := by
  have cs := h.stopped
  rw [hs] at cs
  have H := Lib.hid h
  clear h
  go_enter Try.func14, Try.ntmps14
  go_wp2
  go_step3
  go_wp2_with fail
  refine (ops_any w).mono ?_
  rintro e w1 ⟨rfl, h1⟩
  have HC1 := Lib.hid h1
  clear h1 cs
  go_wp2_with (refine wpList_store_new _ rfl 75 _ _ rfl rfl _ fnCells rfl rfl (by kernel_rfl) (by kernel_rfl) (by kernel_rfl) ?_)
  go_step3
  go_wp2_with fail
  generalize hw2 : w1.alloc (.cells fnCells 75) = w2
  have HC2 : Hid (Chg [] w w2) := Lib.hid (by subst hw2; exact HC1.out.alloc _)
  clear hw2 HC1
  have H2 := Lib.hid (H.out.kept0 HC2.out)
  go_loopg [4, 5] 0 (fun g vu vs wr => vu = .int .i64 0 ∧ vs = .int .i64 0 ∧ MachAt wr mb cb co cc m ∧ Chg [mb] w wr)
  case atStart => exact ⟨rfl, rfl, H2.out, HC2.out.mono (by simp)⟩
  case round =>
    obtain ⟨rfl, rfl, hm, hc⟩ := hrel
    go_wp2
    try rw [Exit.noGoto_ret]
    go_ret2
    exact ⟨rfl, hm, hc⟩

theorem run_int (w : World) (mb cb co cc : Nat) (m : Vm.M) (h : MachAt w mb cb co cc m) (hg : Vm.Good m) (f : Int) (hf : f ≤ 3000) :
    Calls Try.prog 14 #[.pointer (some ⟨mb, 0, none⟩), .int .i64 f] w (RunPost w mb cb co cc (Vm.run m f)) := by
  by_cases h0 : f < 0
  · unfold Vm.run
    by_cases hs : m.stopped = 0
    · rw [if_pos hs, show f.toNat = 0 from by omega]
      exact run_neg w mb cb co cc m h hs f h0
    · rw [if_neg hs]
      refine (run_still w mb cb co cc m h hs f).mono ?_
      rintro e w' ⟨rfl, hc⟩
      exact ⟨rfl, h.kept0 hc, hc.mono (by simp)⟩
  · obtain ⟨F, rfl⟩ : ∃ F : Nat, f = (F : Int) := ⟨f.toNat, by omega⟩
    exact run_all w mb cb co cc m h hg F (by omega)

set_option maxHeartbeats 1000000 in
set_option maxRecDepth 100000 in
theorem ref_run_still (w : World) (rb : Nat) (m : Vm.M) (h : RefAt w rb m) (hs : m.stopped ≠ 0) (f : Int) :
    Calls Try.prog 26 #[.pointer (some ⟨rb, 0, none⟩), .int .i64 f] w (RefRunPost w rb (0, m.stopped, m)) := by
  have H := Lib.hid h
  have hb : (m.stopped == 0) = false := by simpa using hs
  clear h
  go_enter Try.func26, Try.ntmps26
  go_wp2_with fail
  go_loopg [6] 0 (fun g v6 wr => v6 = .int .i64 0 ∧ RefAt wr rb m ∧ Chg [rb] w wr)
  case atStart => exact ⟨rfl, H.out, Chg.refl _ _⟩
  case round =>
    obtain ⟨rfl, hr, hc⟩ := hrel
    have cst := hr.stopped
    have HR := Lib.hid hr
    have HC := Lib.hid hc
    clear hr hc
    go_wp2_with fail
    go_region
    all_goals
      go_wp2
      go_ret2
      exact ⟨rfl, HR.out.drew, HC.out.drew⟩

set_option maxHeartbeats 1000000 in
set_option maxRecDepth 100000 in
theorem ref_run_neg (w : World) (rb : Nat) (m : Vm.M) (h : RefAt w rb m) (hs : m.stopped = 0) (f : Int) (hf : f < 0) :
    Calls Try.prog 26 #[.pointer (some ⟨rb, 0, none⟩), .int .i64 f] w (RefRunPost w rb (0, 1, m)) := by
  have H := Lib.hid h
  clear h
  go_enter Try.func26, Try.ntmps26
  go_wp2_with fail
  go_loopg [6] 0 (fun g v6 wr => v6 = .int .i64 0 ∧ RefAt wr rb m ∧ Chg [rb] w wr)
  case atStart => exact ⟨rfl, H.out, Chg.refl _ _⟩
  case round =>
    obtain ⟨rfl, hr, hc⟩ := hrel
    have cst := hr.stopped
    rw [hs] at cst
    have HR := Lib.hid hr
    have HC := Lib.hid hc
    clear hr hc
    go_wp2
    all_goals
      go_ret2
      exact ⟨rfl, HR.out, HC.out⟩

theorem ref_run_int (w : World) (rb : Nat) (m : Vm.M) (h : RefAt w rb m) (hg : Vm.Good m) (f : Int) (hf : f ≤ 3000) :
    Calls Try.prog 26 #[.pointer (some ⟨rb, 0, none⟩), .int .i64 f] w (RefRunPost w rb (Vm.run m f)) := by
  unfold Vm.run
  by_cases hs : m.stopped = 0
  · rw [if_pos hs]
    by_cases h0 : f < 0
    · rw [show f.toNat = 0 from by omega]
      exact ref_run_neg w rb m h hs f h0
    · obtain ⟨F, rfl⟩ : ∃ F : Nat, f = (F : Int) := ⟨f.toNat, by omega⟩
      exact ref_run w rb m h hg hs F (by omega)
  · rw [if_neg hs]
    exact ref_run_still w rb m h hs f

theorem run_good_int {m : Vm.M} (hg : Vm.Good m) (f : Int) : Vm.Good (Vm.run m f).2.2 := by
  unfold Vm.run
  split
  · exact Vm.fin_good (Vm.go_keep f.toNat m hg).1
  · exact hg

end Go.Proofs.Ytocjdbenelikpaa
