/-
  The machine's small methods, walked.
-/
import Derived.Test.YtocjdbenelikpaaOpA
import Derived.WalkMore
namespace Go.Proofs.Ytocjdbenelikpaa
open Go.RowKit
set_option linter.unusedVariables false

section
variable (w : World) (mb cb co cc : Nat) (m : Vm.M)

theorem reg_in (h : MachAt w mb cb co cc m) (i : Nat) (hi : i < 8) :
    Calls Try.prog 15 #[.pointer (some ⟨mb, 0, none⟩), .int .i64 i] w fun e w' => e = .returned (.int .i64 (Vm.reg m i)) ∧ w = w' := by
  have c := h.reg hi
  have i0 : (0 : Int) ≤ (i : Int) := by omega
  have i1 : (i : Int) < 8 := by omega
  clear h
  go_enter Try.func15, Try.ntmps15
  go_wp2
  go_ret
  exact ⟨rfl, rfl⟩

theorem reg_out (i : Int) (hi : i < 0 ∨ 8 ≤ i) :
    Calls Try.prog 15 #[.pointer (some ⟨mb, 0, none⟩), .int .i64 i] w fun e w' => e = .returned (.int .i64 0) ∧ w = w' := by
  by_cases h0 : i < 0
  · clear hi
    go_enter Try.func15, Try.ntmps15
    go_wp2
    go_ret
    exact ⟨rfl, rfl⟩
  · have h1 : 8 ≤ i := by omega
    clear hi
    go_enter Try.func15, Try.ntmps15
    go_wp2
    go_ret
    exact ⟨rfl, rfl⟩

theorem pc_any (h : MachAt w mb cb co cc m) :
    Calls Try.prog 17 #[.pointer (some ⟨mb, 0, none⟩)] w fun e w' => e = .returned (.int .i64 m.pc) ∧ w = w' := by
  have c := h.pc
  clear h
  go_enter Try.func17, Try.ntmps17
  go_wp2
  go_ret
  exact ⟨rfl, rfl⟩

theorem setReg_in (h : MachAt w mb cb co cc m) (i : Nat) (hi : i < 8) (v : Int) (hv : (Lit.int .i64 v).wf = true) :
    Calls Try.prog 21 #[.pointer (some ⟨mb, 0, none⟩), .int .i64 i, .int .i64 v] w fun e w' => e = .returned (.tuple #[]) ∧ MachAt w' mb cb co cc (Vm.setR m i v) ∧ Chg [mb] w w' := by
  have c := h.reg hi
  have f := h.free (2 + i)
  have i0 : (0 : Int) ≤ (i : Int) := by omega
  have i1 : (i : Int) < 8 := by omega
  have H := Lib.hid h
  clear h
  go_enter Try.func21, Try.ntmps21
  go_wp2
  refine bodyPost_end (results_none rfl _ _ _) rfl ?_
  exact ⟨rfl, H.out.setR hi v hv, (Chg.refl [mb] w).setCell _ _ (by simp)⟩

theorem setReg_out (i v : Int) (hi : i < 0 ∨ 8 ≤ i) :
    Calls Try.prog 21 #[.pointer (some ⟨mb, 0, none⟩), .int .i64 i, .int .i64 v] w fun e w' => e = .returned (.tuple #[]) ∧ w = w' := by
  by_cases h0 : i < 0
  · clear hi
    go_enter Try.func21, Try.ntmps21
    go_wp2
    refine bodyPost_end (results_none rfl _ _ _) rfl ?_
    exact ⟨rfl, rfl⟩
  · have h1 : 8 ≤ i := by omega
    clear hi
    go_enter Try.func21, Try.ntmps21
    go_wp2
    refine bodyPost_end (results_none rfl _ _ _) rfl ?_
    exact ⟨rfl, rfl⟩

theorem jump_in (h : MachAt w mb cb co cc m) (i : Nat) (hi : i < m.n) :
    Calls Try.prog 29 #[.pointer (some ⟨mb, 0, none⟩), .int .i64 i] w fun e w' => e = .returned (.bool true) ∧ MachAt w' mb cb co cc { m with pc := i, stopped := 0 } ∧ Chg [mb] w w' := by
  have cn := h.n
  have c1 := h.pc
  have c2 := h.stopped
  have f1 := h.free 1034
  have f2 := h.free 1035
  have hq : MachAt ((w.setCell ⟨mb, 1034, none⟩ (.int .i64 i)).setCell ⟨mb, 1035, none⟩ (.int .i64 0)) mb cb co cc { m with pc := i, stopped := 0 } := (h.setPc i).setStopped 0
  have hn := h.n1
  generalize m.n = n at *
  have HQ := Lib.hid hq
  clear h hq
  have i0 : (0 : Int) ≤ (i : Int) := by omega
  have i1 : (i : Int) < (n : Int) := by omega
  go_enter Try.func29, Try.ntmps29
  go_wp2
  go_ret
  exact ⟨rfl, HQ.out, ((Chg.refl [mb] w).setCell _ _ (by simp)).setCell _ _ (by simp)⟩

theorem jump_out (h : MachAt w mb cb co cc m) (i : Int) (hi : i < 0 ∨ (m.n : Int) ≤ i) :
    Calls Try.prog 29 #[.pointer (some ⟨mb, 0, none⟩), .int .i64 i] w fun e w' => e = .returned (.bool false) ∧ w = w' := by
  have cn := h.n
  clear h
  generalize m.n = n at *
  by_cases h0 : i < 0
  · clear hi
    go_enter Try.func29, Try.ntmps29
    go_wp2
    go_ret
    exact ⟨rfl, rfl⟩
  · have h1 : (n : Int) ≤ i := by omega
    clear hi
    go_enter Try.func29, Try.ntmps29
    go_wp2
    go_ret
    exact ⟨rfl, rfl⟩

theorem run_still (h : MachAt w mb cb co cc m) (hs : m.stopped ≠ 0) (fuel : Int) :
    Calls Try.prog 14 #[.pointer (some ⟨mb, 0, none⟩), .int .i64 fuel] w fun e w' => e = .returned (.tuple #[.int .i64 0, .int .i64 m.stopped]) ∧ Chg [] w w' := by
  have c := h.stopped
  have hb : (m.stopped == 0) = false := by simpa using hs
  clear h
  go_enter Try.func14, Try.ntmps14
  go_wp2
  go_step3
  go_wp2_with fail
  go_region
  all_goals
    go_wp2
    try rw [Exit.noGoto_ret]
    go_ret2
    exact ⟨rfl, (Chg.refl [] w).drew⟩
end

end Go.Proofs.Ytocjdbenelikpaa
