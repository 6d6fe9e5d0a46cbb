/-
  One store and one load, in plain Lean.
-/
import Derived.Test.YtocjdbenelikpaaCountsP
import Derived.Test.YtocjdbenelikpaaStepsP
namespace Go.Proofs.Ytocjdbenelikpaa
open Go.RowKit
set_option linter.unusedVariables false
set_option linter.unusedSimpArgs false

namespace MemP
open Vm
def code : List UInt8 := [20, 1, 2, 0, 19, 3, 2, 0, 0, 0, 0, 0]
def img (d : List UInt8) : List UInt8 := headB 12 d.length ++ code ++ d
def mem0 (d : List UInt8) : List UInt8 := d ++ List.replicate (1024 - d.length) 0
def Mm (mem : List UInt8) (r : List Int) (pc : Int) : M := { code := code, n := 3, r := r, mem := mem, pc := pc, stopped := 0 }

theorem head_img (d : List UInt8) (hd : d.length ≤ 512) : headN (img d) 2 = 3 ∧ headN (img d) 4 = d.length ∧ (img d).length = 18 + d.length ∧ lz (img d) = true := by
  refine ⟨by simp [img, headB, headN, List.getD], ?_, by simp [img, headB, code]; omega, ?_⟩
  · simp [img, headB, headN, List.getD]
    omega
  · simp [img, headB, lz, List.getD]

theorem img_valid (d : List UInt8) (hd : d.length ≤ 512) : validB (img d) = true := by
  obtain ⟨h1, h2, h3, h4⟩ := head_img d hd
  unfold validB sizesOk
  rw [h1, h2, h3, h4]
  have e1 : decide (1 ≤ 3 ∧ 3 ≤ 256 ∧ d.length ≤ 512 ∧ 18 + d.length = 6 + 4 * 3 + d.length) = true := by simp; omega
  rw [e1]
  repeat rw [okFrom_step _ _ _ (by omega)]
  rw [okFrom_end _ _ _ (by omega)]
  simp [okAt, byteAt, img, code, headB, List.getD, instrOk, fld, flds]

theorem img_start (d : List UInt8) (hd : d.length ≤ 512) (v at_ : Int) : setR (setR (Vm.ofImage (img d)) 1 v) 2 at_ = Mm (mem0 d) [0, v, at_, 0, 0, 0, 0, 0] 0 := by
  obtain ⟨h1, h2, h3, h4⟩ := head_img d hd
  unfold Vm.ofImage setR
  rw [h1, h3]
  have e1 : ((img d).drop 6).take (4 * 3) = code := by simp [img, headB, code]
  have e2 : (img d).drop (6 + 4 * 3) = d := by simp [img, headB, code]
  rw [e1, e2, show 1024 - (18 + d.length - (6 + 4 * 3)) = 1024 - d.length from by omega]
  rfl

theorem start_mem (d : List UInt8) (hd : d.length ≤ 512) : (Vm.ofImage (img d)).mem = mem0 d := by
  have := congrArg M.mem (img_start d hd 0 0)
  exact this

theorem run_out (mem : List UInt8) (v at_ : Int) (h : ¬ (0 ≤ at_ ∧ at_ < 1024)) : fin (go 9 (Mm mem [0, v, at_, 0, 0, 0, 0, 0] 0)) = (0, 4, { Mm mem [0, v, at_, 0, 0, 0, 0, 0] 0 with stopped := 4 }) := by
  have hs : Vm.step (Mm mem [0, v, at_, 0, 0, 0, 0, 0] 0) = (4, Mm mem [0, v, at_, 0, 0, 0, 0, 0] 0) := by
    have : Vm.step (Mm mem [0, v, at_, 0, 0, 0, 0, 0] 0) = if 0 ≤ at_ ∧ at_ < 1024 then (0, setM (Mm mem [0, v, at_, 0, 0, 0, 0, 0] 0) at_.toNat (Vm.byteOf v)) else (4, Mm mem [0, v, at_, 0, 0, 0, 0, 0] 0) := rfl
    rw [this, if_neg h]
  have e : go 9 (Mm mem [0, v, at_, 0, 0, 0, 0, 0] 0) = (0, 4, Mm mem [0, v, at_, 0, 0, 0, 0, 0] 0) := by
    rw [show (9 : Nat) = 8 + 1 from rfl, go_succ, if_neg (by show ¬ ((3 : Int) ≤ 0); omega), hs, if_pos rfl]
  rw [e]; rfl

theorem run_in (mem : List UInt8) (hm : mem.length = 1024) (v : Int) (i : Nat) (hi : i < 1024) : fin (go 9 (Mm mem [0, v, i, 0, 0, 0, 0, 0] 0)) =
    (3, 2, { Mm (mem.set i (Vm.byteOf v)) [0, v, i, ((Vm.byteOf v).toNat : Int), 0, 0, 0, 0] 2 with stopped := 2 }) := by
  have hin : (0 : Int) ≤ (i : Int) ∧ (i : Int) < 1024 := by omega
  have s0 : Vm.step (Mm mem [0, v, i, 0, 0, 0, 0, 0] 0) = (0, Mm (mem.set i (Vm.byteOf v)) [0, v, i, 0, 0, 0, 0, 0] 0) := by
    have : Vm.step (Mm mem [0, v, i, 0, 0, 0, 0, 0] 0) = if 0 ≤ (i : Int) ∧ (i : Int) < 1024 then (0, setM (Mm mem [0, v, i, 0, 0, 0, 0, 0] 0) (i : Int).toNat (Vm.byteOf v)) else (4, Mm mem [0, v, i, 0, 0, 0, 0, 0] 0) := rfl
    rw [this, if_pos hin, show (i : Int).toNat = i from by omega]
    rfl
  have s1 : Vm.step (Mm (mem.set i (Vm.byteOf v)) [0, v, i, 0, 0, 0, 0, 0] 1) = (0, Mm (mem.set i (Vm.byteOf v)) [0, v, i, ((Vm.byteOf v).toNat : Int), 0, 0, 0, 0] 1) := by
    have : Vm.step (Mm (mem.set i (Vm.byteOf v)) [0, v, i, 0, 0, 0, 0, 0] 1) = if 0 ≤ (i : Int) ∧ (i : Int) < 1024 then (0, setR (Mm (mem.set i (Vm.byteOf v)) [0, v, i, 0, 0, 0, 0, 0] 1) 3 (((mem.set i (Vm.byteOf v)).getD (i : Int).toNat 0).toNat : Int)) else (4, Mm (mem.set i (Vm.byteOf v)) [0, v, i, 0, 0, 0, 0, 0] 1) := rfl
    rw [this, if_pos hin, show (i : Int).toNat = i from by omega]
    have e : (mem.set i (Vm.byteOf v)).getD i 0 = Vm.byteOf v := by simp [List.getD, hm, hi]
    rw [e]
    rfl
  have s2 : Vm.step (Mm (mem.set i (Vm.byteOf v)) [0, v, i, ((Vm.byteOf v).toNat : Int), 0, 0, 0, 0] 2) = (2, Mm (mem.set i (Vm.byteOf v)) [0, v, i, ((Vm.byteOf v).toNat : Int), 0, 0, 0, 0] 2) := rfl
  have e : go 9 (Mm mem [0, v, i, 0, 0, 0, 0, 0] 0) = (3, 2, Mm (mem.set i (Vm.byteOf v)) [0, v, i, ((Vm.byteOf v).toNat : Int), 0, 0, 0, 0] 2) := by
    rw [show (9 : Nat) = 6 + 1 + 1 + 1 from rfl, go_step _ _ _ (by show (0 : Int) < 3; omega) s0]
    have n0 : next (Mm (mem.set i (Vm.byteOf v)) [0, v, i, 0, 0, 0, 0, 0] 0) = Mm (mem.set i (Vm.byteOf v)) [0, v, i, 0, 0, 0, 0, 0] 1 := rfl
    rw [n0, go_step _ _ _ (by show (1 : Int) < 3; omega) s1]
    have n1 : next (Mm (mem.set i (Vm.byteOf v)) [0, v, i, ((Vm.byteOf v).toNat : Int), 0, 0, 0, 0] 1) = Mm (mem.set i (Vm.byteOf v)) [0, v, i, ((Vm.byteOf v).toNat : Int), 0, 0, 0, 0] 2 := rfl
    rw [n1, go_halt _ _ _ (by show (2 : Int) < 3; omega) s2]
  rw [e]; rfl

theorem byteOf_wrap (v : Int) : (((Vm.byteOf v).toNat : Nat) : Int) = IntKind.u8.wrap v := by
  unfold Vm.byteOf
  rw [IntKind.wrap_u8]
  have h : (v % 256).toNat < 256 := by omega
  simp
  omega
end MemP
end Go.Proofs.Ytocjdbenelikpaa
