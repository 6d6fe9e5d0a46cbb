/-
  The machine's instructions, walked.
-/
import Derived.Test.YtocjdbenelikpaaMach
import Derived.Deep.RegionWith
namespace Go.Proofs.Ytocjdbenelikpaa
open Go.RowKit
set_option linter.unusedVariables false

/-- what an instruction leaves. -/
def OpPost (w : World) (mb cb co cc : Nat) (r : Int × Vm.M) : Ending → World → Prop := fun e w' => e = .returned (.int .i64 r.1) ∧ MachAt w' mb cb co cc r.2 ∧ Chg [mb] w w'

theorem post_setR {w : World} {mb cb co cc : Nat} {m : Vm.M} (h : MachAt w mb cb co cc m) {x : Nat} (hx : x < 8) {v : Int} (hv : (Lit.int .i64 v).wf = true) :
    OpPost w mb cb co cc (0, Vm.setR m x v) (.returned (.int .i64 0)) (w.setCell ⟨mb, 2 + x, none⟩ (.int .i64 v)) := ⟨rfl, h.setR hx v hv, (Chg.refl [mb] w).setCell _ _ (by simp)⟩
theorem post_setRd {w : World} {mb cb co cc : Nat} {m : Vm.M} (h : MachAt w mb cb co cc m) {x : Nat} (hx : x < 8) {v : Int} (hv : (Lit.int .i64 v).wf = true) :
    OpPost w mb cb co cc (0, Vm.setR m x v) (.returned (.int .i64 0)) (w.drew.setCell ⟨mb, 2 + x, none⟩ (.int .i64 v)) := ⟨rfl, h.drew.setR hx v hv, ((Chg.refl [mb] w).drew).setCell _ _ (by simp)⟩
theorem post_setPc {w : World} {mb cb co cc : Nat} {m : Vm.M} (h : MachAt w mb cb co cc m) (v : Int) :
    OpPost w mb cb co cc (0, { m with pc := v }) (.returned (.int .i64 0)) (w.setCell ⟨mb, 1034, none⟩ (.int .i64 v)) := ⟨rfl, h.setPc v, (Chg.refl [mb] w).setCell _ _ (by simp)⟩
theorem post_setMd {w : World} {mb cb co cc : Nat} {m : Vm.M} (h : MachAt w mb cb co cc m) {i : Nat} (hi : i < 1024) (v : UInt8) :
    OpPost w mb cb co cc (0, Vm.setM m i v) (.returned (.int .i64 0)) (w.drew.setCell ⟨mb, 10 + i, none⟩ (byteV v)) := ⟨rfl, h.drew.setM hi v, ((Chg.refl [mb] w).drew).setCell _ _ (by simp)⟩
theorem post_same {w : World} {mb cb co cc : Nat} {m : Vm.M} (h : MachAt w mb cb co cc m) (r : Int) :
    OpPost w mb cb co cc (r, m) (.returned (.int .i64 r)) w := ⟨rfl, h, Chg.refl _ _⟩
theorem wf_wrap (v : Int) : (Lit.int .i64 (wrap64 v)).wf = true := by simp [Lit.wf, IntKind.min, IntKind.max, IntKind.signed, IntKind.bits]; unfold wrap64; omega
theorem wf_i64 {v : Int} : (Lit.int .i64 v).wf = true ↔ -9223372036854775808 ≤ v ∧ v ≤ 9223372036854775807 := by simp [Lit.wf, IntKind.min, IntKind.max, IntKind.signed, IntKind.bits]
theorem wf_tmod {a b : Int} (h : (Lit.int .i64 a).wf = true) : (Lit.int .i64 (a.tmod b)).wf = true := by
  rw [wf_i64] at h ⊢
  have h1 : (a.tmod b).natAbs ≤ a.natAbs := by rw [Int.natAbs_tmod]; exact Nat.mod_le _ _
  rcases Int.le_total 0 a with h0 | h0
  · have := Int.tmod_nonneg b h0
    omega
  · have := Int.tmod_nonneg b (a := -a) (by omega)
    rw [Int.neg_tmod] at this
    omega
theorem byteV_of (v : Int) : byteV (Vm.byteOf v) = .int .u8 (v % 256) := by
  unfold byteV Vm.byteOf
  rw [UInt8.toNat_ofNat']
  congr 1
  omega
theorem wf_nat {k : Nat} (h : k < 9223372036854775808) : (Lit.int .i64 (k : Int)).wf = true := by simp [Lit.wf, IntKind.min, IntKind.max, IntKind.signed, IntKind.bits]; omega
theorem wf_bits (o : BinOp) (a b : Int) (h : o = .and ∨ o = .or ∨ o = .xor) : (Lit.int .i64 (bits o .i64 a b)).wf = true := by
  rcases h with rfl | rfl | rfl <;> simp only [bits] <;> (simp [Lit.wf, IntKind.min, IntKind.max, IntKind.signed, IntKind.bits, IntKind.wrap_i64]; omega)

theorem op_halt (w : World) (mb cb co cc : Nat) (m : Vm.M) (h : MachAt w mb cb co cc m) (x y k : Nat) (hx : x < 8) (hy : y < 8) (hk : k < 256) :
    Calls Try.prog 41 #[.pointer (some ⟨mb, 0, none⟩), .int .i64 x, .int .i64 y, .int .i64 k] w (OpPost w mb cb co cc (Vm.op 0 x y k m)) := by
  have cx := h.reg hx
  have cy := h.reg hy
  have f1 := h.free (2 + x)
  have ix0 : (0 : Int) ≤ (x : Int) := by omega
  have ix1 : (x : Int) < 8 := by omega
  have iy0 : (0 : Int) ≤ (y : Int) := by omega
  have iy1 : (y : Int) < 8 := by omega
  have wx := h.wf x hx
  have wy := h.wf y hy
  have H := Lib.hid h
  clear h
  go_enter Try.func41, Try.ntmps41
  go_wp2
  go_ret
  exact post_same H.out 2

theorem op_trap (w : World) (mb cb co cc : Nat) (m : Vm.M) (h : MachAt w mb cb co cc m) (x y k : Nat) (hx : x < 8) (hy : y < 8) (hk : k < 256) :
    Calls Try.prog 42 #[.pointer (some ⟨mb, 0, none⟩), .int .i64 x, .int .i64 y, .int .i64 k] w (OpPost w mb cb co cc (Vm.op 1 x y k m)) := by
  have cx := h.reg hx
  have cy := h.reg hy
  have f1 := h.free (2 + x)
  have ix0 : (0 : Int) ≤ (x : Int) := by omega
  have ix1 : (x : Int) < 8 := by omega
  have iy0 : (0 : Int) ≤ (y : Int) := by omega
  have iy1 : (y : Int) < 8 := by omega
  have wx := h.wf x hx
  have wy := h.wf y hy
  have H := Lib.hid h
  clear h
  go_enter Try.func42, Try.ntmps42
  go_wp2
  go_ret
  exact post_same H.out 3

theorem op_set (w : World) (mb cb co cc : Nat) (m : Vm.M) (h : MachAt w mb cb co cc m) (x y k : Nat) (hx : x < 8) (hy : y < 8) (hk : k < 256) :
    Calls Try.prog 43 #[.pointer (some ⟨mb, 0, none⟩), .int .i64 x, .int .i64 y, .int .i64 k] w (OpPost w mb cb co cc (Vm.op 2 x y k m)) := by
  have cx := h.reg hx
  have cy := h.reg hy
  have f1 := h.free (2 + x)
  have ix0 : (0 : Int) ≤ (x : Int) := by omega
  have ix1 : (x : Int) < 8 := by omega
  have iy0 : (0 : Int) ≤ (y : Int) := by omega
  have iy1 : (y : Int) < 8 := by omega
  have wx := h.wf x hx
  have wy := h.wf y hy
  have H := Lib.hid h
  clear h
  go_enter Try.func43, Try.ntmps43
  go_wp2
  go_ret
  exact post_setR H.out hx (wf_nat (by omega))

theorem op_mov (w : World) (mb cb co cc : Nat) (m : Vm.M) (h : MachAt w mb cb co cc m) (x y k : Nat) (hx : x < 8) (hy : y < 8) (hk : k < 256) :
    Calls Try.prog 44 #[.pointer (some ⟨mb, 0, none⟩), .int .i64 x, .int .i64 y, .int .i64 k] w (OpPost w mb cb co cc (Vm.op 3 x y k m)) := by
  have cx := h.reg hx
  have cy := h.reg hy
  have f1 := h.free (2 + x)
  have ix0 : (0 : Int) ≤ (x : Int) := by omega
  have ix1 : (x : Int) < 8 := by omega
  have iy0 : (0 : Int) ≤ (y : Int) := by omega
  have iy1 : (y : Int) < 8 := by omega
  have wx := h.wf x hx
  have wy := h.wf y hy
  have H := Lib.hid h
  clear h
  go_enter Try.func44, Try.ntmps44
  go_wp2_with fail
  go_region
  all_goals
    go_wp2_with fail
    go_ret
    exact post_setRd H.out hx wy

theorem op_add (w : World) (mb cb co cc : Nat) (m : Vm.M) (h : MachAt w mb cb co cc m) (x y k : Nat) (hx : x < 8) (hy : y < 8) (hk : k < 256) :
    Calls Try.prog 45 #[.pointer (some ⟨mb, 0, none⟩), .int .i64 x, .int .i64 y, .int .i64 k] w (OpPost w mb cb co cc (Vm.op 4 x y k m)) := by
  have cx := h.reg hx
  have cy := h.reg hy
  have f1 := h.free (2 + x)
  have ix0 : (0 : Int) ≤ (x : Int) := by omega
  have ix1 : (x : Int) < 8 := by omega
  have iy0 : (0 : Int) ≤ (y : Int) := by omega
  have iy1 : (y : Int) < 8 := by omega
  have wx := h.wf x hx
  have wy := h.wf y hy
  have H := Lib.hid h
  clear h
  go_enter Try.func45, Try.ntmps45
  go_wp2_with fail
  go_region
  all_goals
    go_wp2_with fail
    go_ret
    exact post_setRd H.out hx (wf_wrap _)

theorem op_sub (w : World) (mb cb co cc : Nat) (m : Vm.M) (h : MachAt w mb cb co cc m) (x y k : Nat) (hx : x < 8) (hy : y < 8) (hk : k < 256) :
    Calls Try.prog 46 #[.pointer (some ⟨mb, 0, none⟩), .int .i64 x, .int .i64 y, .int .i64 k] w (OpPost w mb cb co cc (Vm.op 5 x y k m)) := by
  have cx := h.reg hx
  have cy := h.reg hy
  have f1 := h.free (2 + x)
  have ix0 : (0 : Int) ≤ (x : Int) := by omega
  have ix1 : (x : Int) < 8 := by omega
  have iy0 : (0 : Int) ≤ (y : Int) := by omega
  have iy1 : (y : Int) < 8 := by omega
  have wx := h.wf x hx
  have wy := h.wf y hy
  have H := Lib.hid h
  clear h
  go_enter Try.func46, Try.ntmps46
  go_wp2_with fail
  go_region
  all_goals
    go_wp2_with fail
    go_ret
    exact post_setRd H.out hx (wf_wrap _)

theorem op_mul (w : World) (mb cb co cc : Nat) (m : Vm.M) (h : MachAt w mb cb co cc m) (x y k : Nat) (hx : x < 8) (hy : y < 8) (hk : k < 256) :
    Calls Try.prog 47 #[.pointer (some ⟨mb, 0, none⟩), .int .i64 x, .int .i64 y, .int .i64 k] w (OpPost w mb cb co cc (Vm.op 6 x y k m)) := by
  have cx := h.reg hx
  have cy := h.reg hy
  have f1 := h.free (2 + x)
  have ix0 : (0 : Int) ≤ (x : Int) := by omega
  have ix1 : (x : Int) < 8 := by omega
  have iy0 : (0 : Int) ≤ (y : Int) := by omega
  have iy1 : (y : Int) < 8 := by omega
  have wx := h.wf x hx
  have wy := h.wf y hy
  have H := Lib.hid h
  clear h
  go_enter Try.func47, Try.ntmps47
  go_wp2_with fail
  go_region
  all_goals
    go_wp2_with fail
    go_ret
    exact post_setRd H.out hx (wf_wrap _)

theorem op_and (w : World) (mb cb co cc : Nat) (m : Vm.M) (h : MachAt w mb cb co cc m) (x y k : Nat) (hx : x < 8) (hy : y < 8) (hk : k < 256) :
    Calls Try.prog 50 #[.pointer (some ⟨mb, 0, none⟩), .int .i64 x, .int .i64 y, .int .i64 k] w (OpPost w mb cb co cc (Vm.op 9 x y k m)) := by
  have cx := h.reg hx
  have cy := h.reg hy
  have f1 := h.free (2 + x)
  have ix0 : (0 : Int) ≤ (x : Int) := by omega
  have ix1 : (x : Int) < 8 := by omega
  have iy0 : (0 : Int) ≤ (y : Int) := by omega
  have iy1 : (y : Int) < 8 := by omega
  have wx := h.wf x hx
  have wy := h.wf y hy
  have H := Lib.hid h
  clear h
  go_enter Try.func50, Try.ntmps50
  go_wp2_with fail
  go_region
  all_goals
    go_wp2_with fail
    go_ret
    exact post_setRd H.out hx (wf_bits _ _ _ (by simp))

theorem op_or (w : World) (mb cb co cc : Nat) (m : Vm.M) (h : MachAt w mb cb co cc m) (x y k : Nat) (hx : x < 8) (hy : y < 8) (hk : k < 256) :
    Calls Try.prog 51 #[.pointer (some ⟨mb, 0, none⟩), .int .i64 x, .int .i64 y, .int .i64 k] w (OpPost w mb cb co cc (Vm.op 10 x y k m)) := by
  have cx := h.reg hx
  have cy := h.reg hy
  have f1 := h.free (2 + x)
  have ix0 : (0 : Int) ≤ (x : Int) := by omega
  have ix1 : (x : Int) < 8 := by omega
  have iy0 : (0 : Int) ≤ (y : Int) := by omega
  have iy1 : (y : Int) < 8 := by omega
  have wx := h.wf x hx
  have wy := h.wf y hy
  have H := Lib.hid h
  clear h
  go_enter Try.func51, Try.ntmps51
  go_wp2_with fail
  go_region
  all_goals
    go_wp2_with fail
    go_ret
    exact post_setRd H.out hx (wf_bits _ _ _ (by simp))

theorem op_xor (w : World) (mb cb co cc : Nat) (m : Vm.M) (h : MachAt w mb cb co cc m) (x y k : Nat) (hx : x < 8) (hy : y < 8) (hk : k < 256) :
    Calls Try.prog 52 #[.pointer (some ⟨mb, 0, none⟩), .int .i64 x, .int .i64 y, .int .i64 k] w (OpPost w mb cb co cc (Vm.op 11 x y k m)) := by
  have cx := h.reg hx
  have cy := h.reg hy
  have f1 := h.free (2 + x)
  have ix0 : (0 : Int) ≤ (x : Int) := by omega
  have ix1 : (x : Int) < 8 := by omega
  have iy0 : (0 : Int) ≤ (y : Int) := by omega
  have iy1 : (y : Int) < 8 := by omega
  have wx := h.wf x hx
  have wy := h.wf y hy
  have H := Lib.hid h
  clear h
  go_enter Try.func52, Try.ntmps52
  go_wp2_with fail
  go_region
  all_goals
    go_wp2_with fail
    go_ret
    exact post_setRd H.out hx (wf_bits _ _ _ (by simp))

theorem op_div (w : World) (mb cb co cc : Nat) (m : Vm.M) (h : MachAt w mb cb co cc m) (x y k : Nat) (hx : x < 8) (hy : y < 8) (hk : k < 256) :
    Calls Try.prog 48 #[.pointer (some ⟨mb, 0, none⟩), .int .i64 x, .int .i64 y, .int .i64 k] w (OpPost w mb cb co cc (Vm.op 7 x y k m)) := by
  have cx := h.reg hx
  have cy := h.reg hy
  have f1 := h.free (2 + x)
  have ix0 : (0 : Int) ≤ (x : Int) := by omega
  have ix1 : (x : Int) < 8 := by omega
  have iy0 : (0 : Int) ≤ (y : Int) := by omega
  have iy1 : (y : Int) < 8 := by omega
  have wx := h.wf x hx
  have wy := h.wf y hy
  have H := Lib.hid h
  clear h
  go_enter Try.func48, Try.ntmps48
  by_cases h0 : Vm.reg m y = 0
  · have e : Vm.op 7 x y k m = (4, m) := by simp only [Vm.op]; rw [if_pos h0]
    have h0' : (Vm.reg m y == 0) = true := by simpa using h0
    rw [e]
    go_wp2
    go_ret
    exact post_same H.out 4
  · have e := (show Vm.op 7 x y k m = (0, Vm.setR m x (wrap64 ((Vm.reg m x).tdiv (Vm.reg m y)))) from by simp only [Vm.op]; rw [if_neg h0])
    have h0' : (Vm.reg m y == 0) = false := by simpa using h0
    rw [e]
    go_wp2_with fail
    go_region
    all_goals
      go_wp2_with fail
      go_ret
      exact post_setRd H.out hx (wf_wrap _)

theorem op_mod (w : World) (mb cb co cc : Nat) (m : Vm.M) (h : MachAt w mb cb co cc m) (x y k : Nat) (hx : x < 8) (hy : y < 8) (hk : k < 256) :
    Calls Try.prog 49 #[.pointer (some ⟨mb, 0, none⟩), .int .i64 x, .int .i64 y, .int .i64 k] w (OpPost w mb cb co cc (Vm.op 8 x y k m)) := by
  have cx := h.reg hx
  have cy := h.reg hy
  have f1 := h.free (2 + x)
  have ix0 : (0 : Int) ≤ (x : Int) := by omega
  have ix1 : (x : Int) < 8 := by omega
  have iy0 : (0 : Int) ≤ (y : Int) := by omega
  have iy1 : (y : Int) < 8 := by omega
  have wx := h.wf x hx
  have wy := h.wf y hy
  have H := Lib.hid h
  clear h
  go_enter Try.func49, Try.ntmps49
  by_cases h0 : Vm.reg m y = 0
  · have e : Vm.op 8 x y k m = (4, m) := by simp only [Vm.op]; rw [if_pos h0]
    have h0' : (Vm.reg m y == 0) = true := by simpa using h0
    rw [e]
    go_wp2
    go_ret
    exact post_same H.out 4
  · have e := (show Vm.op 8 x y k m = (0, Vm.setR m x ((Vm.reg m x).tmod (Vm.reg m y))) from by simp only [Vm.op]; rw [if_neg h0])
    have h0' : (Vm.reg m y == 0) = false := by simpa using h0
    rw [e]
    go_wp2_with fail
    go_region
    all_goals
      go_wp2_with fail
      go_ret
      exact post_setRd H.out hx (wf_tmod wx)

theorem truth_any (b : Bool) (w : World) : Calls Try.prog 56 #[.bool b] w fun e w' => e = .returned (.int .i64 (if b then 1 else 0)) ∧ w = w' := by
  cases b <;> (go_enter Try.func56, Try.ntmps56; go_wp2; go_ret; exact ⟨rfl, rfl⟩)

theorem there_any (v : Int) (w : World) : Calls Try.prog 66 #[.int .i64 v] w fun e w' => e = .returned (.bool (decide (0 ≤ v ∧ v < 1024))) ∧ w = w' := by
  by_cases h1 : 0 ≤ v
  · by_cases h2 : v < 1024
    · rw [decide_eq_true ⟨h1, h2⟩]
      go_enter Try.func66, Try.ntmps66
      go_wp2
      go_ret
      exact ⟨rfl, rfl⟩
    · rw [decide_eq_false (fun h => h2 h.2)]
      go_enter Try.func66, Try.ntmps66
      go_wp2
      go_ret
      exact ⟨rfl, rfl⟩
  · rw [decide_eq_false (fun h => h1 h.1)]
    go_enter Try.func66, Try.ntmps66
    go_wp2
    go_ret
    exact ⟨rfl, rfl⟩

theorem op_shl (w : World) (mb cb co cc : Nat) (m : Vm.M) (h : MachAt w mb cb co cc m) (x y k : Nat) (hx : x < 8) (hy : y < 8) (hk : k < 256) :
    Calls Try.prog 53 #[.pointer (some ⟨mb, 0, none⟩), .int .i64 x, .int .i64 y, .int .i64 k] w (OpPost w mb cb co cc (Vm.op 12 x y k m)) := by
  have cx := h.reg hx
  have cy := h.reg hy
  have f1 := h.free (2 + x)
  have ix0 : (0 : Int) ≤ (x : Int) := by omega
  have ix1 : (x : Int) < 8 := by omega
  have iy0 : (0 : Int) ≤ (y : Int) := by omega
  have iy1 : (y : Int) < 8 := by omega
  have wx := h.wf x hx
  have wy := h.wf y hy
  have H := Lib.hid h
  clear h
  go_enter Try.func53, Try.ntmps53
  go_wp2_with fail
  go_region
  all_goals
    go_wp2_with fail
    go_ret
    exact post_setRd H.out hx (wf_wrap _)

theorem op_shr (w : World) (mb cb co cc : Nat) (m : Vm.M) (h : MachAt w mb cb co cc m) (x y k : Nat) (hx : x < 8) (hy : y < 8) (hk : k < 256) :
    Calls Try.prog 54 #[.pointer (some ⟨mb, 0, none⟩), .int .i64 x, .int .i64 y, .int .i64 k] w (OpPost w mb cb co cc (Vm.op 13 x y k m)) := by
  have cx := h.reg hx
  have cy := h.reg hy
  have f1 := h.free (2 + x)
  have ix0 : (0 : Int) ≤ (x : Int) := by omega
  have ix1 : (x : Int) < 8 := by omega
  have iy0 : (0 : Int) ≤ (y : Int) := by omega
  have iy1 : (y : Int) < 8 := by omega
  have wx := h.wf x hx
  have wy := h.wf y hy
  have H := Lib.hid h
  clear h
  go_enter Try.func54, Try.ntmps54
  go_wp2_with fail
  go_region
  all_goals
    go_wp2_with fail
    go_ret
    exact post_setRd H.out hx (wf_wrap _)

theorem op_low (w : World) (mb cb co cc : Nat) (m : Vm.M) (h : MachAt w mb cb co cc m) (x y k : Nat) (hx : x < 8) (hy : y < 8) (hk : k < 256) :
    Calls Try.prog 63 #[.pointer (some ⟨mb, 0, none⟩), .int .i64 x, .int .i64 y, .int .i64 k] w (OpPost w mb cb co cc (Vm.op 21 x y k m)) := by
  have cx := h.reg hx
  have cy := h.reg hy
  have f1 := h.free (2 + x)
  have ix0 : (0 : Int) ≤ (x : Int) := by omega
  have ix1 : (x : Int) < 8 := by omega
  have iy0 : (0 : Int) ≤ (y : Int) := by omega
  have iy1 : (y : Int) < 8 := by omega
  have wx := h.wf x hx
  have wy := h.wf y hy
  have H := Lib.hid h
  clear h
  go_enter Try.func63, Try.ntmps63
  go_wp2_with fail
  go_region
  all_goals
    go_wp2_with fail
    go_ret
    exact post_setRd H.out hx (wf_wrap _)

set_option maxHeartbeats 1000000 in
theorem op_lss (w : World) (mb cb co cc : Nat) (m : Vm.M) (h : MachAt w mb cb co cc m) (x y k : Nat) (hx : x < 8) (hy : y < 8) (hk : k < 256) :
    Calls Try.prog 55 #[.pointer (some ⟨mb, 0, none⟩), .int .i64 x, .int .i64 y, .int .i64 k] w (OpPost w mb cb co cc (Vm.op 14 x y k m)) := by
  have cx := h.reg hx
  have cy := h.reg hy
  have f1 := h.free (2 + x)
  have ix0 : (0 : Int) ≤ (x : Int) := by omega
  have ix1 : (x : Int) < 8 := by omega
  have iy0 : (0 : Int) ≤ (y : Int) := by omega
  have iy1 : (y : Int) < 8 := by omega
  have wx := h.wf x hx
  have wy := h.wf y hy
  have H := Lib.hid h
  clear h
  go_enter Try.func55, Try.ntmps55
  by_cases h0 : Vm.reg m x < Vm.reg m y
  · have e : Vm.op 14 x y k m = (0, Vm.setR m x (if Vm.reg m x < Vm.reg m y then 1 else 0)) := rfl
    rw [e]
    rw [if_pos h0]
    have hd : decide (Vm.reg m x < Vm.reg m y) = true := by simpa using h0
    clear h0 e
    go_wp2_with fail
    go_region_with ((go_at_call 56; refine (truth_any _ _).mono ?_; rintro e w' ⟨rfl, rfl⟩))
    all_goals
      go_wp2_with fail
      go_ret
      exact post_setRd H.out hx (by decide)
  · have e : Vm.op 14 x y k m = (0, Vm.setR m x (if Vm.reg m x < Vm.reg m y then 1 else 0)) := rfl
    rw [e]
    rw [if_neg h0]
    have hd : decide (Vm.reg m x < Vm.reg m y) = false := by simpa using h0
    clear h0 e
    go_wp2_with fail
    go_region_with ((go_at_call 56; refine (truth_any _ _).mono ?_; rintro e w' ⟨rfl, rfl⟩))
    all_goals
      go_wp2_with fail
      go_ret
      exact post_setRd H.out hx (by decide)

set_option maxHeartbeats 1000000 in
theorem op_eql (w : World) (mb cb co cc : Nat) (m : Vm.M) (h : MachAt w mb cb co cc m) (x y k : Nat) (hx : x < 8) (hy : y < 8) (hk : k < 256) :
    Calls Try.prog 57 #[.pointer (some ⟨mb, 0, none⟩), .int .i64 x, .int .i64 y, .int .i64 k] w (OpPost w mb cb co cc (Vm.op 15 x y k m)) := by
  have cx := h.reg hx
  have cy := h.reg hy
  have f1 := h.free (2 + x)
  have ix0 : (0 : Int) ≤ (x : Int) := by omega
  have ix1 : (x : Int) < 8 := by omega
  have iy0 : (0 : Int) ≤ (y : Int) := by omega
  have iy1 : (y : Int) < 8 := by omega
  have wx := h.wf x hx
  have wy := h.wf y hy
  have H := Lib.hid h
  clear h
  go_enter Try.func57, Try.ntmps57
  by_cases h0 : Vm.reg m x = Vm.reg m y
  · have e : Vm.op 15 x y k m = (0, Vm.setR m x (if Vm.reg m x = Vm.reg m y then 1 else 0)) := rfl
    rw [e]
    rw [if_pos h0]
    have hd : (Vm.reg m x == Vm.reg m y) = true := by simpa using h0
    clear h0 e
    go_wp2_with fail
    go_region_with ((go_at_call 56; refine (truth_any _ _).mono ?_; rintro e w' ⟨rfl, rfl⟩))
    all_goals
      go_wp2_with fail
      go_ret
      exact post_setRd H.out hx (by decide)
  · have e : Vm.op 15 x y k m = (0, Vm.setR m x (if Vm.reg m x = Vm.reg m y then 1 else 0)) := rfl
    rw [e]
    rw [if_neg h0]
    have hd : (Vm.reg m x == Vm.reg m y) = false := by simpa using h0
    clear h0 e
    go_wp2_with fail
    go_region_with ((go_at_call 56; refine (truth_any _ _).mono ?_; rintro e w' ⟨rfl, rfl⟩))
    all_goals
      go_wp2_with fail
      go_ret
      exact post_setRd H.out hx (by decide)

theorem op_jump (w : World) (mb cb co cc : Nat) (m : Vm.M) (h : MachAt w mb cb co cc m) (x y k : Nat) (hx : x < 8) (hy : y < 8) (hk : k < 256) :
    Calls Try.prog 58 #[.pointer (some ⟨mb, 0, none⟩), .int .i64 x, .int .i64 y, .int .i64 k] w (OpPost w mb cb co cc (Vm.op 16 x y k m)) := by
  have cx := h.reg hx
  have cy := h.reg hy
  have f1 := h.free (2 + x)
  have ix0 : (0 : Int) ≤ (x : Int) := by omega
  have ix1 : (x : Int) < 8 := by omega
  have iy0 : (0 : Int) ≤ (y : Int) := by omega
  have iy1 : (y : Int) < 8 := by omega
  have f2 := h.free 1034
  have c2 := h.pc
  have wx := h.wf x hx
  have wy := h.wf y hy
  have H := Lib.hid h
  clear h
  go_enter Try.func58, Try.ntmps58
  go_wp2
  go_ret
  exact post_setPc H.out _

theorem op_jz (w : World) (mb cb co cc : Nat) (m : Vm.M) (h : MachAt w mb cb co cc m) (x y k : Nat) (hx : x < 8) (hy : y < 8) (hk : k < 256) :
    Calls Try.prog 59 #[.pointer (some ⟨mb, 0, none⟩), .int .i64 x, .int .i64 y, .int .i64 k] w (OpPost w mb cb co cc (Vm.op 17 x y k m)) := by
  have cx := h.reg hx
  have cy := h.reg hy
  have f1 := h.free (2 + x)
  have ix0 : (0 : Int) ≤ (x : Int) := by omega
  have ix1 : (x : Int) < 8 := by omega
  have iy0 : (0 : Int) ≤ (y : Int) := by omega
  have iy1 : (y : Int) < 8 := by omega
  have wx := h.wf x hx
  have wy := h.wf y hy
  have H := Lib.hid h
  clear h
  go_enter Try.func59, Try.ntmps59
  by_cases h0 : Vm.reg m x = 0
  · have h0' : (Vm.reg m x == 0) = true := by simpa using h0
    have e : Vm.op 17 x y k m = Vm.op 16 x y k m := by simp only [Vm.op]; rw [if_pos h0]
    rw [e]
    go_wp2_with fail
    refine (op_jump w mb cb co cc m H.out x y k hx hy hk).mono ?_
    rintro e w' ⟨rfl, h1, h2⟩
    have H1 := Lib.hid h1
    have H2 := Lib.hid h2
    clear h1 h2
    go_wp2
    go_ret
    exact ⟨rfl, H1.out, H2.out⟩
  · have h0' : (Vm.reg m x == 0) = false := by simpa using h0
    have e : Vm.op 17 x y k m = (0, m) := by simp only [Vm.op]; rw [if_neg h0]
    rw [e]
    go_wp2
    go_ret
    exact post_same H.out 0

theorem op_jnz (w : World) (mb cb co cc : Nat) (m : Vm.M) (h : MachAt w mb cb co cc m) (x y k : Nat) (hx : x < 8) (hy : y < 8) (hk : k < 256) :
    Calls Try.prog 60 #[.pointer (some ⟨mb, 0, none⟩), .int .i64 x, .int .i64 y, .int .i64 k] w (OpPost w mb cb co cc (Vm.op 18 x y k m)) := by
  have cx := h.reg hx
  have cy := h.reg hy
  have f1 := h.free (2 + x)
  have ix0 : (0 : Int) ≤ (x : Int) := by omega
  have ix1 : (x : Int) < 8 := by omega
  have iy0 : (0 : Int) ≤ (y : Int) := by omega
  have iy1 : (y : Int) < 8 := by omega
  have wx := h.wf x hx
  have wy := h.wf y hy
  have H := Lib.hid h
  clear h
  go_enter Try.func60, Try.ntmps60
  by_cases h0 : Vm.reg m x = 0
  · have h0' : (Vm.reg m x == 0) = true := by simpa using h0
    have e : Vm.op 18 x y k m = (0, m) := by simp only [Vm.op]; rw [if_pos h0]
    rw [e]
    go_wp2
    go_ret
    exact post_same H.out 0
  · have h0' : (Vm.reg m x == 0) = false := by simpa using h0
    have e : Vm.op 18 x y k m = Vm.op 16 x y k m := by simp only [Vm.op]; rw [if_neg h0]
    rw [e]
    go_wp2_with fail
    refine (op_jump w mb cb co cc m H.out x y k hx hy hk).mono ?_
    rintro e w' ⟨rfl, h1, h2⟩
    have H1 := Lib.hid h1
    have H2 := Lib.hid h2
    clear h1 h2
    go_wp2
    go_ret
    exact ⟨rfl, H1.out, H2.out⟩

theorem op_load (w : World) (mb cb co cc : Nat) (m : Vm.M) (h : MachAt w mb cb co cc m) (x y k : Nat) (hx : x < 8) (hy : y < 8) (hk : k < 256) :
    Calls Try.prog 61 #[.pointer (some ⟨mb, 0, none⟩), .int .i64 x, .int .i64 y, .int .i64 k] w (OpPost w mb cb co cc (Vm.op 19 x y k m)) := by
  have cx := h.reg hx
  have cy := h.reg hy
  have f1 := h.free (2 + x)
  have ix0 : (0 : Int) ≤ (x : Int) := by omega
  have ix1 : (x : Int) < 8 := by omega
  have iy0 : (0 : Int) ≤ (y : Int) := by omega
  have iy1 : (y : Int) < 8 := by omega
  have wx := h.wf x hx
  have wy := h.wf y hy
  have H := Lib.hid h
  clear h
  go_enter Try.func61, Try.ntmps61
  by_cases h0 : 0 ≤ Vm.reg m y ∧ Vm.reg m y < 1024
  · have e : Vm.op 19 x y k m = (0, Vm.setR m x ((m.mem.getD (Vm.reg m y).toNat 0).toNat : Int)) := by simp only [Vm.op]; rw [if_pos h0]
    obtain ⟨j, hj, hj2⟩ : ∃ j : Nat, Vm.reg m y = (j : Int) ∧ j < 1024 := ⟨(Vm.reg m y).toNat, by omega, by omega⟩
    rw [hj] at cy e h0
    rw [Int.toNat_natCast] at e
    have cj := H.out.byte hj2
    unfold byteV at cj
    have hb : (m.mem.getD j 0).toNat < 256 := UInt8.toNat_lt _
    generalize hbb : (m.mem.getD j 0).toNat = bb at *
    rw [e]
    clear hj
    go_wp2_with fail
    refine (there_any _ _).mono ?_
    rintro e w' ⟨rfl, rfl⟩
    rw [decide_eq_true h0]
    go_wp2_with fail
    go_region
    all_goals
      go_wp2_with fail
      go_ret
      exact post_setRd H.out hx (wf_nat (by omega))
  · have e : Vm.op 19 x y k m = (4, m) := by simp only [Vm.op]; rw [if_neg h0]
    rw [e]
    go_wp2_with fail
    refine (there_any _ _).mono ?_
    rintro e w' ⟨rfl, rfl⟩
    rw [decide_eq_false h0]
    go_wp2
    go_ret
    exact post_same H.out 4

theorem op_store (w : World) (mb cb co cc : Nat) (m : Vm.M) (h : MachAt w mb cb co cc m) (x y k : Nat) (hx : x < 8) (hy : y < 8) (hk : k < 256) :
    Calls Try.prog 62 #[.pointer (some ⟨mb, 0, none⟩), .int .i64 x, .int .i64 y, .int .i64 k] w (OpPost w mb cb co cc (Vm.op 20 x y k m)) := by
  have cx := h.reg hx
  have cy := h.reg hy
  have f1 := h.free (2 + x)
  have ix0 : (0 : Int) ≤ (x : Int) := by omega
  have ix1 : (x : Int) < 8 := by omega
  have iy0 : (0 : Int) ≤ (y : Int) := by omega
  have iy1 : (y : Int) < 8 := by omega
  have wx := h.wf x hx
  have wy := h.wf y hy
  have H := Lib.hid h
  clear h
  go_enter Try.func62, Try.ntmps62
  by_cases h0 : 0 ≤ Vm.reg m y ∧ Vm.reg m y < 1024
  · have e : Vm.op 20 x y k m = (0, Vm.setM m (Vm.reg m y).toNat (Vm.byteOf (Vm.reg m x))) := by simp only [Vm.op]; rw [if_pos h0]
    obtain ⟨j, hj, hj2⟩ : ∃ j : Nat, Vm.reg m y = (j : Int) ∧ j < 1024 := ⟨(Vm.reg m y).toNat, by omega, by omega⟩
    rw [hj] at cy e h0
    rw [Int.toNat_natCast] at e
    have cj := H.out.byte hj2
    have fj := H.out.free (10 + j)
    unfold byteV at cj
    rw [e]
    clear hj
    go_wp2_with fail
    refine (there_any _ _).mono ?_
    rintro e w' ⟨rfl, rfl⟩
    rw [decide_eq_true h0]
    go_wp2_with fail
    go_region
    all_goals
      go_wp2_with fail
      go_ret
      have hp := post_setMd H.out hj2 (Vm.byteOf (Vm.reg m x))
      rw [byteV_of] at hp
      exact hp
  · have e : Vm.op 20 x y k m = (4, m) := by simp only [Vm.op]; rw [if_neg h0]
    rw [e]
    go_wp2_with fail
    refine (there_any _ _).mono ?_
    rintro e w' ⟨rfl, rfl⟩
    rw [decide_eq_false h0]
    go_wp2
    go_ret
    exact post_same H.out 4

end Go.Proofs.Ytocjdbenelikpaa
