/-
  The document's step, walked.
-/
import Derived.Test.YtocjdbenelikpaaRefL
import Derived.Test.YtocjdbenelikpaaStepsP
namespace Go.Proofs.Ytocjdbenelikpaa
open Go.RowKit
set_option linter.unusedVariables false
set_option linter.unusedSimpArgs false

/-- what an instruction leaves. -/
def StepPost (w : World) (rb : Nat) (r : Int × Vm.M) : Ending → World → Prop := fun e w' =>
  (r.1 = 0 → e = .returned (.bool true) ∧ RefAt w' rb (Vm.next r.2)) ∧ (r.1 ≠ 0 → e = .returned (.bool false) ∧ RefAt w' rb r.2) ∧ Chg [rb] w w'

section
variable {w w1 : World} {rb : Nat} {m : Vm.M}
theorem step_setR (h : RefAt w rb m) {x : Nat} (hx : x < 8) {v : Int} (hv : (Lit.int .i64 v).wf = true) :
    StepPost w rb (0, Vm.setR m x v) (.returned (.bool true)) ((w.setCell ⟨rb, 2 + x, none⟩ (.int .i64 v)).setCell ⟨rb, 11, none⟩ (.int .i64 (m.pc + 1))) :=
  ⟨fun _ => ⟨rfl, (h.setR hx v hv).setPc (m.pc + 1)⟩, fun h => absurd rfl h, ((Chg.refl [rb] w).setCell _ _ (by simp)).setCell _ _ (by simp)⟩
theorem setR_same (m : Vm.M) (h8 : m.r.length = 8) {x : Nat} (hx : x < 8) : Vm.setR m x (Vm.reg m x) = m := by
  unfold Vm.setR Vm.reg
  have : m.r.set x (m.r.getD x 0) = m.r := by
    apply List.ext_getElem (by simp)
    intro i h1 h2
    by_cases hi : x = i
    · subst hi; simp [List.getD, List.getElem?_eq_getElem h2]
    · simp [hi]
  rw [this]
theorem step_next (h : RefAt w rb m) {x : Nat} (hx : x < 8) :
    StepPost w rb (0, m) (.returned (.bool true)) ((w.setCell ⟨rb, 2 + x, none⟩ (.int .i64 (Vm.reg m x))).setCell ⟨rb, 11, none⟩ (.int .i64 (m.pc + 1))) := by
  have := step_setR h hx (h.wf x hx)
  rw [setR_same m h.r8 hx] at this
  exact this
theorem step_jump (h : RefAt w rb m) (k : Int) :
    StepPost w rb (0, { m with pc := k - 1 }) (.returned (.bool true)) (w.setCell ⟨rb, 11, none⟩ (.int .i64 k)) :=
  ⟨fun _ => ⟨rfl, by
    have : Vm.next { m with pc := k - 1 } = { m with pc := k } := by unfold Vm.next; simp only [Vm.M.mk.injEq, true_and, and_true]; omega
    rw [this]; exact h.setPc k⟩, fun h => absurd rfl h, (Chg.refl [rb] w).setCell _ _ (by simp)⟩
theorem step_jumpR (h : RefAt w rb m) {x : Nat} (hx : x < 8) (k : Int) :
    StepPost w rb (0, { m with pc := k - 1 }) (.returned (.bool true)) ((w.setCell ⟨rb, 2 + x, none⟩ (.int .i64 (Vm.reg m x))).setCell ⟨rb, 11, none⟩ (.int .i64 k)) := by
  have h1 := h.setR hx _ (h.wf x hx)
  rw [setR_same m h.r8 hx] at h1
  obtain ⟨a, b, c⟩ := step_jump h1 k
  exact ⟨a, b, (((Chg.refl [rb] w).setCell _ _ (by simp))).trans c (by simp)⟩
theorem step_bad (h : RefAt w rb m) : StepPost w rb (4, m) (.returned (.bool false)) w := ⟨fun h => absurd h (show ¬ ((4 : Int) = 0) by decide), fun _ => ⟨rfl, h⟩, Chg.refl _ _⟩
theorem StepPost.from {r : Int × Vm.M} {e : Ending} {w2 : World} (h : StepPost w1 rb r e w2) (hc : Chg [rb] w w1) : StepPost w rb r e w2 := ⟨h.1, h.2.1, hc.trans h.2.2 (by simp)⟩
end

theorem truth_ref (b : Bool) (w : World) : Calls Try.prog 65 #[.bool b] w fun e w' => e = .returned (.int .i64 (if b then 1 else 0)) ∧ w = w' := by
  cases b <;> (go_enter Try.func65, Try.ntmps65; go_wp2; go_ret; exact ⟨rfl, rfl⟩)

theorem divide_ref (a b : Int) (w : World) (hb : b ≠ 0) : Calls Try.prog 64 #[.int .i64 a, .int .i64 b] w fun e w' => e = .returned (.tuple #[.int .i64 (wrap64 (a.tdiv b)), .int .i64 (a.tmod b)]) ∧ Chg [] w w' := by
  by_cases h1 : b = -1
  · subst h1
    have e1 : a.tdiv (-1) = -a := by rw [Int.tdiv_neg, Int.tdiv_one]
    have e2 : a.tmod (-1) = 0 := by rw [Int.tmod_neg, Int.tmod_one]
    rw [e1, e2]
    go_enter Try.func64, Try.ntmps64
    go_wp2
    go_ret2
    exact ⟨rfl, Chg.refl _ _⟩
  · have hb0 : (b == 0) = false := by simpa using hb
    have hb1 : (b == -1) = false := by simpa using h1
    go_enter Try.func64, Try.ntmps64
    go_wp2_with fail
    go_region
    all_goals
      go_wp2_with fail
      go_ret2
      exact ⟨rfl, (Chg.refl [] w).drew⟩

theorem putM_one (m : Vm.M) (h : m.mem.length = 1024) (i : Nat) (hi : i < 1024) (v : UInt8) : Vm.putM m i [v] = Vm.setM m i v := by
  unfold Vm.putM Vm.setM
  rw [List.set_eq_take_append_cons_drop, if_pos (by omega)]
  rfl

set_option maxHeartbeats 2000000 in
set_option maxRecDepth 100000 in
theorem step_2 (w : World) (rb : Nat) (m : Vm.M) (h : RefAt w rb m) (x y k : Nat) (hx : x < 8) (hy : y < 8) (hk : k < 256) (hp : 0 ≤ m.pc ∧ m.pc ≤ 256) :
    Calls Try.prog 40 #[.pointer (some ⟨rb, 0, none⟩), .int .u8 2, .int .u8 x, .int .u8 y, .int .i64 k] w (StepPost w rb (Vm.op 2 x y k m)) := by
  have cx := h.reg hx
  have cy := h.reg hy
  have cp := h.pc
  have f1 := h.free (2 + x)
  have f2 := h.free 11
  have ix0 : (0 : Int) ≤ (x : Int) := by omega
  have ix1 : (x : Int) < 8 := by omega
  have iy0 : (0 : Int) ≤ (y : Int) := by omega
  have iy1 : (y : Int) < 8 := by omega
  have wx := h.wf x hx
  have wy := h.wf y hy
  have H := Lib.hid h
  clear h
  go_enter Try.func40, Try.ntmps40
  go_wp2
  go_ret
  exact step_setR H.out hx (wf_nat (by omega))

set_option maxHeartbeats 2000000 in
set_option maxRecDepth 100000 in
theorem step_3 (w : World) (rb : Nat) (m : Vm.M) (h : RefAt w rb m) (x y k : Nat) (hx : x < 8) (hy : y < 8) (hk : k < 256) (hp : 0 ≤ m.pc ∧ m.pc ≤ 256) :
    Calls Try.prog 40 #[.pointer (some ⟨rb, 0, none⟩), .int .u8 3, .int .u8 x, .int .u8 y, .int .i64 k] w (StepPost w rb (Vm.op 3 x y k m)) := by
  have cx := h.reg hx
  have cy := h.reg hy
  have cp := h.pc
  have f1 := h.free (2 + x)
  have f2 := h.free 11
  have ix0 : (0 : Int) ≤ (x : Int) := by omega
  have ix1 : (x : Int) < 8 := by omega
  have iy0 : (0 : Int) ≤ (y : Int) := by omega
  have iy1 : (y : Int) < 8 := by omega
  have wx := h.wf x hx
  have wy := h.wf y hy
  have H := Lib.hid h
  clear h
  go_enter Try.func40, Try.ntmps40
  go_wp2
  go_ret
  exact step_setR H.out hx wy

set_option maxHeartbeats 2000000 in
set_option maxRecDepth 100000 in
theorem step_4 (w : World) (rb : Nat) (m : Vm.M) (h : RefAt w rb m) (x y k : Nat) (hx : x < 8) (hy : y < 8) (hk : k < 256) (hp : 0 ≤ m.pc ∧ m.pc ≤ 256) :
    Calls Try.prog 40 #[.pointer (some ⟨rb, 0, none⟩), .int .u8 4, .int .u8 x, .int .u8 y, .int .i64 k] w (StepPost w rb (Vm.op 4 x y k m)) := by
  have cx := h.reg hx
  have cy := h.reg hy
  have cp := h.pc
  have f1 := h.free (2 + x)
  have f2 := h.free 11
  have ix0 : (0 : Int) ≤ (x : Int) := by omega
  have ix1 : (x : Int) < 8 := by omega
  have iy0 : (0 : Int) ≤ (y : Int) := by omega
  have iy1 : (y : Int) < 8 := by omega
  have wx := h.wf x hx
  have wy := h.wf y hy
  have H := Lib.hid h
  clear h
  go_enter Try.func40, Try.ntmps40
  go_wp2
  go_ret
  exact step_setR H.out hx (wf_wrap _)

set_option maxHeartbeats 2000000 in
set_option maxRecDepth 100000 in
theorem step_5 (w : World) (rb : Nat) (m : Vm.M) (h : RefAt w rb m) (x y k : Nat) (hx : x < 8) (hy : y < 8) (hk : k < 256) (hp : 0 ≤ m.pc ∧ m.pc ≤ 256) :
    Calls Try.prog 40 #[.pointer (some ⟨rb, 0, none⟩), .int .u8 5, .int .u8 x, .int .u8 y, .int .i64 k] w (StepPost w rb (Vm.op 5 x y k m)) := by
  have cx := h.reg hx
  have cy := h.reg hy
  have cp := h.pc
  have f1 := h.free (2 + x)
  have f2 := h.free 11
  have ix0 : (0 : Int) ≤ (x : Int) := by omega
  have ix1 : (x : Int) < 8 := by omega
  have iy0 : (0 : Int) ≤ (y : Int) := by omega
  have iy1 : (y : Int) < 8 := by omega
  have wx := h.wf x hx
  have wy := h.wf y hy
  have H := Lib.hid h
  clear h
  go_enter Try.func40, Try.ntmps40
  go_wp2
  go_ret
  exact step_setR H.out hx (wf_wrap _)

set_option maxHeartbeats 2000000 in
set_option maxRecDepth 100000 in
theorem step_6 (w : World) (rb : Nat) (m : Vm.M) (h : RefAt w rb m) (x y k : Nat) (hx : x < 8) (hy : y < 8) (hk : k < 256) (hp : 0 ≤ m.pc ∧ m.pc ≤ 256) :
    Calls Try.prog 40 #[.pointer (some ⟨rb, 0, none⟩), .int .u8 6, .int .u8 x, .int .u8 y, .int .i64 k] w (StepPost w rb (Vm.op 6 x y k m)) := by
  have cx := h.reg hx
  have cy := h.reg hy
  have cp := h.pc
  have f1 := h.free (2 + x)
  have f2 := h.free 11
  have ix0 : (0 : Int) ≤ (x : Int) := by omega
  have ix1 : (x : Int) < 8 := by omega
  have iy0 : (0 : Int) ≤ (y : Int) := by omega
  have iy1 : (y : Int) < 8 := by omega
  have wx := h.wf x hx
  have wy := h.wf y hy
  have H := Lib.hid h
  clear h
  go_enter Try.func40, Try.ntmps40
  go_wp2
  go_ret
  exact step_setR H.out hx (wf_wrap _)

set_option maxHeartbeats 2000000 in
set_option maxRecDepth 100000 in
theorem step_12 (w : World) (rb : Nat) (m : Vm.M) (h : RefAt w rb m) (x y k : Nat) (hx : x < 8) (hy : y < 8) (hk : k < 256) (hp : 0 ≤ m.pc ∧ m.pc ≤ 256) :
    Calls Try.prog 40 #[.pointer (some ⟨rb, 0, none⟩), .int .u8 12, .int .u8 x, .int .u8 y, .int .i64 k] w (StepPost w rb (Vm.op 12 x y k m)) := by
  have cx := h.reg hx
  have cy := h.reg hy
  have cp := h.pc
  have f1 := h.free (2 + x)
  have f2 := h.free 11
  have ix0 : (0 : Int) ≤ (x : Int) := by omega
  have ix1 : (x : Int) < 8 := by omega
  have iy0 : (0 : Int) ≤ (y : Int) := by omega
  have iy1 : (y : Int) < 8 := by omega
  have wx := h.wf x hx
  have wy := h.wf y hy
  have H := Lib.hid h
  clear h
  go_enter Try.func40, Try.ntmps40
  go_wp2
  go_ret
  exact step_setR H.out hx (wf_wrap _)

set_option maxHeartbeats 2000000 in
set_option maxRecDepth 100000 in
theorem step_13 (w : World) (rb : Nat) (m : Vm.M) (h : RefAt w rb m) (x y k : Nat) (hx : x < 8) (hy : y < 8) (hk : k < 256) (hp : 0 ≤ m.pc ∧ m.pc ≤ 256) :
    Calls Try.prog 40 #[.pointer (some ⟨rb, 0, none⟩), .int .u8 13, .int .u8 x, .int .u8 y, .int .i64 k] w (StepPost w rb (Vm.op 13 x y k m)) := by
  have cx := h.reg hx
  have cy := h.reg hy
  have cp := h.pc
  have f1 := h.free (2 + x)
  have f2 := h.free 11
  have ix0 : (0 : Int) ≤ (x : Int) := by omega
  have ix1 : (x : Int) < 8 := by omega
  have iy0 : (0 : Int) ≤ (y : Int) := by omega
  have iy1 : (y : Int) < 8 := by omega
  have wx := h.wf x hx
  have wy := h.wf y hy
  have H := Lib.hid h
  clear h
  go_enter Try.func40, Try.ntmps40
  go_wp2
  go_ret
  exact step_setR H.out hx (wf_wrap _)

set_option maxHeartbeats 2000000 in
set_option maxRecDepth 100000 in
theorem step_21 (w : World) (rb : Nat) (m : Vm.M) (h : RefAt w rb m) (x y k : Nat) (hx : x < 8) (hy : y < 8) (hk : k < 256) (hp : 0 ≤ m.pc ∧ m.pc ≤ 256) :
    Calls Try.prog 40 #[.pointer (some ⟨rb, 0, none⟩), .int .u8 21, .int .u8 x, .int .u8 y, .int .i64 k] w (StepPost w rb (Vm.op 21 x y k m)) := by
  have cx := h.reg hx
  have cy := h.reg hy
  have cp := h.pc
  have f1 := h.free (2 + x)
  have f2 := h.free 11
  have ix0 : (0 : Int) ≤ (x : Int) := by omega
  have ix1 : (x : Int) < 8 := by omega
  have iy0 : (0 : Int) ≤ (y : Int) := by omega
  have iy1 : (y : Int) < 8 := by omega
  have wx := h.wf x hx
  have wy := h.wf y hy
  have H := Lib.hid h
  clear h
  go_enter Try.func40, Try.ntmps40
  go_wp2
  go_ret
  exact step_setR H.out hx (wf_wrap _)

set_option maxHeartbeats 2000000 in
set_option maxRecDepth 100000 in
theorem step_9 (w : World) (rb : Nat) (m : Vm.M) (h : RefAt w rb m) (x y k : Nat) (hx : x < 8) (hy : y < 8) (hk : k < 256) (hp : 0 ≤ m.pc ∧ m.pc ≤ 256) :
    Calls Try.prog 40 #[.pointer (some ⟨rb, 0, none⟩), .int .u8 9, .int .u8 x, .int .u8 y, .int .i64 k] w (StepPost w rb (Vm.op 9 x y k m)) := by
  have cx := h.reg hx
  have cy := h.reg hy
  have cp := h.pc
  have f1 := h.free (2 + x)
  have f2 := h.free 11
  have ix0 : (0 : Int) ≤ (x : Int) := by omega
  have ix1 : (x : Int) < 8 := by omega
  have iy0 : (0 : Int) ≤ (y : Int) := by omega
  have iy1 : (y : Int) < 8 := by omega
  have wx := h.wf x hx
  have wy := h.wf y hy
  have H := Lib.hid h
  clear h
  go_enter Try.func40, Try.ntmps40
  go_wp2
  go_ret
  exact step_setR H.out hx (wf_bits _ _ _ (by simp))

set_option maxHeartbeats 2000000 in
set_option maxRecDepth 100000 in
theorem step_10 (w : World) (rb : Nat) (m : Vm.M) (h : RefAt w rb m) (x y k : Nat) (hx : x < 8) (hy : y < 8) (hk : k < 256) (hp : 0 ≤ m.pc ∧ m.pc ≤ 256) :
    Calls Try.prog 40 #[.pointer (some ⟨rb, 0, none⟩), .int .u8 10, .int .u8 x, .int .u8 y, .int .i64 k] w (StepPost w rb (Vm.op 10 x y k m)) := by
  have cx := h.reg hx
  have cy := h.reg hy
  have cp := h.pc
  have f1 := h.free (2 + x)
  have f2 := h.free 11
  have ix0 : (0 : Int) ≤ (x : Int) := by omega
  have ix1 : (x : Int) < 8 := by omega
  have iy0 : (0 : Int) ≤ (y : Int) := by omega
  have iy1 : (y : Int) < 8 := by omega
  have wx := h.wf x hx
  have wy := h.wf y hy
  have H := Lib.hid h
  clear h
  go_enter Try.func40, Try.ntmps40
  go_wp2
  go_ret
  exact step_setR H.out hx (wf_bits _ _ _ (by simp))

set_option maxHeartbeats 2000000 in
set_option maxRecDepth 100000 in
theorem step_11 (w : World) (rb : Nat) (m : Vm.M) (h : RefAt w rb m) (x y k : Nat) (hx : x < 8) (hy : y < 8) (hk : k < 256) (hp : 0 ≤ m.pc ∧ m.pc ≤ 256) :
    Calls Try.prog 40 #[.pointer (some ⟨rb, 0, none⟩), .int .u8 11, .int .u8 x, .int .u8 y, .int .i64 k] w (StepPost w rb (Vm.op 11 x y k m)) := by
  have cx := h.reg hx
  have cy := h.reg hy
  have cp := h.pc
  have f1 := h.free (2 + x)
  have f2 := h.free 11
  have ix0 : (0 : Int) ≤ (x : Int) := by omega
  have ix1 : (x : Int) < 8 := by omega
  have iy0 : (0 : Int) ≤ (y : Int) := by omega
  have iy1 : (y : Int) < 8 := by omega
  have wx := h.wf x hx
  have wy := h.wf y hy
  have H := Lib.hid h
  clear h
  go_enter Try.func40, Try.ntmps40
  go_wp2
  go_ret
  exact step_setR H.out hx (wf_bits _ _ _ (by simp))

set_option maxHeartbeats 2000000 in
set_option maxRecDepth 100000 in
theorem step_7 (w : World) (rb : Nat) (m : Vm.M) (h : RefAt w rb m) (x y k : Nat) (hx : x < 8) (hy : y < 8) (hk : k < 256) (hp : 0 ≤ m.pc ∧ m.pc ≤ 256) :
    Calls Try.prog 40 #[.pointer (some ⟨rb, 0, none⟩), .int .u8 7, .int .u8 x, .int .u8 y, .int .i64 k] w (StepPost w rb (Vm.op 7 x y k m)) := by
  have cx := h.reg hx
  have cy := h.reg hy
  have cp := h.pc
  have f1 := h.free (2 + x)
  have f2 := h.free 11
  have ix0 : (0 : Int) ≤ (x : Int) := by omega
  have ix1 : (x : Int) < 8 := by omega
  have iy0 : (0 : Int) ≤ (y : Int) := by omega
  have iy1 : (y : Int) < 8 := by omega
  have wx := h.wf x hx
  have wy := h.wf y hy
  have H := Lib.hid h
  clear h
  by_cases h0 : Vm.reg m y = 0
  · have e : Vm.op 7 x y k m = (4, m) := by simp only [Vm.op]; rw [if_pos h0]
    have h0' : (Vm.reg m y == 0) = true := by simpa using h0
    rw [e]
    go_enter Try.func40, Try.ntmps40
    go_wp2
    go_ret
    exact step_bad H.out
  · have e : Vm.op 7 x y k m = (0, Vm.setR m x (wrap64 ((Vm.reg m x).tdiv (Vm.reg m y)))) := by simp only [Vm.op]; rw [if_neg h0]
    have h0' : (Vm.reg m y == 0) = false := by simpa using h0
    rw [e]
    go_enter Try.func40, Try.ntmps40
    go_wp2_with fail
    refine (divide_ref _ _ w h0).mono ?_
    rintro e w1 ⟨rfl, hc1⟩
    have k1 := hc1.cell cx (by simp)
    have k2 := hc1.cell cp (by simp)
    have H1 := Lib.hid (H.out.kept0 hc1)
    have HC1 := Lib.hid (hc1.mono (G := [rb]) (by simp))
    have g1 := H1.out.free (2 + x)
    have g2 := H1.out.free 11
    clear hc1 cx cy cp f1 f2
    go_wp2
    go_ret
    exact (step_setR H1.out hx (wf_wrap _)).from HC1.out

set_option maxHeartbeats 2000000 in
set_option maxRecDepth 100000 in
theorem step_8 (w : World) (rb : Nat) (m : Vm.M) (h : RefAt w rb m) (x y k : Nat) (hx : x < 8) (hy : y < 8) (hk : k < 256) (hp : 0 ≤ m.pc ∧ m.pc ≤ 256) :
    Calls Try.prog 40 #[.pointer (some ⟨rb, 0, none⟩), .int .u8 8, .int .u8 x, .int .u8 y, .int .i64 k] w (StepPost w rb (Vm.op 8 x y k m)) := by
  have cx := h.reg hx
  have cy := h.reg hy
  have cp := h.pc
  have f1 := h.free (2 + x)
  have f2 := h.free 11
  have ix0 : (0 : Int) ≤ (x : Int) := by omega
  have ix1 : (x : Int) < 8 := by omega
  have iy0 : (0 : Int) ≤ (y : Int) := by omega
  have iy1 : (y : Int) < 8 := by omega
  have wx := h.wf x hx
  have wy := h.wf y hy
  have H := Lib.hid h
  clear h
  by_cases h0 : Vm.reg m y = 0
  · have e : Vm.op 8 x y k m = (4, m) := by simp only [Vm.op]; rw [if_pos h0]
    have h0' : (Vm.reg m y == 0) = true := by simpa using h0
    rw [e]
    go_enter Try.func40, Try.ntmps40
    go_wp2
    go_ret
    exact step_bad H.out
  · have e : Vm.op 8 x y k m = (0, Vm.setR m x ((Vm.reg m x).tmod (Vm.reg m y))) := by simp only [Vm.op]; rw [if_neg h0]
    have h0' : (Vm.reg m y == 0) = false := by simpa using h0
    rw [e]
    go_enter Try.func40, Try.ntmps40
    go_wp2_with fail
    refine (divide_ref _ _ w h0).mono ?_
    rintro e w1 ⟨rfl, hc1⟩
    have k1 := hc1.cell cx (by simp)
    have k2 := hc1.cell cp (by simp)
    have H1 := Lib.hid (H.out.kept0 hc1)
    have HC1 := Lib.hid (hc1.mono (G := [rb]) (by simp))
    have g1 := H1.out.free (2 + x)
    have g2 := H1.out.free 11
    clear hc1 cx cy cp f1 f2
    go_wp2
    go_ret
    exact (step_setR H1.out hx (wf_tmod wx)).from HC1.out

set_option maxHeartbeats 2000000 in
set_option maxRecDepth 100000 in
theorem step_14 (w : World) (rb : Nat) (m : Vm.M) (h : RefAt w rb m) (x y k : Nat) (hx : x < 8) (hy : y < 8) (hk : k < 256) (hp : 0 ≤ m.pc ∧ m.pc ≤ 256) :
    Calls Try.prog 40 #[.pointer (some ⟨rb, 0, none⟩), .int .u8 14, .int .u8 x, .int .u8 y, .int .i64 k] w (StepPost w rb (Vm.op 14 x y k m)) := by
  have cx := h.reg hx
  have cy := h.reg hy
  have cp := h.pc
  have f1 := h.free (2 + x)
  have f2 := h.free 11
  have ix0 : (0 : Int) ≤ (x : Int) := by omega
  have ix1 : (x : Int) < 8 := by omega
  have iy0 : (0 : Int) ≤ (y : Int) := by omega
  have iy1 : (y : Int) < 8 := by omega
  have wx := h.wf x hx
  have wy := h.wf y hy
  have H := Lib.hid h
  clear h
  by_cases h0 : Vm.reg m x < Vm.reg m y
  · have e : Vm.op 14 x y k m = (0, Vm.setR m x (if Vm.reg m x < Vm.reg m y then 1 else 0)) := rfl
    rw [e]
    rw [if_pos h0]
    have hd : decide (Vm.reg m x < Vm.reg m y) = true := by simpa using h0
    clear h0 e
    go_enter Try.func40, Try.ntmps40
    go_wp2_with (go_at_call 65; refine (truth_ref _ _).mono ?_; rintro e w' ⟨rfl, rfl⟩)
    go_ret
    exact step_setR H.out hx (by decide)
  · have e : Vm.op 14 x y k m = (0, Vm.setR m x (if Vm.reg m x < Vm.reg m y then 1 else 0)) := rfl
    rw [e]
    rw [if_neg h0]
    have hd : decide (Vm.reg m x < Vm.reg m y) = false := by simpa using h0
    clear h0 e
    go_enter Try.func40, Try.ntmps40
    go_wp2_with (go_at_call 65; refine (truth_ref _ _).mono ?_; rintro e w' ⟨rfl, rfl⟩)
    go_ret
    exact step_setR H.out hx (by decide)

set_option maxHeartbeats 2000000 in
set_option maxRecDepth 100000 in
theorem step_15 (w : World) (rb : Nat) (m : Vm.M) (h : RefAt w rb m) (x y k : Nat) (hx : x < 8) (hy : y < 8) (hk : k < 256) (hp : 0 ≤ m.pc ∧ m.pc ≤ 256) :
    Calls Try.prog 40 #[.pointer (some ⟨rb, 0, none⟩), .int .u8 15, .int .u8 x, .int .u8 y, .int .i64 k] w (StepPost w rb (Vm.op 15 x y k m)) := by
  have cx := h.reg hx
  have cy := h.reg hy
  have cp := h.pc
  have f1 := h.free (2 + x)
  have f2 := h.free 11
  have ix0 : (0 : Int) ≤ (x : Int) := by omega
  have ix1 : (x : Int) < 8 := by omega
  have iy0 : (0 : Int) ≤ (y : Int) := by omega
  have iy1 : (y : Int) < 8 := by omega
  have wx := h.wf x hx
  have wy := h.wf y hy
  have H := Lib.hid h
  clear h
  by_cases h0 : Vm.reg m x = Vm.reg m y
  · have e : Vm.op 15 x y k m = (0, Vm.setR m x (if Vm.reg m x = Vm.reg m y then 1 else 0)) := rfl
    rw [e]
    rw [if_pos h0]
    have hd : (Vm.reg m x == Vm.reg m y) = true := by simpa using h0
    clear h0 e
    go_enter Try.func40, Try.ntmps40
    go_wp2_with (go_at_call 65; refine (truth_ref _ _).mono ?_; rintro e w' ⟨rfl, rfl⟩)
    go_ret
    exact step_setR H.out hx (by decide)
  · have e : Vm.op 15 x y k m = (0, Vm.setR m x (if Vm.reg m x = Vm.reg m y then 1 else 0)) := rfl
    rw [e]
    rw [if_neg h0]
    have hd : (Vm.reg m x == Vm.reg m y) = false := by simpa using h0
    clear h0 e
    go_enter Try.func40, Try.ntmps40
    go_wp2_with (go_at_call 65; refine (truth_ref _ _).mono ?_; rintro e w' ⟨rfl, rfl⟩)
    go_ret
    exact step_setR H.out hx (by decide)

set_option maxHeartbeats 2000000 in
set_option maxRecDepth 100000 in
theorem step_16 (w : World) (rb : Nat) (m : Vm.M) (h : RefAt w rb m) (x y k : Nat) (hx : x < 8) (hy : y < 8) (hk : k < 256) (hp : 0 ≤ m.pc ∧ m.pc ≤ 256) :
    Calls Try.prog 40 #[.pointer (some ⟨rb, 0, none⟩), .int .u8 16, .int .u8 x, .int .u8 y, .int .i64 k] w (StepPost w rb (Vm.op 16 x y k m)) := by
  have cx := h.reg hx
  have cy := h.reg hy
  have cp := h.pc
  have f1 := h.free (2 + x)
  have f2 := h.free 11
  have ix0 : (0 : Int) ≤ (x : Int) := by omega
  have ix1 : (x : Int) < 8 := by omega
  have iy0 : (0 : Int) ≤ (y : Int) := by omega
  have iy1 : (y : Int) < 8 := by omega
  have wx := h.wf x hx
  have wy := h.wf y hy
  have H := Lib.hid h
  clear h
  go_enter Try.func40, Try.ntmps40
  go_wp2
  go_ret
  exact step_jump H.out k

set_option maxHeartbeats 2000000 in
set_option maxRecDepth 100000 in
theorem step_17 (w : World) (rb : Nat) (m : Vm.M) (h : RefAt w rb m) (x y k : Nat) (hx : x < 8) (hy : y < 8) (hk : k < 256) (hp : 0 ≤ m.pc ∧ m.pc ≤ 256) :
    Calls Try.prog 40 #[.pointer (some ⟨rb, 0, none⟩), .int .u8 17, .int .u8 x, .int .u8 y, .int .i64 k] w (StepPost w rb (Vm.op 17 x y k m)) := by
  have cx := h.reg hx
  have cy := h.reg hy
  have cp := h.pc
  have f1 := h.free (2 + x)
  have f2 := h.free 11
  have ix0 : (0 : Int) ≤ (x : Int) := by omega
  have ix1 : (x : Int) < 8 := by omega
  have iy0 : (0 : Int) ≤ (y : Int) := by omega
  have iy1 : (y : Int) < 8 := by omega
  have wx := h.wf x hx
  have wy := h.wf y hy
  have H := Lib.hid h
  clear h
  by_cases h0 : Vm.reg m x = 0
  · have e : Vm.op 17 x y k m = (0, { m with pc := (k : Int) - 1 }) := by simp only [Vm.op]; rw [if_pos h0]
    have h0' : (Vm.reg m x == 0) = true := by simpa using h0
    rw [e]
    clear h0 e
    go_enter Try.func40, Try.ntmps40
    go_wp2
    go_ret
    exact step_jumpR H.out hx k
  · have e : Vm.op 17 x y k m = (0, m) := by simp only [Vm.op]; rw [if_neg h0]
    have h0' : (Vm.reg m x == 0) = false := by simpa using h0
    rw [e]
    clear h0 e
    go_enter Try.func40, Try.ntmps40
    go_wp2
    go_ret
    exact step_next H.out hx

set_option maxHeartbeats 2000000 in
set_option maxRecDepth 100000 in
theorem step_18 (w : World) (rb : Nat) (m : Vm.M) (h : RefAt w rb m) (x y k : Nat) (hx : x < 8) (hy : y < 8) (hk : k < 256) (hp : 0 ≤ m.pc ∧ m.pc ≤ 256) :
    Calls Try.prog 40 #[.pointer (some ⟨rb, 0, none⟩), .int .u8 18, .int .u8 x, .int .u8 y, .int .i64 k] w (StepPost w rb (Vm.op 18 x y k m)) := by
  have cx := h.reg hx
  have cy := h.reg hy
  have cp := h.pc
  have f1 := h.free (2 + x)
  have f2 := h.free 11
  have ix0 : (0 : Int) ≤ (x : Int) := by omega
  have ix1 : (x : Int) < 8 := by omega
  have iy0 : (0 : Int) ≤ (y : Int) := by omega
  have iy1 : (y : Int) < 8 := by omega
  have wx := h.wf x hx
  have wy := h.wf y hy
  have H := Lib.hid h
  clear h
  by_cases h0 : Vm.reg m x = 0
  · have e : Vm.op 18 x y k m = (0, m) := by simp only [Vm.op]; rw [if_pos h0]
    have h0' : (Vm.reg m x == 0) = true := by simpa using h0
    rw [e]
    clear h0 e
    go_enter Try.func40, Try.ntmps40
    go_wp2
    go_ret
    exact step_next H.out hx
  · have e : Vm.op 18 x y k m = (0, { m with pc := (k : Int) - 1 }) := by simp only [Vm.op]; rw [if_neg h0]
    have h0' : (Vm.reg m x == 0) = false := by simpa using h0
    rw [e]
    clear h0 e
    go_enter Try.func40, Try.ntmps40
    go_wp2
    go_ret
    exact step_jumpR H.out hx k

set_option maxHeartbeats 2000000 in
set_option maxRecDepth 100000 in
theorem step_19 (w : World) (rb : Nat) (m : Vm.M) (h : RefAt w rb m) (x y k : Nat) (hx : x < 8) (hy : y < 8) (hk : k < 256) (hp : 0 ≤ m.pc ∧ m.pc ≤ 256) :
    Calls Try.prog 40 #[.pointer (some ⟨rb, 0, none⟩), .int .u8 19, .int .u8 x, .int .u8 y, .int .i64 k] w (StepPost w rb (Vm.op 19 x y k m)) := by
  have cx := h.reg hx
  have cy := h.reg hy
  have cp := h.pc
  have f1 := h.free (2 + x)
  have f2 := h.free 11
  have ix0 : (0 : Int) ≤ (x : Int) := by omega
  have ix1 : (x : Int) < 8 := by omega
  have iy0 : (0 : Int) ≤ (y : Int) := by omega
  have iy1 : (y : Int) < 8 := by omega
  have wx := h.wf x hx
  have wy := h.wf y hy
  have H := Lib.hid h
  clear h
  by_cases h0 : 0 ≤ Vm.reg m y ∧ Vm.reg m y < 1024
  · have e : Vm.op 19 x y k m = (0, Vm.setR m x ((m.mem.getD (Vm.reg m y).toNat 0).toNat : Int)) := by simp only [Vm.op]; rw [if_pos h0]
    rw [e]
    obtain ⟨i, hi⟩ : ∃ i : Nat, Vm.reg m y = (i : Int) := ⟨(Vm.reg m y).toNat, by omega⟩
    rw [hi] at cy h0
    rw [hi]
    have hi2 : i < 1024 := by omega
    have hi3 : (i : Int) < 1024 := by omega
    have hi4 : (0 : Int) ≤ (i : Int) := by omega
    have hsz : (strB m.mem).size = 1024 := by rw [strB_size, H.out.m1k]
    have cm := H.out.mem
    have hg := strB_get m.mem i (by rw [hsz]; exact hi2)
    rw [show (i : Int).toNat = i from by omega]
    have hv := UInt8.toNat_lt (m.mem.getD i 0)
    generalize (m.mem.getD i 0).toNat = V at *
    have hw : IntKind.i64.wrap (V : Int) = (V : Int) := by rw [IntKind.wrap_i64]; omega
    clear h0 e hi wy
    go_enter Try.func40, Try.ntmps40
    go_wp2
    go_ret
    exact step_setR H.out hx (wf_nat (by omega))
  · have e : Vm.op 19 x y k m = (4, m) := by simp only [Vm.op]; rw [if_neg h0]
    rw [e]
    by_cases h1 : Vm.reg m y < 0
    · clear h0
      go_enter Try.func40, Try.ntmps40
      go_wp2
      go_ret
      exact step_bad H.out
    · have h2 : 1024 ≤ Vm.reg m y := by omega
      clear h0
      go_enter Try.func40, Try.ntmps40
      go_wp2
      go_ret
      exact step_bad H.out

set_option maxHeartbeats 2000000 in
set_option maxRecDepth 100000 in
theorem step_20 (w : World) (rb : Nat) (m : Vm.M) (h : RefAt w rb m) (x y k : Nat) (hx : x < 8) (hy : y < 8) (hk : k < 256) (hp : 0 ≤ m.pc ∧ m.pc ≤ 256) :
    Calls Try.prog 40 #[.pointer (some ⟨rb, 0, none⟩), .int .u8 20, .int .u8 x, .int .u8 y, .int .i64 k] w (StepPost w rb (Vm.op 20 x y k m)) := by
  have cx := h.reg hx
  have cy := h.reg hy
  have cp := h.pc
  have f1 := h.free (2 + x)
  have f2 := h.free 11
  have ix0 : (0 : Int) ≤ (x : Int) := by omega
  have ix1 : (x : Int) < 8 := by omega
  have iy0 : (0 : Int) ≤ (y : Int) := by omega
  have iy1 : (y : Int) < 8 := by omega
  have wx := h.wf x hx
  have wy := h.wf y hy
  have H := Lib.hid h
  clear h
  have kc : ∀ v : Int, (convert 26 9 (.slice (some ⟨w.heap.size, 0, none⟩) 1 1)).run Try.prog (w.alloc (.cells #[.int .u8 (v % 256)] 5)) = .ok (.string (strB [Vm.byteOf v])) (w.alloc (.cells #[.int .u8 (v % 256)] 5)) := by
    intro v
    exact run_conv_string (P := Try.prog) _ 26 9 5 Try.underlying26 Try.underlying5 Try.underlying9 (some ⟨w.heap.size, 0, none⟩) 1 [Vm.byteOf v] (fun _ => ⟨_, 0, rfl, fun j u hj => cells_of_take (k := 1) (heap_alloc_new w _) rfl (by
      rw [Nat.zero_add]
      have := byteV_of v
      unfold byteV at this
      simp only [List.map_cons, List.map_nil, this] at hj
      exact hj)⟩)
  have kcx := kc (Vm.reg m x)
  have HA := Lib.hid (H.out.kept0 ((Chg.refl [] w).alloc (.cells #[.int .u8 (Vm.reg m x % 256)] 5)))
  have HCA := Lib.hid ((Chg.refl [rb] w).alloc (.cells #[.int .u8 (Vm.reg m x % 256)] 5))
  clear kc
  by_cases h0 : 0 ≤ Vm.reg m y ∧ Vm.reg m y < 1024
  · have e : Vm.op 20 x y k m = (0, Vm.setM m (Vm.reg m y).toNat (Vm.byteOf (Vm.reg m x))) := by simp only [Vm.op]; rw [if_pos h0]
    rw [e]
    obtain ⟨i, hi⟩ : ∃ i : Nat, Vm.reg m y = (i : Int) := ⟨(Vm.reg m y).toNat, by omega⟩
    rw [hi] at cy h0
    rw [hi]
    have hi2 : i < 1024 := by omega
    have hi3 : (i : Int) < 1024 := by omega
    rw [show (i : Int).toNat = i from by omega]
    clear h0 e hi wy
    go_enter Try.func40, Try.ntmps40
    go_wp2_with fail
    refine (ref_store_in _ rb m HA.out i [Vm.byteOf (Vm.reg m x)] (by simp; omega)).mono ?_
    rintro e w2 ⟨rfl, h2, hc2⟩
    rw [putM_one m H.out.m1k i hi2] at h2
    have g1 := h2.free (2 + x)
    have g2 := h2.free 11
    have k1 := h2.reg hx
    have k2 := h2.pc
    have er : Vm.reg (Vm.setM m i (Vm.byteOf (Vm.reg m x))) x = Vm.reg m x := rfl
    have H2 := Lib.hid h2
    have HC2 := Lib.hid (HCA.out.trans hc2 (by simp))
    clear h2 hc2 cx cy cp f1 f2 kcx
    go_wp2
    go_ret
    exact (step_next H2.out hx).from HC2.out
  · have e : Vm.op 20 x y k m = (4, m) := by simp only [Vm.op]; rw [if_neg h0]
    rw [e]
    go_enter Try.func40, Try.ntmps40
    go_wp2_with fail
    refine (ref_store_out _ rb (Vm.reg m y) [Vm.byteOf (Vm.reg m x)] (by simp; omega)).mono ?_
    rintro e w2 ⟨rfl, rfl⟩
    go_wp2
    go_ret
    exact (step_bad HA.out).from HCA.out

theorem step_ref (w : World) (rb : Nat) (m : Vm.M) (h : RefAt w rb m) (c x y k : Nat) (hc : 2 ≤ c ∧ c < 22) (hx : x < 8) (hy : y < 8) (hk : k < 256) (hp : 0 ≤ m.pc ∧ m.pc ≤ 256) :
    Calls Try.prog 40 #[.pointer (some ⟨rb, 0, none⟩), .int .u8 c, .int .u8 x, .int .u8 y, .int .i64 k] w (StepPost w rb (Vm.op c x y k m)) := by
  match c, hc with
  | 2, _ => exact step_2 w rb m h x y k hx hy hk hp
  | 3, _ => exact step_3 w rb m h x y k hx hy hk hp
  | 4, _ => exact step_4 w rb m h x y k hx hy hk hp
  | 5, _ => exact step_5 w rb m h x y k hx hy hk hp
  | 6, _ => exact step_6 w rb m h x y k hx hy hk hp
  | 7, _ => exact step_7 w rb m h x y k hx hy hk hp
  | 8, _ => exact step_8 w rb m h x y k hx hy hk hp
  | 9, _ => exact step_9 w rb m h x y k hx hy hk hp
  | 10, _ => exact step_10 w rb m h x y k hx hy hk hp
  | 11, _ => exact step_11 w rb m h x y k hx hy hk hp
  | 12, _ => exact step_12 w rb m h x y k hx hy hk hp
  | 13, _ => exact step_13 w rb m h x y k hx hy hk hp
  | 14, _ => exact step_14 w rb m h x y k hx hy hk hp
  | 15, _ => exact step_15 w rb m h x y k hx hy hk hp
  | 16, _ => exact step_16 w rb m h x y k hx hy hk hp
  | 17, _ => exact step_17 w rb m h x y k hx hy hk hp
  | 18, _ => exact step_18 w rb m h x y k hx hy hk hp
  | 19, _ => exact step_19 w rb m h x y k hx hy hk hp
  | 20, _ => exact step_20 w rb m h x y k hx hy hk hp
  | 21, _ => exact step_21 w rb m h x y k hx hy hk hp
  | 0, h => exact absurd h.1 (by omega)
  | 1, h => exact absurd h.1 (by omega)
  | c + 22, h => exact absurd h.2 (by omega)

end Go.Proofs.Ytocjdbenelikpaa
