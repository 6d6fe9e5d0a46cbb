/-
  The loop that counts down, in plain Lean.
-/
import Derived.Test.YtocjdbenelikpaaNew
import Derived.Test.YtocjdbenelikpaaBuild
namespace Go.Proofs.Ytocjdbenelikpaa
open Go.RowKit
set_option linter.unusedVariables false
set_option linter.unusedSimpArgs false

namespace Vm
theorem go_zero (m : M) : go 0 m = (0, 0, m) := rfl
theorem go_step (f : Nat) (m m' : M) (hpc : m.pc < m.n) (hs : Vm.step m = (0, m')) : go (f + 1) m = ((go f (next m')).1 + 1, (go f (next m')).2) := by
  have h1 : ¬ ((m.n : Int) ≤ m.pc) := by omega
  simp [Vm.go, h1, hs]
theorem go_halt (f : Nat) (m m' : M) (hpc : m.pc < m.n) (hs : Vm.step m = (2, m')) : go (f + 1) m = (1, 2, m') := by
  have h1 : ¬ ((m.n : Int) ≤ m.pc) := by omega
  simp [Vm.go, h1, hs]
end Vm

namespace Counts
open Vm
def code (n : Nat) : List UInt8 := [2, 0, 0, UInt8.ofNat n, 2, 1, 0, 1, 17, 0, 0, 6, 5, 0, 1, 0, 4, 2, 1, 0, 16, 0, 0, 2, 0, 0, 0, 0]
def img (n : Nat) : List UInt8 := headB 28 0 ++ code n ++ []
def St (n : Nat) (a o c : Int) (pc : Int) : M := { code := code n, n := 7, r := [a, o, c, 0, 0, 0, 0, 0], mem := List.replicate 1024 0, pc := pc, stopped := 0 }

theorem img_valid (n : Nat) : validB (img n) = true := by
  unfold validB
  have e1 : sizesOk (img n) = true := by simp [img, code, sizesOk, lz, headB, headN, List.getD]
  have e2 : headN (img n) 2 = 7 := by simp [img, code, headB, headN, List.getD]
  rw [e1, e2]
  repeat rw [okFrom_step _ _ _ (by omega)]
  rw [okFrom_end _ _ _ (by omega)]
  simp [okAt, byteAt, img, code, headB, List.getD, instrOk, fld, flds]

theorem img_start (n : Nat) : ofImage (img n) = St n 0 0 0 0 := by
  unfold Vm.ofImage St
  have e2 : headN (img n) 2 = 7 := by simp [img, code, headB, headN, List.getD]
  rw [e2]
  simp [img, code, headB, -List.reduceReplicate]
  rfl

section
variable (n : Nat) (a o c : Int)
theorem w64 {v : Int} (h0 : 0 ≤ v) (h1 : v < 1000) : wrap64 v = v := by
  unfold wrap64; omega
theorem s0 (hn : n < 256) : Vm.step (St n a o c 0) = (0, St n n o c 0) := by
  simp [Vm.step, Vm.at_, St, code, Vm.op, Vm.setR, Vm.reg, List.getD, -List.reduceReplicate]; omega
theorem s1 : Vm.step (St n a o c 1) = (0, St n a 1 c 1) := by
  simp [Vm.step, Vm.at_, St, code, Vm.op, Vm.setR, Vm.reg, List.getD, -List.reduceReplicate]
theorem s2z : Vm.step (St n 0 o c 2) = (0, St n 0 o c 5) := by
  simp [Vm.step, Vm.at_, St, code, Vm.op, Vm.setR, Vm.reg, List.getD, -List.reduceReplicate]
theorem s2 (ha : a ≠ 0) : Vm.step (St n a o c 2) = (0, St n a o c 2) := by
  simp [Vm.step, Vm.at_, St, code, Vm.op, Vm.setR, Vm.reg, List.getD, -List.reduceReplicate, ha]
theorem s3 (h0 : 0 < a) (h1 : a < 256) : Vm.step (St n a 1 c 3) = (0, St n (a - 1) 1 c 3) := by
  simp [Vm.step, Vm.at_, St, code, Vm.op, Vm.setR, Vm.reg, List.getD, -List.reduceReplicate, w64 (v := a - 1) (by omega) (by omega)]
theorem s4 (h0 : 0 ≤ c) (h1 : c < 256) : Vm.step (St n a 1 c 4) = (0, St n a 1 (c + 1) 4) := by
  simp [Vm.step, Vm.at_, St, code, Vm.op, Vm.setR, Vm.reg, List.getD, -List.reduceReplicate, w64 (v := c + 1) (by omega) (by omega)]
theorem s5 : Vm.step (St n a o c 5) = (0, St n a o c 1) := by
  simp [Vm.step, Vm.at_, St, code, Vm.op, Vm.setR, Vm.reg, List.getD, -List.reduceReplicate]
theorem s6 : Vm.step (St n a o c 6) = (2, St n a o c 6) := by
  simp [Vm.step, Vm.at_, St, code, Vm.op, Vm.setR, Vm.reg, List.getD, -List.reduceReplicate]
theorem nx (pc : Int) : next (St n a o c pc) = St n a o c (pc + 1) := rfl
theorem pcl (pc : Int) (h : pc < 7) : (St n a o c pc).pc < (St n a o c pc).n := h
end

/-- what a run that is cut off leaves. -/
def Part (n f : Nat) (q : Nat × Int × M) : Prop := q.1 = f ∧ q.2.1 = 0 ∧ 0 ≤ reg q.2.2 0 ∧ 0 ≤ reg q.2.2 2 ∧ reg q.2.2 2 ≤ n ∧ reg q.2.2 0 + reg q.2.2 2 ≤ n

theorem part0 (n : Nat) (a o c pc : Int) (ha : 0 ≤ a) (hc : 0 ≤ c) (h : a + c ≤ n) : Part n 0 (go 0 (St n a o c pc)) :=
  ⟨rfl, rfl, ha, hc, by show c ≤ _; omega, h⟩
theorem partS {n f : Nat} {a o c pc : Int} {m' : M} (hs : Vm.step (St n a o c pc) = (0, m')) (hp : pc < 7) (h : Part n f (go f (next m'))) : Part n (f + 1) (go (f + 1) (St n a o c pc)) := by
  rw [go_step f _ _ (pcl n a o c pc hp) hs]
  exact ⟨by show _ + 1 = _; rw [h.1], h.2⟩

theorem loop (n : Nat) (hn : n < 256) (a : Nat) : ∀ (c f : Nat), a + c = n →
    (4 * a + 2 ≤ f → go f (St n a 1 c 2) = (4 * a + 2, 2, St n 0 1 n 6)) ∧ (f < 4 * a + 2 → Part n f (go f (St n a 1 c 2))) := by
  induction a with
  | zero =>
    intro c f hac
    have hcn : c = n := by omega
    subst hcn
    refine ⟨fun h => ?_, fun h => ?_⟩
    · obtain ⟨f, rfl⟩ : ∃ g, f = g + 1 + 1 := ⟨f - 2, by omega⟩
      show go (f + 1 + 1) (St c 0 1 c 2) = _
      rw [go_step _ _ _ (pcl _ _ _ _ _ (by omega)) (s2z c 1 c), nx, show (5 : Int) + 1 = 6 from rfl, go_halt _ _ _ (pcl _ _ _ _ _ (by omega)) (s6 c 0 1 c)]
    · have : f = 0 ∨ f = 1 := by omega
      rcases this with rfl | rfl
      · exact part0 c 0 1 c 2 (by omega) (by omega) (by omega)
      · exact partS (s2z c 1 c) (by omega) (part0 c 0 1 c 6 (by omega) (by omega) (by omega))
  | succ a ih =>
    intro c f hac
    have ha0 : (0 : Int) < ((a + 1 : Nat) : Int) := by omega
    have e1 := s2 n ((a + 1 : Nat) : Int) 1 c (by omega)
    have e2 := s3 n ((a + 1 : Nat) : Int) c (by omega) (by omega)
    have e3 := s4 n (((a + 1 : Nat) : Int) - 1) c (by omega) (by omega)
    have e4 := s5 n (((a + 1 : Nat) : Int) - 1) 1 ((c : Int) + 1)
    have ea : ((a + 1 : Nat) : Int) - 1 = (a : Int) := by omega
    have ec : (c : Int) + 1 = ((c + 1 : Nat) : Int) := by omega
    have ih' := ih (c + 1)
    have p1 := fun f (h : Part n f (go f (St n ((a + 1 : Nat) : Int) 1 c 3))) => partS e1 (by omega) h
    have p2 := fun f (h : Part n f (go f (St n (((a + 1 : Nat) : Int) - 1) 1 c 4))) => partS e2 (by omega) h
    have p3 := fun f (h : Part n f (go f (St n (((a + 1 : Nat) : Int) - 1) 1 ((c : Int) + 1) 5))) => partS e3 (by omega) h
    have p4 := fun f (h : Part n f (go f (St n (((a + 1 : Nat) : Int) - 1) 1 ((c : Int) + 1) 2))) => partS e4 (by omega) h
    refine ⟨fun h => ?_, fun h => ?_⟩
    · obtain ⟨f, rfl⟩ : ∃ g, f = g + 1 + 1 + 1 + 1 := ⟨f - 4, by omega⟩
      rw [go_step _ _ _ (pcl _ _ _ _ _ (by omega)) e1, nx, show (2 : Int) + 1 = 3 from rfl, go_step _ _ _ (pcl _ _ _ _ _ (by omega)) e2, nx, show (3 : Int) + 1 = 4 from rfl,
        go_step _ _ _ (pcl _ _ _ _ _ (by omega)) e3, nx, show (4 : Int) + 1 = 5 from rfl, go_step _ _ _ (pcl _ _ _ _ _ (by omega)) e4, nx, show (1 : Int) + 1 = 2 from rfl, ea, ec,
        (ih' f (by omega)).1 (by omega)]
      simp only [Prod.mk.injEq, and_true]
      omega
    · match f, h with
      | 0, _ => exact part0 _ _ _ _ _ (by omega) (by omega) (by omega)
      | 1, _ => exact p1 _ (part0 _ _ _ _ _ (by omega) (by omega) (by omega))
      | 2, _ => exact p1 _ (p2 _ (part0 _ _ _ _ _ (by omega) (by omega) (by omega)))
      | 3, _ => exact p1 _ (p2 _ (p3 _ (part0 _ _ _ _ _ (by omega) (by omega) (by omega))))
      | f + 4, h =>
        refine p1 _ (p2 _ (p3 _ (p4 _ ?_)))
        rw [ea, ec]
        exact (ih' f (by omega)).2 (by omega)

/-- the whole. -/
theorem all (n : Nat) (hn : n < 256) (f : Nat) :
    (4 * n + 4 ≤ f → go f (ofImage (img n)) = (4 * n + 4, 2, St n 0 1 n 6)) ∧ (f < 4 * n + 4 → Part n f (go f (ofImage (img n)))) := by
  rw [img_start]
  have e0 := s0 n 0 0 0 hn
  have e1 := s1 n n 0 0
  have p0 := fun f (h : Part n f (go f (St n n 0 0 1))) => partS e0 (by omega) h
  have p1 := fun f (h : Part n f (go f (St n n 1 0 2))) => partS e1 (by omega) h
  refine ⟨fun h => ?_, fun h => ?_⟩
  · obtain ⟨f, rfl⟩ : ∃ g, f = g + 1 + 1 := ⟨f - 2, by omega⟩
    have hl := (loop n hn n 0 f (by omega)).1 (by omega)
    rw [go_step _ _ _ (pcl _ _ _ _ _ (by omega)) e0, nx, show (0 : Int) + 1 = 1 from rfl, go_step _ _ _ (pcl _ _ _ _ _ (by omega)) e1, nx, show (1 : Int) + 1 = 2 from rfl]
    rw [show ((0 : Nat) : Int) = 0 from rfl] at hl
    rw [hl]
  · match f, h with
    | 0, _ => exact part0 _ _ _ _ _ (by omega) (by omega) (by omega)
    | 1, _ => exact p0 _ (part0 _ _ _ _ _ (by omega) (by omega) (by omega))
    | f + 2, h => exact p0 _ (p1 _ ((loop n hn n 0 f (by omega)).2 (by omega)))
end Counts
end Go.Proofs.Ytocjdbenelikpaa
