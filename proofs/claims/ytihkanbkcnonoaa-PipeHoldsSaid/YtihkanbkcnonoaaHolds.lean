/-
  PipeHolds, walked.
-/
import Derived.Test.YtihkanbkcnonoaaOne
namespace Go.Proofs.Ytihkanbkcnonoaa
open Go.RowKit Go.Maps
set_option linter.unusedVariables false

/-- the table while the two ends are held so often. -/
def st (r h : Nat) : Pi.Tb := if r + h = 0 then ⟨[], 2⟩ else one L0 [] r h

theorem st_ok (r h N : Nat) (hr : r ≤ N) (hh : h ≤ N) (hN : 1 ≤ N) : Ok N (st r h) := by
  unfold st
  split
  · exact ⟨by simp [Fine], by simp [Counts], by simp [Below1], by simp, by simp; omega, by simp⟩
  · exact one_ok rfl (by simp) ⟨by omega, by omega⟩ ⟨by omega, by omega⟩ hN

theorem hold_st (r h : Nat) (hp : 0 < r + h) (w : Bool) : Pi.hold (st r h) 1 w = (0, if w then st r (h + 1) else st (r + 1) h) := by
  have e : st r h = one L0 [] r h := by unfold st; rw [if_neg (by omega)]
  rw [e]
  unfold Pi.hold
  rw [find_one]
  cases w
  · have e2 : st (r + 1) h = one L0 [] ((r : Int) + 1) h := by unfold st; rw [if_neg (by omega)]; rfl
    simp only [Bool.false_eq_true, if_false, e2]
    rfl
  · have e2 : st r (h + 1) = one L0 [] r ((h : Int) + 1) := by unfold st; rw [if_neg (by omega)]; rfl
    simp only [if_true, e2]
    rfl

theorem hold_none (w : Bool) : Pi.hold (st 0 0) 1 w = (61, st 0 0) := rfl

theorem drop_false (r h : Nat) (hp : 0 < r) : Pi.drop (st r h) 1 false = (0, st (r - 1) h) := by
  have e : st r h = one L0 [] r h := by unfold st; rw [if_neg (by omega)]
  rw [e]
  unfold Pi.drop
  rw [find_one]
  have h0 : ¬ ((r : Int) = 0) := by omega
  simp only [Bool.false_eq_true, if_false, h0]
  by_cases hz : r = 1 ∧ h = 0
  · obtain ⟨rfl, rfl⟩ := hz
    rfl
  · have h1 : ¬ ((r : Int) - 1 = 0 ∧ (h : Int) = 0) := by omega
    rw [if_neg h1]
    have e2 : st (r - 1) h = one L0 [] ((r : Int) - 1) h := by
      unfold st
      rw [if_neg (by omega)]
      have : ((r - 1 : Nat) : Int) = (r : Int) - 1 := by omega
      rw [this]
    rw [e2]
    rfl

theorem drop_true (r h : Nat) (hp : 0 < h) : Pi.drop (st r h) 1 true = (0, st r (h - 1)) := by
  have e : st r h = one L0 [] r h := by unfold st; rw [if_neg (by omega)]
  rw [e]
  unfold Pi.drop
  rw [find_one]
  have h0 : ¬ ((h : Int) = 0) := by omega
  simp only [if_true, h0, if_false]
  by_cases hz : r = 0 ∧ h = 1
  · obtain ⟨rfl, rfl⟩ := hz
    rfl
  · have h1 : ¬ ((r : Int) = 0 ∧ (h : Int) - 1 = 0) := by omega
    rw [if_neg h1]
    have e2 : st r (h - 1) = one L0 [] r ((h : Int) - 1) := by
      unfold st
      rw [if_neg (by omega)]
      have : ((h - 1 : Nat) : Int) = (h : Int) - 1 := by omega
      rw [this]
    rw [e2]
    rfl

theorem drop_false0 (h : Nat) (hp : 0 < h) : Pi.drop (st 0 h) 1 false = (61, st 0 h) := by
  have e : st 0 h = one L0 [] 0 h := by unfold st; rw [if_neg (by omega)]; rfl
  rw [e]; rfl
theorem drop_true0 (r : Nat) (hp : 0 < r) : Pi.drop (st r 0) 1 true = (61, st r 0) := by
  have e : st r 0 = one L0 [] r 0 := by unfold st; rw [if_neg (by omega)]; rfl
  rw [e]; rfl

theorem make_st (r h : Nat) : ∃ s, Pi.make (st r h) L0 = ((2, 0), s) := by
  unfold st
  split
  · exact ⟨_, rfl⟩
  · exact ⟨_, rfl⟩

theorem len_st (r h : Nat) : (st r h).ps.length = if 0 < r + h then 1 else 0 := by
  unfold st
  split
  · rw [if_neg (by omega)]; rfl
  · rw [if_pos (by omega)]; rfl

theorem At.store {w0 w : World} {t : Nat} {s : Pi.Tb} {X : List Nat} (h : At w0 w t s X) (p : Addr) (v : Value) (hp : p.block ∈ X) (hn : w0.heap.size ≤ p.block) : At w0 (w.setCell p v) t s X := by
  obtain ⟨own, h1, h2, h3, h4⟩ := h
  have hc := (Chg.refl [p.block] w).setCell p v (by simp)
  have hs := hc.size
  exact ⟨own, h1.kept hc (fun k hk he => by simp at he; subst he; exact (h4 _ hp).2 hk), h2, h3.trans hc (by simpa using hn), fun k hk => ⟨by have := (h4 k hk).1; omega, (h4 k hk).2⟩⟩

end Go.Proofs.Ytihkanbkcnonoaa
