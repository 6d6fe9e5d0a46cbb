/-
  Runs in parts, in plain Lean.
-/
import Derived.Test.YtocjdbenelikpaaSpec
namespace Go.Proofs.Ytocjdbenelikpaa
open Go.RowKit
set_option linter.unusedVariables false
set_option linter.unusedSimpArgs false
namespace Vm

theorem go_zero' (m : M) : go 0 m = (0, 0, m) := rfl

theorem go_succ (f : Nat) (m : M) : go (f + 1) m = if (m.n : Int) ≤ m.pc then (0, 4, m) else if (Vm.step m).1 = 4 then (0, 4, (Vm.step m).2) else if (Vm.step m).1 = 2 then (1, 2, (Vm.step m).2) else
    if (Vm.step m).1 = 0 then ((go f (next (Vm.step m).2)).1 + 1, (go f (next (Vm.step m).2)).2) else (1, (Vm.step m).1, next (Vm.step m).2) := rfl

theorem step_stop (m : M) : (Vm.step m).1 = 0 ∨ (Vm.step m).1 = 2 ∨ (Vm.step m).1 = 3 ∨ (Vm.step m).1 = 4 := op_stop _ _ _ _ _

theorem go_more (a : Nat) : ∀ (b : Nat) (m : M),
    ((go a m).2.1 = 0 → (go a m).1 = a ∧ go (a + b) m = ((go b (go a m).2.2).1 + a, (go b (go a m).2.2).2)) ∧
    ((go a m).2.1 ≠ 0 → go (a + b) m = go a m) ∧ (go a m).1 ≤ a ∧ ((go a m).2.1 = 0 ∨ (go a m).2.1 = 2 ∨ (go a m).2.1 = 3 ∨ (go a m).2.1 = 4) := by
  induction a with
  | zero =>
    intro b m
    refine ⟨fun _ => ⟨rfl, ?_⟩, fun h => absurd rfl h, Nat.le_refl _, Or.inl rfl⟩
    rw [Nat.zero_add]
    rfl
  | succ a ih =>
    intro b m
    rw [show a + 1 + b = (a + b) + 1 from by omega, go_succ, go_succ]
    by_cases h1 : (m.n : Int) ≤ m.pc
    · simp only [if_pos h1]
      exact ⟨fun h => absurd h (by decide), fun _ => by trivial, by omega, by simp⟩
    · simp only [if_neg h1]
      by_cases h2 : (Vm.step m).1 = 4
      · simp only [if_pos h2]
        exact ⟨fun h => absurd h (by decide), fun _ => by trivial, by omega, by simp⟩
      · simp only [if_neg h2]
        by_cases h3 : (Vm.step m).1 = 2
        · simp only [if_pos h3]
          exact ⟨fun h => absurd h (by decide), fun _ => by trivial, by omega, by simp⟩
        · simp only [if_neg h3]
          by_cases h4 : (Vm.step m).1 = 0
          · simp only [if_pos h4]
            obtain ⟨i1, i2, i3, i4⟩ := ih b (next (Vm.step m).2)
            refine ⟨fun h => ?_, fun h => ?_, by omega, i4⟩
            · obtain ⟨j1, j2⟩ := i1 h
              refine ⟨by omega, ?_⟩
              rw [j2]
              simp only [Prod.mk.injEq, and_true]
              omega
            · rw [i2 h]
          · simp only [if_neg h4]
            rcases step_stop m with h | h | h | h
            · exact absurd h h4
            · exact absurd h h3
            · rw [h]
              exact ⟨fun h => absurd h (by decide), fun _ => by trivial, by omega, by simp⟩
            · exact absurd h h2

theorem at_lt (m : M) (i : Nat) : at_ m i < 256 := UInt8.toNat_lt _

theorem good_next {m : M} (hg : Good m) (hpc : m.pc < m.n) (h0 : (Vm.step m).1 = 0 ∨ (Vm.step m).1 = 3) : Good (next (Vm.step m).2) := by
  obtain ⟨hc, hn, hs⟩ := op_code (at_ m 0) (at_ m 1) (at_ m 2) (at_ m 3) m
  refine ⟨fun i hi => ?_, ?_⟩
  · have hi' : i < m.n := by rw [← hn]; exact hi
    have := hg.code i hi'
    unfold next Vm.step
    dsimp only
    rw [hc, hn]
    exact this
  · have hpc0 := hg.pc.1
    have hx := hg.code m.pc.toNat (by omega)
    unfold next Vm.step
    dsimp only
    rw [hn]
    rcases op_pc (at_ m 0) (at_ m 1) (at_ m 2) (at_ m 3) m with h | ⟨h1, h2, h3, _⟩
    · rw [h]; omega
    · have := hx.2.2.2 ⟨h1, h2⟩
      rw [h3]
      unfold at_
      omega

theorem good_stay {m m' : M} (hg : Good m) (hc : m'.code = m.code) (hn : m'.n = m.n) (hpc : m'.pc = m.pc) : Good m' :=
  ⟨fun i hi => by rw [hc, hn]; exact hg.code i (by rw [← hn]; exact hi), by rw [hpc, hn]; exact hg.pc⟩

/-- what a run keeps. -/
theorem go_keep (a : Nat) : ∀ m : M, Good m → Good (go a m).2.2 ∧ (go a m).2.2.stopped = m.stopped := by
  induction a with
  | zero => intro m hg; exact ⟨hg, rfl⟩
  | succ a ih =>
    intro m hg
    rw [go_succ]
    obtain ⟨hc, hn, hs⟩ := op_code (at_ m 0) (at_ m 1) (at_ m 2) (at_ m 3) m
    by_cases h1 : (m.n : Int) ≤ m.pc
    · simp only [if_pos h1]; exact ⟨hg, trivial⟩
    · simp only [if_neg h1]
      have hpcs : (Vm.step m).1 ≠ 0 → (Vm.step m).2.pc = m.pc := by
        intro h
        rcases op_pc (at_ m 0) (at_ m 1) (at_ m 2) (at_ m 3) m with h' | ⟨_, _, _, h'⟩
        · exact h'
        · exact absurd h' h
      by_cases h2 : (Vm.step m).1 = 4
      · simp only [if_pos h2]
        exact ⟨good_stay hg hc hn (hpcs (by omega)), hs⟩
      · simp only [if_neg h2]
        by_cases h3 : (Vm.step m).1 = 2
        · simp only [if_pos h3]
          exact ⟨good_stay hg hc hn (hpcs (by omega)), hs⟩
        · simp only [if_neg h3]
          by_cases h4 : (Vm.step m).1 = 0
          · simp only [if_pos h4]
            obtain ⟨j1, j2⟩ := ih _ (good_next hg (by omega) (Or.inl h4))
            exact ⟨j1, by rw [j2]; exact hs⟩
          · simp only [if_neg h4]
            have h5 : (Vm.step m).1 = 3 := by
              rcases step_stop m with h | h | h | h
              · exact absurd h h4
              · exact absurd h h3
              · exact h
              · exact absurd h h2
            exact ⟨good_next hg (by omega) (Or.inr h5), hs⟩

/-- the whole of a run, and what is left of it. -/
theorem fin_cases (q : Nat × Int × M) : (q.2.1 = 0 ∧ fin q = (q.1, 1, q.2.2)) ∨ (q.2.1 = 3 ∧ fin q = (q.1, 3, q.2.2)) ∨ ((q.2.1 = 2 ∨ q.2.1 = 4) ∧ fin q = (q.1, q.2.1, { q.2.2 with stopped := q.2.1 })) ∨ (q.2.1 ≠ 0 ∧ q.2.1 ≠ 2 ∧ q.2.1 ≠ 3 ∧ q.2.1 ≠ 4) := by
  unfold fin
  by_cases h0 : q.2.1 = 0
  · left; exact ⟨h0, if_pos h0⟩
  · by_cases h2 : q.2.1 = 2 ∨ q.2.1 = 4
    · right; right; left; exact ⟨h2, by rw [if_neg h0, if_pos h2]⟩
    · by_cases h3 : q.2.1 = 3
      · right; left; refine ⟨h3, ?_⟩; rw [if_neg h0, if_neg h2, ← h3]
      · right; right; right; exact ⟨h0, fun h => h2 (Or.inl h), h3, fun h => h2 (Or.inr h)⟩

theorem fin_good {q : Nat × Int × M} (hg : Good q.2.2) : Good (fin q).2.2 := by
  unfold fin
  split
  · exact hg
  · split
    · exact good_stay hg rfl rfl rfl
    · exact hg

/-- a part of a run: it is the last one, or the rest goes on from there. -/
theorem part (F k left u : Nat) (m0 m1 : M) (hk : k ≤ left) (hgo : go F m0 = ((go left m1).1 + u, (go left m1).2)) :
    ((fin (go k m1)).2.1 = 1 → (go k m1).2.1 = 0 ∧ (fin (go k m1)).1 = k ∧ (fin (go k m1)).2.2 = (go k m1).2.2 ∧ go F m0 = ((go (left - k) (go k m1).2.2).1 + (u + k), (go (left - k) (go k m1).2.2).2)) ∧
    ((fin (go k m1)).2.1 ≠ 1 → fin (go F m0) = ((fin (go k m1)).1 + u, (fin (go k m1)).2)) ∧
    ((fin (go k m1)).1 ≤ k) := by
  obtain ⟨g1, g2, g3, g4⟩ := go_more k (left - k) m1
  rw [show k + (left - k) = left from by omega] at g1 g2
  have hfst : (fin (go k m1)).1 = (go k m1).1 := by unfold fin; split <;> (try split) <;> rfl
  refine ⟨fun h => ?_, fun h => ?_, by omega⟩
  · rcases fin_cases (go k m1) with ⟨h0, hf⟩ | ⟨h0, hf⟩ | ⟨h0, hf⟩ | ⟨h0, h2, h3, h4⟩
    · obtain ⟨i1, i2⟩ := g1 h0
      refine ⟨h0, by omega, by rw [hf], ?_⟩
      rw [hgo, i2]
      simp only [Prod.mk.injEq, and_true]
      omega
    · rw [hf] at h; exact absurd h (show (3 : Int) ≠ 1 by decide)
    · rw [hf] at h; dsimp only at h; omega
    · omega
  · have h0 : (go k m1).2.1 ≠ 0 := by
      intro h0
      apply h
      unfold fin
      rw [if_pos h0]
    rw [hgo, g2 h0]
    unfold fin
    dsimp only
    split
    · rfl
    · split <;> rfl
end Vm
end Go.Proofs.Ytocjdbenelikpaa
