/-
  Moves and traps, in plain Lean.
-/
import Derived.Test.YtocjdbenelikpaaCountsP
import Derived.Test.YtocjdbenelikpaaStepsP
namespace Go.Proofs.Ytocjdbenelikpaa
open Go.RowKit
set_option linter.unusedVariables false
set_option linter.unusedSimpArgs false

namespace EndsP
open Vm
def ins (t : Bool) : List UInt8 := if t then [1, 0, 0, 0] else [3, 1, 2, 0]
def codeOf (ts : List Bool) : List UInt8 := ts.flatMap ins
def img (ts : List Bool) : List UInt8 := headB (4 * ts.length) 0 ++ codeOf ts ++ []
def E (ts : List Bool) (p : Nat) : M := { code := codeOf ts, n := ts.length, r := List.replicate 8 0, mem := List.replicate 1024 0, pc := p, stopped := 0 }

theorem ins_len (t : Bool) : (ins t).length = 4 := by cases t <;> rfl
theorem codeOf_len (ts : List Bool) : (codeOf ts).length = 4 * ts.length := by
  induction ts with
  | nil => rfl
  | cons t ts ih =>
    show (ins t ++ codeOf ts).length = _
    rw [List.length_append, ih, ins_len, List.length_cons]; omega

theorem codeOf_at (ts : List Bool) : ∀ (p : Nat) (t : Bool) (j : Nat), ts[p]? = some t → j < 4 → (codeOf ts).getD (4 * p + j) 0 = (ins t).getD j 0 := by
  induction ts with
  | nil => intro p t j h; simp at h
  | cons s ts ih =>
    intro p t j h hj
    show (ins s ++ codeOf ts).getD (4 * p + j) 0 = _
    cases p with
    | zero =>
      simp at h
      subst h
      rw [List.getD_eq_getElem?_getD, List.getD_eq_getElem?_getD, List.getElem?_append_left (by rw [ins_len]; omega)]
      simp
    | succ p =>
      simp at h
      rw [List.getD_eq_getElem?_getD, List.getElem?_append_right (by rw [ins_len]; omega), ins_len, show 4 * (p + 1) + j - 4 = 4 * p + j from by omega, ← List.getD_eq_getElem?_getD]
      exact ih p t j h hj

theorem codeOf_push (ts : List Bool) (t : Bool) : codeOf (ts ++ [t]) = codeOf ts ++ ins t := by
  unfold codeOf; simp

theorem img_len (ts : List Bool) : (img ts).length = 6 + 4 * ts.length := by
  unfold img; rw [List.append_nil, List.length_append, codeOf_len]; rfl
theorem img_at (ts : List Bool) (i : Nat) : (img ts).getD (6 + i) 0 = (codeOf ts).getD i 0 := by
  unfold img headB
  rw [show 6 + i = i + 1 + 1 + 1 + 1 + 1 + 1 from by omega]
  simp [List.getD]
theorem img_n (ts : List Bool) (hn : ts.length ≤ 40) : headN (img ts) 2 = ts.length ∧ headN (img ts) 4 = 0 ∧ lz (img ts) = true := by
  refine ⟨?_, ?_, ?_⟩
  · simp [img, headB, headN, List.getD]; omega
  · simp [img, headB, headN, List.getD]
  · simp [img, headB, lz, List.getD]

theorem img_valid (ts : List Bool) (h1 : 1 ≤ ts.length) (hn : ts.length ≤ 40) : validB (img ts) = true := by
  obtain ⟨e1, e2, e3⟩ := img_n ts hn
  unfold validB sizesOk
  rw [e1, e2, e3, img_len]
  have e4 : decide (1 ≤ ts.length ∧ ts.length ≤ 256 ∧ 0 ≤ 512 ∧ 6 + 4 * ts.length = 6 + 4 * ts.length + 0) = true := by simp; omega
  rw [e4]
  unfold okFrom
  rw [List.drop_zero, Bool.true_and, Bool.true_and, List.all_eq_true]
  intro i hi
  simp at hi
  unfold okAt byteAt
  obtain ⟨t, ht⟩ : ∃ t, ts[i]? = some t := ⟨_, List.getElem?_eq_getElem hi⟩
  rw [show 6 + 4 * i = 6 + (4 * i + 0) from by omega, show 6 + (4 * i + 0) + 1 = 6 + (4 * i + 1) from by omega, show 6 + (4 * i + 0) + 2 = 6 + (4 * i + 2) from by omega, show 6 + (4 * i + 0) + 3 = 6 + (4 * i + 3) from by omega,
    img_at, img_at, img_at, img_at, codeOf_at ts i t 0 ht (by omega), codeOf_at ts i t 1 ht (by omega), codeOf_at ts i t 2 ht (by omega), codeOf_at ts i t 3 ht (by omega)]
  cases t <;> simp [ins, instrOk, fld, flds, List.getD]

theorem img_empty : validB (img []) = false := by
  simp [validB, sizesOk, img, headB, headN, codeOf, List.getD]

theorem img_start (ts : List Bool) (hn : ts.length ≤ 40) : Vm.ofImage (img ts) = E ts 0 := by
  obtain ⟨e1, e2, e3⟩ := img_n ts hn
  unfold Vm.ofImage E
  rw [e1]
  have e4 : ((img ts).drop 6).take (4 * ts.length) = codeOf ts := by
    unfold img headB
    simp only [List.cons_append, List.drop_succ_cons, List.drop_zero, List.nil_append, List.append_nil]
    rw [List.take_of_length_le (by rw [codeOf_len]; omega)]
  have e5 : (img ts).drop (6 + 4 * ts.length) = [] := List.drop_of_length_le (by rw [img_len]; omega)
  rw [e4, e5, img_len, show 1024 - (6 + 4 * ts.length - (6 + 4 * ts.length)) = 1024 from by omega]
  rfl

theorem step_E (ts : List Bool) (p : Nat) (t : Bool) (h : ts[p]? = some t) : Vm.step (E ts p) = if t then (3, E ts p) else (0, E ts p) := by
  have e : Vm.step (E ts p) = Vm.op ((codeOf ts).getD (4 * p + 0) 0).toNat ((codeOf ts).getD (4 * p + 1) 0).toNat ((codeOf ts).getD (4 * p + 2) 0).toNat ((codeOf ts).getD (4 * p + 3) 0).toNat (E ts p) := rfl
  rw [e, codeOf_at ts p t 0 h (by omega), codeOf_at ts p t 1 h (by omega), codeOf_at ts p t 2 h (by omega), codeOf_at ts p t 3 h (by omega)]
  cases t <;> rfl

theorem next_E (ts : List Bool) (p : Nat) : next (E ts p) = E ts (p + 1) := rfl

theorem lt_E {ts : List Bool} {p : Nat} {t : Bool} (h : ts[p]? = some t) : (E ts p).pc < (E ts p).n := by
  have := (List.getElem?_eq_some_iff.1 h).1
  show (p : Int) < (ts.length : Int)
  omega

theorem movs (ts : List Bool) (f : Nat) : ∀ (k p : Nat), (∀ j, j < k → ts[p + j]? = some false) → go (f + k) (E ts p) = ((go f (E ts (p + k))).1 + k, (go f (E ts (p + k))).2) := by
  intro k
  induction k with
  | zero => intro p _; rfl
  | succ k ih =>
    intro p h
    have h0 := h 0 (by omega)
    rw [Nat.add_zero] at h0
    rw [show f + (k + 1) = (f + k) + 1 from by omega, go_step _ _ _ (lt_E h0) (step_E ts p false h0), next_E, ih (p + 1) (fun j hj => by rw [show p + 1 + j = p + (j + 1) from by omega]; exact h (j + 1) (by omega)), show p + 1 + k = p + (k + 1) from by omega]
    rfl

theorem trap (ts : List Bool) (f p : Nat) (h : ts[p]? = some true) : go (f + 1) (E ts p) = (1, 3, E ts (p + 1)) := by
  have hp : ¬ (((E ts p).n : Int) ≤ (E ts p).pc) := by have := lt_E h; omega
  rw [go_succ, if_neg hp, step_E ts p true h]
  simp [next_E]

theorem ends (ts : List Bool) (f : Nat) : go (f + 1) (E ts ts.length) = (0, 4, E ts ts.length) := by
  rw [go_succ, if_pos (by show (ts.length : Int) ≤ (ts.length : Int); omega)]

theorem run_trap (ts : List Bool) (at_ i : Nat) (h1 : at_ ≤ i) (h2 : i < 40) (hf : ∀ j, at_ ≤ j → j < i → ts[j]? = some false) (ht : ts[i]? = some true) : fin (go 99 (E ts at_)) = (i + 1 - at_, 3, E ts (i + 1)) := by
  have e := movs ts (98 - (i - at_) + 1) (i - at_) at_ (fun j hj => hf _ (by omega) (by omega))
  rw [show 98 - (i - at_) + 1 + (i - at_) = 99 from by omega, show at_ + (i - at_) = i from by omega, trap ts _ i ht] at e
  rw [e]
  unfold fin
  simp
  omega

theorem run_end (ts : List Bool) (at_ : Nat) (h1 : at_ ≤ ts.length) (h2 : ts.length ≤ 40) (hf : ∀ j, at_ ≤ j → j < ts.length → ts[j]? = some false) : fin (go 99 (E ts at_)) = (ts.length - at_, 4, { E ts ts.length with stopped := 4 }) := by
  have e := movs ts (98 - (ts.length - at_) + 1) (ts.length - at_) at_ (fun j hj => hf _ (by omega) (by omega))
  rw [show 98 - (ts.length - at_) + 1 + (ts.length - at_) = 99 from by omega, show at_ + (ts.length - at_) = ts.length from by omega, ends ts _] at e
  rw [e]
  unfold fin
  simp

theorem good_E (ts : List Bool) (h1 : 1 ≤ ts.length) (hn : ts.length ≤ 40) (p : Nat) (hp : p ≤ ts.length) : Vm.Good (E ts p) := by
  have := ofImage_good (img ts) (img_valid ts h1 hn)
  rw [img_start ts hn] at this
  exact ⟨this.code, by show (0 : Int) ≤ (p : Int) ∧ (p : Int) ≤ (ts.length : Int); omega⟩
end EndsP
end Go.Proofs.Ytocjdbenelikpaa
