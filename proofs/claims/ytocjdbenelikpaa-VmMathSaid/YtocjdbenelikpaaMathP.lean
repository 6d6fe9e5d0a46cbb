/-
  One operation and a halt, in plain Lean.
-/
import Derived.Test.YtocjdbenelikpaaCountsP
import Derived.Test.YtocjdbenelikpaaForms
namespace Go.Proofs.Ytocjdbenelikpaa
open Go.RowKit
set_option linter.unusedVariables false
set_option linter.unusedSimpArgs false

namespace MathP
open Vm
def img (c x y k : Nat) : List UInt8 := [76, 90, 0, 2, 0, 0, UInt8.ofNat c, UInt8.ofNat x, UInt8.ofNat y, UInt8.ofNat k, 0, 0, 0, 0]
/-- its machine, the two numbers set. -/
def Mc (c x y k : Nat) (a b : Int) : M := { code := formB c x y k, n := 2, r := [0, a, b, 0, 0, 0, 0, 0], mem := List.replicate 1024 0, pc := 0, stopped := 0 }

theorem img_valid (c x y k : Nat) (hc : c < 256) (hx : x < 256) (hy : y < 256) (hk : k < 256) (h : instrOk 2 c x y k = true) : validB (img c x y k) = true := by
  have e : img c x y k = headB 8 0 ++ formB c x y k ++ [] := by simp [img, headB, formB]
  rw [e, valid_form c x y k hc hx hy hk, h]

theorem img_start (c x y k : Nat) (a b : Int) : setR (setR (Vm.ofImage (img c x y k)) 1 a) 2 b = Mc c x y k a b := by
  unfold Vm.ofImage Mc setR
  have e2 : headN (img c x y k) 2 = 2 := by simp [img, headN, List.getD]
  rw [e2]
  simp [img, formB, -List.reduceReplicate]
  rfl

theorem q256 {z : Nat} (hz : z < 256) : (UInt8.ofNat z).toNat = z := by simp; omega

theorem step0 (c x y k : Nat) (a b : Int) (hc : c < 256) (hx : x < 256) (hy : y < 256) (hk : k < 256) : Vm.step (Mc c x y k a b) = Vm.op c x y k (Mc c x y k a b) := by
  have e : Vm.step (Mc c x y k a b) = Vm.op (UInt8.ofNat c).toNat (UInt8.ofNat x).toNat (UInt8.ofNat y).toNat (UInt8.ofNat k).toNat (Mc c x y k a b) := rfl
  rw [e, q256 hc, q256 hx, q256 hy, q256 hk]

/-- the whole run. -/
theorem whole (c x y k : Nat) (a b : Int) (h0 : 2 ≤ c) (hj : ¬ (16 ≤ c ∧ c ≤ 18)) (hc : c < 256) (hx : x < 256) (hy : y < 256) (hk : k < 256) :
    ((Vm.op c x y k (Mc c x y k a b)).1 = 4 → Vm.fin (Vm.go 9 (Mc c x y k a b)) = (0, 4, { (Vm.op c x y k (Mc c x y k a b)).2 with stopped := 4 })) ∧
    ((Vm.op c x y k (Mc c x y k a b)).1 = 0 → Vm.fin (Vm.go 9 (Mc c x y k a b)) = (2, 2, { next (Vm.op c x y k (Mc c x y k a b)).2 with stopped := 2 })) := by
  have hs := step0 c x y k a b hc hx hy hk
  obtain ⟨hcode, hn, _⟩ := op_code c x y k (Mc c x y k a b)
  have hpc : (Vm.op c x y k (Mc c x y k a b)).2.pc = 0 := by
    rcases op_pc c x y k (Mc c x y k a b) with h | h
    · exact h
    · omega
  refine ⟨fun h => ?_, fun h => ?_⟩
  · have e1 : Vm.go 9 (Mc c x y k a b) = (0, 4, (Vm.op c x y k (Mc c x y k a b)).2) := by
      show Vm.go (8 + 1) _ = _
      have hp : ¬ (((Mc c x y k a b).n : Int) ≤ (Mc c x y k a b).pc) := by show ¬ ((2 : Int) ≤ 0); omega
      simp only [Vm.go]
      rw [if_neg hp, hs, if_pos h]
    rw [e1]; rfl
  · generalize ho : Vm.op c x y k (Mc c x y k a b) = o at *
    obtain ⟨s, m1⟩ := o
    dsimp only at h hcode hn hpc ⊢
    subst h
    have e2 : Vm.step (next m1) = (2, next m1) := by
      have : Vm.step (next m1) = Vm.op (at_ (next m1) 0) (at_ (next m1) 1) (at_ (next m1) 2) (at_ (next m1) 3) (next m1) := rfl
      rw [this]
      have ha : at_ (next m1) 0 = 0 := by
        unfold at_ next
        dsimp only
        rw [hcode, hpc]
        rfl
      rw [ha]; rfl
    have e1 : Vm.go 9 (Mc c x y k a b) = (2, 2, next m1) := by
      show Vm.go (7 + 1 + 1) _ = _
      rw [go_step _ _ _ (by show (0 : Int) < 2; omega) hs, go_halt _ _ _ (by unfold next; dsimp only; rw [hn, hpc]; show (0 : Int) + 1 < 2; omega) e2]
    rw [e1]; rfl

/-- what the law's own run answers. -/
def res (c x y k : Nat) (a b : Int) : Int × Int :=
  if (Vm.op c x y k (Mc c x y k a b)).1 = 4 then (reg (Vm.op c x y k (Mc c x y k a b)).2 1, 4) else (reg (Vm.op c x y k (Mc c x y k a b)).2 1, 2)

theorem res_ok (c x y k : Nat) (a b : Int) (h0 : 2 ≤ c) (hj : ¬ (16 ≤ c ∧ c ≤ 18)) (hc : c < 256) (hx : x < 256) (hy : y < 256) (hk : k < 256) (h4 : (Vm.op c x y k (Mc c x y k a b)).1 = 0 ∨ (Vm.op c x y k (Mc c x y k a b)).1 = 4) :
    reg (Vm.fin (Vm.go 9 (Mc c x y k a b))).2.2 1 = (res c x y k a b).1 ∧ (Vm.fin (Vm.go 9 (Mc c x y k a b))).2.1 = (res c x y k a b).2 := by
  obtain ⟨w1, w2⟩ := whole c x y k a b h0 hj hc hx hy hk
  unfold res
  rcases h4 with h | h
  · rw [w2 h, if_neg (by omega)]
    exact ⟨rfl, rfl⟩
  · rw [w1 h, if_pos h]
    exact ⟨rfl, rfl⟩

def codes (i : Nat) : Nat := [4, 5, 6, 9, 10, 11, 14, 15].getD i 0
def want (a b : Int) (i : Nat) : Int := [wrap64 (a + b), wrap64 (a - b), wrap64 (a * b), bits .and .i64 a b, bits .or .i64 a b, bits .xor .i64 a b, if a < b then 1 else 0, if a = b then 1 else 0].getD i 0

theorem res_codes (a b : Int) (i : Nat) (hi : i < 8) : res (codes i) 1 2 0 a b = (want a b i, 2) ∧ (Vm.op (codes i) 1 2 0 (Mc (codes i) 1 2 0 a b)).1 = 0 := by
  match i, hi with
  | 0, _ | 1, _ | 2, _ | 3, _ | 4, _ | 5, _ | 6, _ | 7, _ => exact ⟨rfl, rfl⟩
  | i + 8, h => exact absurd h (by omega)

theorem codes_ok (i : Nat) (hi : i < 8) : 2 ≤ codes i ∧ ¬ (16 ≤ codes i ∧ codes i ≤ 18) ∧ codes i < 256 ∧ instrOk 2 (codes i) 1 2 0 = true := by
  match i, hi with
  | 0, _ | 1, _ | 2, _ | 3, _ | 4, _ | 5, _ | 6, _ | 7, _ => exact ⟨by decide, by decide, by decide, by decide +kernel⟩
  | i + 8, h => exact absurd h (by omega)

theorem res_quo0 (a : Int) : res 7 1 2 0 a 0 = (a, 4) ∧ (Vm.op 7 1 2 0 (Mc 7 1 2 0 a 0)).1 = 4 := ⟨rfl, rfl⟩
theorem res_rem0 (a : Int) : res 8 1 2 0 a 0 = (a, 4) ∧ (Vm.op 8 1 2 0 (Mc 8 1 2 0 a 0)).1 = 4 := ⟨rfl, rfl⟩
theorem op7 (a b : Int) (hb : b ≠ 0) : Vm.op 7 1 2 0 (Mc 7 1 2 0 a b) = (0, setR (Mc 7 1 2 0 a b) 1 (wrap64 (a.tdiv b))) := by
  have : Vm.op 7 1 2 0 (Mc 7 1 2 0 a b) = if b = 0 then (4, Mc 7 1 2 0 a b) else (0, setR (Mc 7 1 2 0 a b) 1 (wrap64 (a.tdiv b))) := rfl
  rw [this, if_neg hb]
theorem op8 (a b : Int) (hb : b ≠ 0) : Vm.op 8 1 2 0 (Mc 8 1 2 0 a b) = (0, setR (Mc 8 1 2 0 a b) 1 (a.tmod b)) := by
  have : Vm.op 8 1 2 0 (Mc 8 1 2 0 a b) = if b = 0 then (4, Mc 8 1 2 0 a b) else (0, setR (Mc 8 1 2 0 a b) 1 (a.tmod b)) := rfl
  rw [this, if_neg hb]
theorem res_quo (a b : Int) (hb : b ≠ 0) : res 7 1 2 0 a b = (wrap64 (a.tdiv b), 2) := by
  unfold res; rw [op7 a b hb]; rfl
theorem res_rem (a b : Int) (hb : b ≠ 0) : res 8 1 2 0 a b = (a.tmod b, 2) := by
  unfold res; rw [op8 a b hb]; rfl
theorem res_shl (a b : Int) (k : Nat) : res 12 1 0 k a b = (wrap64 (a * 2 ^ (k % 64)), 2) := rfl
theorem res_shr (a b : Int) (k : Nat) : res 13 1 0 k a b = (wrap64 (IntKind.u64.wrap a / 2 ^ (k % 64)), 2) := rfl
theorem res_low (a b : Int) (k : Nat) : res 21 1 0 k a b = (wrap64 (wrap64 (a * 256) + k), 2) := rfl

theorem div_back (a b : Int) (ha : (Lit.int .i64 a).wf = true) : wrap64 (wrap64 (wrap64 (a.tdiv b) * b) + a.tmod b) = a := by
  rw [wf_i64] at ha
  have h1 := Int.mul_tdiv_add_tmod a b
  have key : ∀ x y : Int, wrap64 (wrap64 (wrap64 x * b) + y) = wrap64 (x * b + y) := by
    intro x y
    have e1 : ∀ v, ∃ t : Int, wrap64 v = v + 18446744073709551616 * t := by
      intro v
      refine ⟨-((v + 9223372036854775808) / 18446744073709551616), ?_⟩
      unfold wrap64
      omega
    obtain ⟨t1, h1⟩ := e1 x
    obtain ⟨t2, h2⟩ := e1 (wrap64 x * b)
    rw [h2, h1]
    have e : (x + 18446744073709551616 * t1) * b = x * b + 18446744073709551616 * (t1 * b) := by rw [Int.add_mul, Int.mul_assoc]
    rw [e]
    unfold wrap64
    omega
  rw [key, show a.tdiv b * b = b * a.tdiv b from Int.mul_comm _ _, h1]
  unfold wrap64
  omega
theorem self_back (a : Int) (ha : (Lit.int .i64 a).wf = true) : wrap64 (wrap64 (wrap64 1 * a)) = a := by
  rw [wf_i64] at ha
  have : wrap64 1 = 1 := by unfold wrap64; omega
  rw [this, Int.one_mul]
  unfold wrap64
  omega
theorem u8_and63 (k : Nat) (hk : k < 256) : bits .and .u8 (k : Int) 63 = ((k % 64 : Nat) : Int) := by
  have key : ∀ k : Fin 256, bits .and .u8 ((k.val : Nat) : Int) 63 = ((k.val % 64 : Nat) : Int) := by decide +kernel
  exact key ⟨k, hk⟩
end MathP
end Go.Proofs.Ytocjdbenelikpaa
