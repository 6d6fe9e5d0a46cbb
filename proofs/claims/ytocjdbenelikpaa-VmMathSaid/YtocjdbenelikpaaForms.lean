/-
  VmForms, walked.
-/
import Derived.Test.YtocjdbenelikpaaAwake
import Derived.Test.YtocjdbenelikpaaBuild
namespace Go.Proofs.Ytocjdbenelikpaa
open Go.RowKit
set_option linter.unusedVariables false
set_option linter.unusedSimpArgs false

def WantP (c x y k : Nat) : Prop :=
  if c = 0 ∨ c = 1 then x = 0 ∧ y = 0 ∧ k = 0 else if c = 2 ∨ c = 12 ∨ c = 13 ∨ c = 21 then x ≤ 7 ∧ y ≤ 7 ∧ y = 0 else if c = 16 then x = 0 ∧ y = 0 ∧ k < 2 else
  if c = 17 ∨ c = 18 then x ≤ 7 ∧ y ≤ 7 ∧ y = 0 ∧ k < 2 else x ≤ 7 ∧ y ≤ 7 ∧ k = 0 ∧ c ≤ 20

theorem instrOk_want (c x y k : Nat) : instrOk 2 c x y k = true ↔ WantP c x y k := by
  by_cases hc : 22 ≤ c
  · unfold instrOk WantP
    have h1 : ¬ c < 22 := by omega
    have h2 : ¬ (c = 0 ∨ c = 1) := by omega
    have h3 : ¬ (c = 2 ∨ c = 12 ∨ c = 13 ∨ c = 21) := by omega
    have h4 : ¬ c = 16 := by omega
    have h5 : ¬ (c = 17 ∨ c = 18) := by omega
    simp [h1, h2, h3, h4, h5]
    omega
  · have key : ∀ d, d < 22 → (instrOk 2 d x y k = true ↔ WantP d x y k) := by
      intro d hd
      match d, hd with
      | 0, _ | 1, _ | 2, _ | 3, _ | 4, _ | 5, _ | 6, _ | 7, _ | 8, _ | 9, _ | 10, _ | 11, _ | 12, _ | 13, _ | 14, _ | 15, _ | 16, _ | 17, _ | 18, _ | 19, _ | 20, _ | 21, _ =>
        simp [instrOk, WantP, fld, flds, List.getD]
        omega
      | d + 22, h => exact absurd h (by omega)
    exact key c (by omega)

def formB (c x y k : Nat) : List UInt8 := [UInt8.ofNat c, UInt8.ofNat x, UInt8.ofNat y, UInt8.ofNat k, 0, 0, 0, 0]

theorem valid_form (c x y k : Nat) (hc : c < 256) (hx : x < 256) (hy : y < 256) (hk : k < 256) : validB (headB 8 0 ++ formB c x y k ++ []) = instrOk 2 c x y k := by
  unfold validB
  have e1 : sizesOk (headB 8 0 ++ formB c x y k ++ []) = true := by simp [sizesOk, lz, headB, formB, headN, List.getD]
  have e2 : headN (headB 8 0 ++ formB c x y k ++ []) 2 = 2 := by simp [headB, formB, headN, List.getD]
  rw [e1, e2, okFrom_step _ _ _ (by omega), okFrom_step _ _ _ (by omega), okFrom_end _ _ _ (by omega)]
  have e3 : okAt (headB 8 0 ++ formB c x y k ++ []) 2 (0 + 1) = true := by
    have e4 : okAt (headB 8 0 ++ formB c x y k ++ []) 2 (0 + 1) = instrOk 2 0 0 0 0 := by simp [okAt, byteAt, headB, formB, List.getD]
    rw [e4]; decide +kernel
  rw [e3]
  simp only [Bool.and_true, Bool.true_and]
  unfold okAt byteAt
  have q : ∀ z : Nat, z < 256 → (UInt8.ofNat z).toNat = z := fun z hz => by simp; omega
  show instrOk 2 (UInt8.ofNat c).toNat (UInt8.ofNat x).toNat (UInt8.ofNat y).toNat (UInt8.ofNat k).toNat = _
  rw [q c hc, q x hx, q y hy, q k hk]

set_option maxHeartbeats 4000000 in
set_option maxRecDepth 100000 in
theorem forms_any (w : World) (c x y k : Nat) (hc : c < 256) (hx : x < 256) (hy : y < 256) (hk : k < 256) :
    Calls Try.prog 5 #[.int .u8 c, .int .u8 x, .int .u8 y, .int .u8 k] w fun e w' => e = .returned (.bool true) ∧ Chg [] w w' := by
  have q : ∀ z : Nat, z < 256 → (UInt8.ofNat z).toNat = z := fun z hz => by simp; omega
  have hb : Bytes (w.alloc (.cells #[.int .u8 c, .int .u8 x, .int .u8 y, .int .u8 k, .int .u8 0, .int .u8 0, .int .u8 0, .int .u8 0] 5)) (some ⟨w.heap.size, 0, none⟩) 8 8 (formB c x y k) :=
    ⟨rfl, by unfold maxLen; omega, fun _ => ⟨_, 0, rfl, fun j u hj => cells_of_take (k := 8) (heap_alloc_new w _) rfl (by
      rw [Nat.zero_add]
      unfold formB byteV at hj
      simp only [List.map_cons, List.map_nil, q c hc, q x hx, q y hy, q k hk] at hj
      exact hj)⟩⟩
  have hnil : ∀ w : World, Bytes w none 0 0 [] := fun w => ⟨rfl, by simp, fun h => absurd rfl h⟩
  have HB := Lib.hid hb
  have HV := Lib.hid (valid_form c x y k hc hx hy hk)
  have HW := Lib.hid (instrOk_want c x y k)
  clear hb q
  go_enter Try.func5, Try.ntmps5
  go_wp2_with fail
  refine (build_any _ _ 8 8 _ HB.out none 0 0 [] (hnil _) (by omega) (by omega)).mono ?_
  rintro e w1 ⟨a, len, cap, rfl, hb1, hc1⟩
  have HB1 := Lib.hid hb1
  have HC1 := Lib.hid (((Chg.refl [] w).alloc _).then0 hc1)
  clear hb1 hc1 HB
  go_wp2_with fail
  refine (valid_any w1 a len cap _ HB1.out).mono ?_
  rintro e w2 ⟨rfl, hc2⟩
  have HC2 := Lib.hid (HC1.out.then0 hc2)
  rw [show formB c x y k = formB c x y k from rfl]
  have hv : validB (headB (formB c x y k).length ([] : List UInt8).length ++ formB c x y k ++ []) = instrOk 2 c x y k := HV.out
  rw [hv]
  generalize hV : instrOk 2 c x y k = V at *
  clear HB1 HC1 hc2 hv HV hV hnil
  go_wp2_with (go_at_call 16; refine (awake_any _).mono ?_; rintro e w9 ⟨rfl, h9⟩)
  all_goals
    go_ret
    first
    | exact ⟨rfl, HC2.out.then0 h9⟩
    | (exfalso
       have hw := HW.out
       clear HW HC2
       unfold WantP at hw
       first | grind | (simp_all <;> omega))

end Go.Proofs.Ytocjdbenelikpaa
