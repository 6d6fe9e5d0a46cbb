/-
  ParseDepth's texts: what reading them says, evaluated.
-/
import Derived.Test.YtfgbbmnmblchiaaDoorPs
namespace Go.Proofs.YtfgbbmnmblchiaaDoor
def opensD (k : Nat) : List UInt8 := if k = 0 then [40, 32] else if k = 1 then [105, 102, 32, 116, 114, 117, 101, 59, 32, 116, 104, 101, 110, 32] else if k = 2 then [119, 104, 105, 108, 101, 32, 102, 97, 108, 115, 101, 59, 32, 100, 111, 32] else [102, 111, 114, 32, 120, 32, 105, 110, 32, 97, 59, 32, 100, 111, 32]
def endsD (k : Nat) : List UInt8 := if k = 0 then [32, 41] else if k = 1 then [59, 32, 102, 105] else [59, 32, 100, 111, 110, 101]
def rep (n : Nat) (x : List UInt8) : List UInt8 := (List.replicate n x).flatten
def textD (n : Nat) (x y : List UInt8) : List UInt8 := rep n x ++ [97] ++ rep n y
def chkD (n k : Nat) : Bool := match Ps.program (textD n (opensD k) (endsD k)) with | (e, a, _) => if n ≤ 16 then e == 0 && a == 0 else e == 12 && a == 16 * (opensD k).length
theorem dc_0_0 : ((List.range 5).all fun i => chkD (0 + i + 1) 0) = true := by decide +kernel
theorem dc_0_1 : ((List.range 5).all fun i => chkD (5 + i + 1) 0) = true := by decide +kernel
theorem dc_0_2 : ((List.range 5).all fun i => chkD (10 + i + 1) 0) = true := by decide +kernel
theorem dc_0_3 : ((List.range 5).all fun i => chkD (15 + i + 1) 0) = true := by decide +kernel
theorem dc_0_4 : ((List.range 5).all fun i => chkD (20 + i + 1) 0) = true := by decide +kernel
theorem dc_0_5 : ((List.range 5).all fun i => chkD (25 + i + 1) 0) = true := by decide +kernel
theorem dc_0_6 : ((List.range 5).all fun i => chkD (30 + i + 1) 0) = true := by decide +kernel
theorem dc_0_7 : ((List.range 5).all fun i => chkD (35 + i + 1) 0) = true := by decide +kernel
theorem dc_1_0 : ((List.range 5).all fun i => chkD (0 + i + 1) 1) = true := by decide +kernel
theorem dc_1_1 : ((List.range 5).all fun i => chkD (5 + i + 1) 1) = true := by decide +kernel
theorem dc_1_2 : ((List.range 5).all fun i => chkD (10 + i + 1) 1) = true := by decide +kernel
theorem dc_1_3 : ((List.range 5).all fun i => chkD (15 + i + 1) 1) = true := by decide +kernel
theorem dc_1_4 : ((List.range 5).all fun i => chkD (20 + i + 1) 1) = true := by decide +kernel
theorem dc_1_5 : ((List.range 5).all fun i => chkD (25 + i + 1) 1) = true := by decide +kernel
theorem dc_1_6 : ((List.range 5).all fun i => chkD (30 + i + 1) 1) = true := by decide +kernel
theorem dc_1_7 : ((List.range 5).all fun i => chkD (35 + i + 1) 1) = true := by decide +kernel
theorem dc_2_0 : ((List.range 5).all fun i => chkD (0 + i + 1) 2) = true := by decide +kernel
theorem dc_2_1 : ((List.range 5).all fun i => chkD (5 + i + 1) 2) = true := by decide +kernel
theorem dc_2_2 : ((List.range 5).all fun i => chkD (10 + i + 1) 2) = true := by decide +kernel
theorem dc_2_3 : ((List.range 5).all fun i => chkD (15 + i + 1) 2) = true := by decide +kernel
theorem dc_2_4 : ((List.range 5).all fun i => chkD (20 + i + 1) 2) = true := by decide +kernel
theorem dc_2_5 : ((List.range 5).all fun i => chkD (25 + i + 1) 2) = true := by decide +kernel
theorem dc_2_6 : ((List.range 5).all fun i => chkD (30 + i + 1) 2) = true := by decide +kernel
theorem dc_2_7 : ((List.range 5).all fun i => chkD (35 + i + 1) 2) = true := by decide +kernel
theorem dc_3_0 : ((List.range 5).all fun i => chkD (0 + i + 1) 3) = true := by decide +kernel
theorem dc_3_1 : ((List.range 5).all fun i => chkD (5 + i + 1) 3) = true := by decide +kernel
theorem dc_3_2 : ((List.range 5).all fun i => chkD (10 + i + 1) 3) = true := by decide +kernel
theorem dc_3_3 : ((List.range 5).all fun i => chkD (15 + i + 1) 3) = true := by decide +kernel
theorem dc_3_4 : ((List.range 5).all fun i => chkD (20 + i + 1) 3) = true := by decide +kernel
theorem dc_3_5 : ((List.range 5).all fun i => chkD (25 + i + 1) 3) = true := by decide +kernel
theorem dc_3_6 : ((List.range 5).all fun i => chkD (30 + i + 1) 3) = true := by decide +kernel
theorem dc_3_7 : ((List.range 5).all fun i => chkD (35 + i + 1) 3) = true := by decide +kernel

theorem chkD_true (n k : Nat) (h1 : 1 ≤ n) (h2 : n ≤ 40) (hk : k < 4) : chkD n k = true := by
  have key : ∀ (b k : Nat), ((List.range 5).all fun i => chkD (b + i + 1) k) = true → b + 1 ≤ n → n ≤ b + 5 → chkD n k = true := fun b k h h3 h4 => by
    have := List.all_eq_true.1 h (n - b - 1) (by simp; omega)
    rwa [show b + (n - b - 1) + 1 = n from by omega] at this
  rcases (show k = 0 ∨ k = 1 ∨ k = 2 ∨ k = 3 from by omega) with rfl | rfl | rfl | rfl
  · rcases (show (0 + 1 ≤ n ∧ n ≤ 0 + 5) ∨ (5 + 1 ≤ n ∧ n ≤ 5 + 5) ∨ (10 + 1 ≤ n ∧ n ≤ 10 + 5) ∨ (15 + 1 ≤ n ∧ n ≤ 15 + 5) ∨ (20 + 1 ≤ n ∧ n ≤ 20 + 5) ∨ (25 + 1 ≤ n ∧ n ≤ 25 + 5) ∨ (30 + 1 ≤ n ∧ n ≤ 30 + 5) ∨ (35 + 1 ≤ n ∧ n ≤ 35 + 5) from by omega) with ⟨a, b⟩ | ⟨a, b⟩ | ⟨a, b⟩ | ⟨a, b⟩ | ⟨a, b⟩ | ⟨a, b⟩ | ⟨a, b⟩ | ⟨a, b⟩
    · exact key 0 0 dc_0_0 a b
    · exact key 5 0 dc_0_1 a b
    · exact key 10 0 dc_0_2 a b
    · exact key 15 0 dc_0_3 a b
    · exact key 20 0 dc_0_4 a b
    · exact key 25 0 dc_0_5 a b
    · exact key 30 0 dc_0_6 a b
    · exact key 35 0 dc_0_7 a b
  · rcases (show (0 + 1 ≤ n ∧ n ≤ 0 + 5) ∨ (5 + 1 ≤ n ∧ n ≤ 5 + 5) ∨ (10 + 1 ≤ n ∧ n ≤ 10 + 5) ∨ (15 + 1 ≤ n ∧ n ≤ 15 + 5) ∨ (20 + 1 ≤ n ∧ n ≤ 20 + 5) ∨ (25 + 1 ≤ n ∧ n ≤ 25 + 5) ∨ (30 + 1 ≤ n ∧ n ≤ 30 + 5) ∨ (35 + 1 ≤ n ∧ n ≤ 35 + 5) from by omega) with ⟨a, b⟩ | ⟨a, b⟩ | ⟨a, b⟩ | ⟨a, b⟩ | ⟨a, b⟩ | ⟨a, b⟩ | ⟨a, b⟩ | ⟨a, b⟩
    · exact key 0 1 dc_1_0 a b
    · exact key 5 1 dc_1_1 a b
    · exact key 10 1 dc_1_2 a b
    · exact key 15 1 dc_1_3 a b
    · exact key 20 1 dc_1_4 a b
    · exact key 25 1 dc_1_5 a b
    · exact key 30 1 dc_1_6 a b
    · exact key 35 1 dc_1_7 a b
  · rcases (show (0 + 1 ≤ n ∧ n ≤ 0 + 5) ∨ (5 + 1 ≤ n ∧ n ≤ 5 + 5) ∨ (10 + 1 ≤ n ∧ n ≤ 10 + 5) ∨ (15 + 1 ≤ n ∧ n ≤ 15 + 5) ∨ (20 + 1 ≤ n ∧ n ≤ 20 + 5) ∨ (25 + 1 ≤ n ∧ n ≤ 25 + 5) ∨ (30 + 1 ≤ n ∧ n ≤ 30 + 5) ∨ (35 + 1 ≤ n ∧ n ≤ 35 + 5) from by omega) with ⟨a, b⟩ | ⟨a, b⟩ | ⟨a, b⟩ | ⟨a, b⟩ | ⟨a, b⟩ | ⟨a, b⟩ | ⟨a, b⟩ | ⟨a, b⟩
    · exact key 0 2 dc_2_0 a b
    · exact key 5 2 dc_2_1 a b
    · exact key 10 2 dc_2_2 a b
    · exact key 15 2 dc_2_3 a b
    · exact key 20 2 dc_2_4 a b
    · exact key 25 2 dc_2_5 a b
    · exact key 30 2 dc_2_6 a b
    · exact key 35 2 dc_2_7 a b
  · rcases (show (0 + 1 ≤ n ∧ n ≤ 0 + 5) ∨ (5 + 1 ≤ n ∧ n ≤ 5 + 5) ∨ (10 + 1 ≤ n ∧ n ≤ 10 + 5) ∨ (15 + 1 ≤ n ∧ n ≤ 15 + 5) ∨ (20 + 1 ≤ n ∧ n ≤ 20 + 5) ∨ (25 + 1 ≤ n ∧ n ≤ 25 + 5) ∨ (30 + 1 ≤ n ∧ n ≤ 30 + 5) ∨ (35 + 1 ≤ n ∧ n ≤ 35 + 5) from by omega) with ⟨a, b⟩ | ⟨a, b⟩ | ⟨a, b⟩ | ⟨a, b⟩ | ⟨a, b⟩ | ⟨a, b⟩ | ⟨a, b⟩ | ⟨a, b⟩
    · exact key 0 3 dc_3_0 a b
    · exact key 5 3 dc_3_1 a b
    · exact key 10 3 dc_3_2 a b
    · exact key 15 3 dc_3_3 a b
    · exact key 20 3 dc_3_4 a b
    · exact key 25 3 dc_3_5 a b
    · exact key 30 3 dc_3_6 a b
    · exact key 35 3 dc_3_7 a b

end Go.Proofs.YtfgbbmnmblchiaaDoor
