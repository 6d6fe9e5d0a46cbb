/-
  ParseWords' texts: what reading them says, evaluated.
-/
import Derived.Test.YtfgbbmnmblchiaaDoorPs
namespace Go.Proofs.YtfgbbmnmblchiaaDoor
def letW (i : Nat) : UInt8 := UInt8.ofNat (97 + i)
def vwW (i : Nat) : List UInt8 := [118, letW i, 61, 120, 36, 121, 32]
def signW (i : Nat) : List UInt8 := if i % 3 = 0 then [60] else if i % 3 = 1 then [62] else [62, 62]
def frW (i : Nat) : List UInt8 := signW i ++ [32, 102, letW i, 32]
def wwW (i : Nat) : List UInt8 := [119, letW i, 61, 49, 32] ++ (if i = 0 then [39, 39, 32] else [])
def t1W : Nat → List UInt8
  | 0 => []
  | n + 1 => t1W n ++ vwW n
def t2W (b c : Nat) : Nat → List UInt8
  | 0 => []
  | n + 1 => t2W b c n ++ (if n < c then frW n else []) ++ (if n < b then wwW n else [])
def midW (a b c n : Nat) : List UInt8 := t1W a ++ t2W b c n
def textW (a b c : Nat) : List UInt8 := midW a b c (max b c)
def redW (c : Nat) (l : List Ps.RedP) : Bool := (List.range c).all fun i => match l[i]? with
  | some r => r.kind == ((i % 3 + 1 : Nat) : Int) && (match r.word with | [p] => p.text == [102, letW i] | _ => false)
  | none => false
def chk1W (a b c : Nat) : Bool := match Ps.program ([39, 39, 32] ++ textW a b c) with
  | (e, _, n) => e == 0 && (match n.kids with | [m] => m.kind == 5 && m.sets.length == 0 && m.words.length == 2 + a + b && m.reds.length == c && redW c m.reds | _ => false)
def chk2W (a b c : Nat) : Bool := match Ps.program (textW a b c) with
  | (e, _, n) => e == 0 && (match n.kids with | [m] => m.sets.length == a + 1 && m.words.length == b | _ => false)
def chkW (a b c : Nat) : Bool := chk1W a b c && chk2W a b c
theorem wc_0_0 : ((List.range 8).all fun c => chkW 0 1 c) = true := by decide +kernel
theorem wc_0_1 : ((List.range 8).all fun c => chkW 0 2 c) = true := by decide +kernel
theorem wc_0_2 : ((List.range 8).all fun c => chkW 0 3 c) = true := by decide +kernel
theorem wc_0_3 : ((List.range 8).all fun c => chkW 0 4 c) = true := by decide +kernel
theorem wc_0_4 : ((List.range 8).all fun c => chkW 0 5 c) = true := by decide +kernel
theorem wc_0_5 : ((List.range 8).all fun c => chkW 0 6 c) = true := by decide +kernel
theorem wc_0_6 : ((List.range 8).all fun c => chkW 0 7 c) = true := by decide +kernel
theorem wc_0_7 : ((List.range 8).all fun c => chkW 0 8 c) = true := by decide +kernel
theorem wc_1_0 : ((List.range 8).all fun c => chkW 1 1 c) = true := by decide +kernel
theorem wc_1_1 : ((List.range 8).all fun c => chkW 1 2 c) = true := by decide +kernel
theorem wc_1_2 : ((List.range 8).all fun c => chkW 1 3 c) = true := by decide +kernel
theorem wc_1_3 : ((List.range 8).all fun c => chkW 1 4 c) = true := by decide +kernel
theorem wc_1_4 : ((List.range 8).all fun c => chkW 1 5 c) = true := by decide +kernel
theorem wc_1_5 : ((List.range 8).all fun c => chkW 1 6 c) = true := by decide +kernel
theorem wc_1_6 : ((List.range 8).all fun c => chkW 1 7 c) = true := by decide +kernel
theorem wc_1_7 : ((List.range 8).all fun c => chkW 1 8 c) = true := by decide +kernel
theorem wc_2_0 : ((List.range 8).all fun c => chkW 2 1 c) = true := by decide +kernel
theorem wc_2_1 : ((List.range 8).all fun c => chkW 2 2 c) = true := by decide +kernel
theorem wc_2_2 : ((List.range 8).all fun c => chkW 2 3 c) = true := by decide +kernel
theorem wc_2_3 : ((List.range 8).all fun c => chkW 2 4 c) = true := by decide +kernel
theorem wc_2_4 : ((List.range 8).all fun c => chkW 2 5 c) = true := by decide +kernel
theorem wc_2_5 : ((List.range 8).all fun c => chkW 2 6 c) = true := by decide +kernel
theorem wc_2_6 : ((List.range 8).all fun c => chkW 2 7 c) = true := by decide +kernel
theorem wc_2_7 : ((List.range 8).all fun c => chkW 2 8 c) = true := by decide +kernel
theorem wc_3_0 : ((List.range 8).all fun c => chkW 3 1 c) = true := by decide +kernel
theorem wc_3_1 : ((List.range 8).all fun c => chkW 3 2 c) = true := by decide +kernel
theorem wc_3_2 : ((List.range 8).all fun c => chkW 3 3 c) = true := by decide +kernel
theorem wc_3_3 : ((List.range 8).all fun c => chkW 3 4 c) = true := by decide +kernel
theorem wc_3_4 : ((List.range 8).all fun c => chkW 3 5 c) = true := by decide +kernel
theorem wc_3_5 : ((List.range 8).all fun c => chkW 3 6 c) = true := by decide +kernel
theorem wc_3_6 : ((List.range 8).all fun c => chkW 3 7 c) = true := by decide +kernel
theorem wc_3_7 : ((List.range 8).all fun c => chkW 3 8 c) = true := by decide +kernel
theorem wc_4_0 : ((List.range 8).all fun c => chkW 4 1 c) = true := by decide +kernel
theorem wc_4_1 : ((List.range 8).all fun c => chkW 4 2 c) = true := by decide +kernel
theorem wc_4_2 : ((List.range 8).all fun c => chkW 4 3 c) = true := by decide +kernel
theorem wc_4_3 : ((List.range 8).all fun c => chkW 4 4 c) = true := by decide +kernel
theorem wc_4_4 : ((List.range 8).all fun c => chkW 4 5 c) = true := by decide +kernel
theorem wc_4_5 : ((List.range 8).all fun c => chkW 4 6 c) = true := by decide +kernel
theorem wc_4_6 : ((List.range 8).all fun c => chkW 4 7 c) = true := by decide +kernel
theorem wc_4_7 : ((List.range 8).all fun c => chkW 4 8 c) = true := by decide +kernel
theorem wc_5_0 : ((List.range 8).all fun c => chkW 5 1 c) = true := by decide +kernel
theorem wc_5_1 : ((List.range 8).all fun c => chkW 5 2 c) = true := by decide +kernel
theorem wc_5_2 : ((List.range 8).all fun c => chkW 5 3 c) = true := by decide +kernel
theorem wc_5_3 : ((List.range 8).all fun c => chkW 5 4 c) = true := by decide +kernel
theorem wc_5_4 : ((List.range 8).all fun c => chkW 5 5 c) = true := by decide +kernel
theorem wc_5_5 : ((List.range 8).all fun c => chkW 5 6 c) = true := by decide +kernel
theorem wc_5_6 : ((List.range 8).all fun c => chkW 5 7 c) = true := by decide +kernel
theorem wc_5_7 : ((List.range 8).all fun c => chkW 5 8 c) = true := by decide +kernel
theorem wc_6_0 : ((List.range 8).all fun c => chkW 6 1 c) = true := by decide +kernel
theorem wc_6_1 : ((List.range 8).all fun c => chkW 6 2 c) = true := by decide +kernel
theorem wc_6_2 : ((List.range 8).all fun c => chkW 6 3 c) = true := by decide +kernel
theorem wc_6_3 : ((List.range 8).all fun c => chkW 6 4 c) = true := by decide +kernel
theorem wc_6_4 : ((List.range 8).all fun c => chkW 6 5 c) = true := by decide +kernel
theorem wc_6_5 : ((List.range 8).all fun c => chkW 6 6 c) = true := by decide +kernel
theorem wc_6_6 : ((List.range 8).all fun c => chkW 6 7 c) = true := by decide +kernel
theorem wc_6_7 : ((List.range 8).all fun c => chkW 6 8 c) = true := by decide +kernel
theorem wc_7_0 : ((List.range 8).all fun c => chkW 7 1 c) = true := by decide +kernel
theorem wc_7_1 : ((List.range 8).all fun c => chkW 7 2 c) = true := by decide +kernel
theorem wc_7_2 : ((List.range 8).all fun c => chkW 7 3 c) = true := by decide +kernel
theorem wc_7_3 : ((List.range 8).all fun c => chkW 7 4 c) = true := by decide +kernel
theorem wc_7_4 : ((List.range 8).all fun c => chkW 7 5 c) = true := by decide +kernel
theorem wc_7_5 : ((List.range 8).all fun c => chkW 7 6 c) = true := by decide +kernel
theorem wc_7_6 : ((List.range 8).all fun c => chkW 7 7 c) = true := by decide +kernel
theorem wc_7_7 : ((List.range 8).all fun c => chkW 7 8 c) = true := by decide +kernel

theorem chkW_true (a b c : Nat) (ha : a < 8) (hb : b < 8) (hc : c < 8) : chkW a (b + 1) c = true := by
  have key : ∀ (a b : Nat), ((List.range 8).all fun c => chkW a b c) = true → chkW a b c = true := fun a b h => List.all_eq_true.1 h c (by simp; omega)
  rcases (show a = 0 ∨ a = 1 ∨ a = 2 ∨ a = 3 ∨ a = 4 ∨ a = 5 ∨ a = 6 ∨ a = 7 from by omega) with rfl | rfl | rfl | rfl | rfl | rfl | rfl | rfl
  · rcases (show b = 0 ∨ b = 1 ∨ b = 2 ∨ b = 3 ∨ b = 4 ∨ b = 5 ∨ b = 6 ∨ b = 7 from by omega) with rfl | rfl | rfl | rfl | rfl | rfl | rfl | rfl
    · exact key 0 1 wc_0_0
    · exact key 0 2 wc_0_1
    · exact key 0 3 wc_0_2
    · exact key 0 4 wc_0_3
    · exact key 0 5 wc_0_4
    · exact key 0 6 wc_0_5
    · exact key 0 7 wc_0_6
    · exact key 0 8 wc_0_7
  · rcases (show b = 0 ∨ b = 1 ∨ b = 2 ∨ b = 3 ∨ b = 4 ∨ b = 5 ∨ b = 6 ∨ b = 7 from by omega) with rfl | rfl | rfl | rfl | rfl | rfl | rfl | rfl
    · exact key 1 1 wc_1_0
    · exact key 1 2 wc_1_1
    · exact key 1 3 wc_1_2
    · exact key 1 4 wc_1_3
    · exact key 1 5 wc_1_4
    · exact key 1 6 wc_1_5
    · exact key 1 7 wc_1_6
    · exact key 1 8 wc_1_7
  · rcases (show b = 0 ∨ b = 1 ∨ b = 2 ∨ b = 3 ∨ b = 4 ∨ b = 5 ∨ b = 6 ∨ b = 7 from by omega) with rfl | rfl | rfl | rfl | rfl | rfl | rfl | rfl
    · exact key 2 1 wc_2_0
    · exact key 2 2 wc_2_1
    · exact key 2 3 wc_2_2
    · exact key 2 4 wc_2_3
    · exact key 2 5 wc_2_4
    · exact key 2 6 wc_2_5
    · exact key 2 7 wc_2_6
    · exact key 2 8 wc_2_7
  · rcases (show b = 0 ∨ b = 1 ∨ b = 2 ∨ b = 3 ∨ b = 4 ∨ b = 5 ∨ b = 6 ∨ b = 7 from by omega) with rfl | rfl | rfl | rfl | rfl | rfl | rfl | rfl
    · exact key 3 1 wc_3_0
    · exact key 3 2 wc_3_1
    · exact key 3 3 wc_3_2
    · exact key 3 4 wc_3_3
    · exact key 3 5 wc_3_4
    · exact key 3 6 wc_3_5
    · exact key 3 7 wc_3_6
    · exact key 3 8 wc_3_7
  · rcases (show b = 0 ∨ b = 1 ∨ b = 2 ∨ b = 3 ∨ b = 4 ∨ b = 5 ∨ b = 6 ∨ b = 7 from by omega) with rfl | rfl | rfl | rfl | rfl | rfl | rfl | rfl
    · exact key 4 1 wc_4_0
    · exact key 4 2 wc_4_1
    · exact key 4 3 wc_4_2
    · exact key 4 4 wc_4_3
    · exact key 4 5 wc_4_4
    · exact key 4 6 wc_4_5
    · exact key 4 7 wc_4_6
    · exact key 4 8 wc_4_7
  · rcases (show b = 0 ∨ b = 1 ∨ b = 2 ∨ b = 3 ∨ b = 4 ∨ b = 5 ∨ b = 6 ∨ b = 7 from by omega) with rfl | rfl | rfl | rfl | rfl | rfl | rfl | rfl
    · exact key 5 1 wc_5_0
    · exact key 5 2 wc_5_1
    · exact key 5 3 wc_5_2
    · exact key 5 4 wc_5_3
    · exact key 5 5 wc_5_4
    · exact key 5 6 wc_5_5
    · exact key 5 7 wc_5_6
    · exact key 5 8 wc_5_7
  · rcases (show b = 0 ∨ b = 1 ∨ b = 2 ∨ b = 3 ∨ b = 4 ∨ b = 5 ∨ b = 6 ∨ b = 7 from by omega) with rfl | rfl | rfl | rfl | rfl | rfl | rfl | rfl
    · exact key 6 1 wc_6_0
    · exact key 6 2 wc_6_1
    · exact key 6 3 wc_6_2
    · exact key 6 4 wc_6_3
    · exact key 6 5 wc_6_4
    · exact key 6 6 wc_6_5
    · exact key 6 7 wc_6_6
    · exact key 6 8 wc_6_7
  · rcases (show b = 0 ∨ b = 1 ∨ b = 2 ∨ b = 3 ∨ b = 4 ∨ b = 5 ∨ b = 6 ∨ b = 7 from by omega) with rfl | rfl | rfl | rfl | rfl | rfl | rfl | rfl
    · exact key 7 1 wc_7_0
    · exact key 7 2 wc_7_1
    · exact key 7 3 wc_7_2
    · exact key 7 4 wc_7_3
    · exact key 7 5 wc_7_4
    · exact key 7 6 wc_7_5
    · exact key 7 7 wc_7_6
    · exact key 7 8 wc_7_7

end Go.Proofs.YtfgbbmnmblchiaaDoor
