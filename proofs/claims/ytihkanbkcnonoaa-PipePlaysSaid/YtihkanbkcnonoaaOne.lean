/-
  What a table of one pipe answers: plain facts.
-/
import Derived.Test.YtihkanbkcnonoaaAwake
namespace Go.Proofs.Ytihkanbkcnonoaa
set_option linter.unusedVariables false

def L0 : Pi.Lab := ⟨[], []⟩
def zeros (n : Nat) : List UInt8 := List.replicate n 0

theorem find_one (l : Pi.Lab) (b : List UInt8) (r h : Int) : Pi.find (one l b r h).ps 1 = some ⟨l, b, r, h⟩ := rfl
theorem put_one (l : Pi.Lab) (b : List UInt8) (r h : Int) (q : Pi.Pp) : ({ one l b r h with ps := Pi.put (one l b r h).ps 1 q } : Pi.Tb) = one q.lab q.b q.readers q.heirs := rfl

theorem subB_self (l : List Int) : Pi.subB l l = true := by
  unfold Pi.subB
  rw [List.all_eq_true]
  intro x hx
  simpa using hx
theorem same_self (l : Pi.Lab) : Pi.sameB l l = true := by unfold Pi.sameB; simp [subB_self]
theorem flows_self (l : Pi.Lab) : Pi.flowsB l l = true := by unfold Pi.flowsB; simp [subB_self]

/-- a write by one who has the pipe's label, somebody reading. -/
theorem write_one (l : Pi.Lab) (hl : Pi.mayB l = true) (b : List UInt8) (r h : Int) (hr : r ≠ 0) (d : List UInt8) :
    Pi.write (one l b r h) l 1 d = if 0 < d.length ∧ min d.length (256 - b.length) = 0 then ((0, 63), one l b r h) else ((((min d.length (256 - b.length) : Nat) : Int), 0), one l (b ++ d.take (min d.length (256 - b.length))) r h) := by
  unfold Pi.write
  rw [find_one]
  simp only [hl, flows_self, same_self, hr, if_false, Bool.true_eq_false, Pi.room]
  rfl

theorem read_one (l : Pi.Lab) (hl : Pi.mayB l = true) (b : List UInt8) (r h : Int) (n : Nat) :
    Pi.read (one l b r h) l 1 n = if b = [] ∧ 0 < n ∧ 0 < h then (([], 63), one l b r h) else ((b.take n, 0), one l (b.drop n) r h) := by
  unfold Pi.read
  rw [find_one]
  have h0 : ¬ ((n : Int) < 0) := by omega
  have h1 : (0 < (n : Int)) = (0 < n) := by rw [eq_iff_iff]; omega
  simp only [hl, same_self, h0, if_false, Bool.true_eq_false, or_self, h1, Int.toNat_natCast]
  rfl

theorem zeros_len (n : Nat) : (zeros n).length = n := by simp [zeros]

theorem w_zeros (n tk : Nat) (R : Int) (h : 1 ≤ n) (htk : tk = min n 256) (hR : R = tk) : Pi.write (one L0 [] 1 1) L0 1 (zeros n) = ((R, 0), one L0 (zeros tk) 1 1) := by
  rw [write_one L0 rfl [] 1 1 (by omega), zeros_len, if_neg (by simp; omega)]
  subst hR
  have e : min n (256 - ([] : List UInt8).length) = tk := by simp; omega
  rw [e]
  congr 2
  simp only [List.nil_append, zeros, List.take_replicate]
  congr 1
  omega

theorem w_xy (tk mo : Nat) (R : Int) (htk : tk ≤ 256) (hmo : mo = min 2 (256 - tk)) (h0 : mo ≠ 0) (hR : R = mo) : Pi.write (one L0 (zeros tk) 1 1) L0 1 [120, 121] = ((R, 0), one L0 (zeros tk ++ [120, 121].take mo) 1 1) := by
  have e : min ([120, 121] : List UInt8).length (256 - (zeros tk).length) = mo := by rw [zeros_len]; simp; omega
  rw [write_one L0 rfl _ 1 1 (by omega), e, if_neg (by omega)]
  subst hR
  rfl

theorem w_xy0 : Pi.write (one L0 (zeros 256) 1 1) L0 1 [120, 121] = ((0, 63), one L0 (zeros 256) 1 1) := by
  have e : min ([120, 121] : List UInt8).length (256 - (zeros 256).length) = 0 := by rw [zeros_len]; simp
  rw [write_one L0 rfl _ 1 1 (by omega), e, if_pos (by simp)]

theorem r_all (bl : List UInt8) (h : bl ≠ []) (hl : bl.length ≤ 1000) : Pi.read (one L0 bl 1 1) L0 1 1000 = ((bl, 0), one L0 [] 1 1) := by
  have := read_one L0 rfl bl 1 1 1000
  rw [if_neg (fun e => h e.1), List.take_of_length_le hl, List.drop_eq_nil_of_le hl] at this
  exact this

theorem w_ok (l : Pi.Lab) (hl : Pi.mayB l = true) (b d : List UInt8) (m : Nat) (hm : m = min d.length (256 - b.length)) (h : ¬ (0 < d.length ∧ m = 0)) :
    Pi.write (one l b 1 1) l 1 d = (((m : Int), 0), one l (b ++ d.take m) 1 1) := by
  rw [write_one l hl b 1 1 (by omega), ← hm, if_neg h]

theorem w_full (l : Pi.Lab) (hl : Pi.mayB l = true) (b d : List UInt8) (hd : 0 < d.length) (hb : b.length = 256) : Pi.write (one l b 1 1) l 1 d = ((0, 63), one l b 1 1) := by
  rw [write_one l hl b 1 1 (by omega), if_pos ⟨hd, by omega⟩]

theorem r_none (l : Pi.Lab) (hl : Pi.mayB l = true) (q : Nat) (hq : 0 < q) : Pi.read (one l [] 1 1) l 1 q = (([], 63), one l [] 1 1) := by
  rw [read_one l hl [] 1 1 q, if_pos ⟨rfl, hq, by omega⟩]

theorem r_ok (l : Pi.Lab) (hl : Pi.mayB l = true) (b : List UInt8) (q : Nat) (h : ¬ (b = [] ∧ 0 < q)) : Pi.read (one l b 1 1) l 1 q = ((b.take q, 0), one l (b.drop q) 1 1) := by
  rw [read_one l hl b 1 1 q, if_neg (fun e => h ⟨e.1, e.2.1⟩)]

end Go.Proofs.Ytihkanbkcnonoaa
