/-
  Pair tables in one world, and what the pipe of PipeBlind answers.
-/
import Derived.Test.YtihkanbkcnonoaaOne
import Derived.Test.YtihkanbkcnonoaaRef3
namespace Go.Proofs.Ytihkanbkcnonoaa
open Go.RowKit Go.Maps
set_option linter.unusedVariables false

/-- in w the tables at t and u are s and s', and since w0 only new blocks have come or turned; the blocks of X are neither's. -/
structure Pair (w0 w : World) (t : Nat) (s : Pi.Tb) (u : Nat) (s' : Pi.Tb) (X : List Nat) : Prop where
  ex : ∃ ot ou, Tab w t ot s ∧ Tab w u ou s' ∧ (∀ k ∈ ot, w0.heap.size ≤ k) ∧ (∀ k ∈ ou, w0.heap.size ≤ k ∧ k ∉ ot) ∧ ∀ k ∈ X, k < w.heap.size ∧ k ∉ ot ∧ k ∉ ou
  chg : Chg [] w0 w

section
variable {w0 w w' : World} {t u : Nat} {s s' s2 : Pi.Tb} {X Y : List Nat} {N : Nat}

theorem Pair.swap (h : Pair w0 w t s u s' X) : Pair w0 w u s' t s X := by
  obtain ⟨⟨ot, ou, h1, h2, h3, h4, h5⟩, h6⟩ := h
  exact ⟨⟨ou, ot, h2, h1, fun k hk => (h4 k hk).1, fun k hk => ⟨h3 k hk, fun hk' => (h4 k hk').2 hk⟩, fun k hk => ⟨(h5 k hk).1, (h5 k hk).2.2, (h5 k hk).2.1⟩⟩, h6⟩

theorem Pair.kept0 (h : Pair w0 w t s u s' X) (hc : Chg [] w w') : Pair w0 w' t s u s' X := by
  obtain ⟨⟨ot, ou, h1, h2, h3, h4, h5⟩, h6⟩ := h
  have := hc.size
  exact ⟨⟨ot, ou, h1.kept0 hc, h2.kept0 hc, h3, h4, fun k hk => ⟨by have := (h5 k hk).1; omega, (h5 k hk).2⟩⟩, h6.then0 hc⟩

theorem Pair.drew (h : Pair w0 w t s u s' X) : Pair w0 w.drew t s u s' X := h.kept0 (Chg.refl [] w).drew

theorem Pair.sub (h : Pair w0 w t s u s' X) (hy : ∀ k ∈ Y, k ∈ X) : Pair w0 w t s u s' Y := by
  obtain ⟨⟨ot, ou, h1, h2, h3, h4, h5⟩, h6⟩ := h
  exact ⟨⟨ot, ou, h1, h2, h3, h4, fun k hk => h5 k (hy k hk)⟩, h6⟩

theorem Pair.fresh (h : Pair w0 w t s u s' X) (o : Obj) : Pair w0 (w.alloc o) t s u s' (w.heap.size :: X) := by
  obtain ⟨⟨ot, ou, h1, h2, h3, h4, h5⟩, h6⟩ := h
  have hs : (w.alloc o).heap.size = w.heap.size + 1 := by simp
  refine ⟨⟨ot, ou, h1.kept0 ((Chg.refl [] w).alloc o), h2.kept0 ((Chg.refl [] w).alloc o), h3, h4, fun k hk => ?_⟩, h6.alloc o⟩
  simp only [List.mem_cons] at hk
  rcases hk with rfl | hk
  · exact ⟨by omega, fun hk => by have := h1.lt _ hk; omega, fun hk => by have := h2.lt _ hk; omega⟩
  · exact ⟨by have := (h5 k hk).1; omega, (h5 k hk).2⟩

/-- a block of X turns. -/
theorem Pair.turn {F : List Nat} (h : Pair w0 w t s u s' X) (hc : Chg F w w') (hF : ∀ k ∈ F, k ∈ X) (hn : ∀ k ∈ F, w0.heap.size ≤ k) : Pair w0 w' t s u s' X := by
  obtain ⟨⟨ot, ou, h1, h2, h3, h4, h5⟩, h6⟩ := h
  have := hc.size
  exact ⟨⟨ot, ou, h1.kept hc (fun k hk hkF => (h5 k (hF k hkF)).2.1 hk), h2.kept hc (fun k hk hkF => (h5 k (hF k hkF)).2.2 hk), h3, h4, fun k hk => ⟨by have := (h5 k hk).1; omega, (h5 k hk).2⟩⟩, h6.trans hc (fun k hk => .inr (hn k hk))⟩

theorem Pair.lt (h : Pair w0 w t s u s' X) : ∀ k ∈ X, k < w.heap.size := by
  obtain ⟨⟨ot, ou, h1, h2, h3, h4, h5⟩, h6⟩ := h
  exact fun k hk => (h5 k hk).1

theorem Pair.left {ot ou : List Nat} (h2 : Tab w u ou s') (h3 : ∀ k ∈ ot, w0.heap.size ≤ k) (h4 : ∀ k ∈ ou, w0.heap.size ≤ k ∧ k ∉ ot) (h5 : ∀ k ∈ X, k < w.heap.size ∧ k ∉ ot ∧ k ∉ ou) (h6 : Chg [] w0 w)
    (h : Left1 w w' t ot s2) : Pair w0 w' t s2 u s' X ∧ Same X w w' := by
  obtain ⟨own', k1, k2, k3⟩ := h
  have hs := h6.size
  have hs2 := k3.size
  refine ⟨⟨⟨own', ou, k1, h2.kept k3 (fun k hk => (h4 k hk).2), fun k hk => (k2 k hk).elim (h3 k) (fun h => by omega), fun k hk => ⟨(h4 k hk).1, fun hk' => ?_⟩, fun k hk => ⟨by have := (h5 k hk).1; omega, fun hk' => ?_, (h5 k hk).2.2⟩⟩, h6.trans k3 (fun x hx => .inr (h3 x hx))⟩, ⟨hs2, fun k hk => k3.block k (h5 k hk).1 (h5 k hk).2.1⟩⟩
  · rcases k2 k hk' with h | h
    · exact (h4 k hk).2 h
    · have := h2.lt k hk; omega
  · rcases k2 k hk' with h | h
    · exact (h5 k hk).2.1 h
    · have := (h5 k hk).1; omega

theorem write_pair (h : Pair w0 w t s u s' X) (hk : Ok N s) (a1 : Option Addr) (n1 c1 : Nat) (a2 : Option Addr) (n2 c2 : Nat) (wl : Pi.Lab) (id : Int) (hw : (Lit.int .i64 id).wf = true) (hl : LabAt w a1 n1 c1 a2 n2 c2 wl)
    (ab : Option Addr) (nb cb : Nat) (bs : List UInt8) (hsrc : SrcAt w ab (bs.map byteV)) (hnb : bs.length = nb) (hcb : nb ≤ cb) (hcm : cb ≤ maxLen) {r1 r2 : Int} (hr : Pi.write s wl id bs = ((r1, r2), s2)) :
    Calls Try.prog 10 #[.pointer (some ⟨t, 0, none⟩), .agg #[.slice a1 n1 c1, .slice a2 n2 c2], .int .i64 id, .slice ab nb cb] w
      fun e w' => e = .returned (.tuple #[.int .i64 r1, .int .i64 r2]) ∧ Pair w0 w' t s2 u s' X ∧ Same X w w' := by
  obtain ⟨⟨ot, ou, h1, h2, h3, h4, h5⟩, h6⟩ := h
  refine (write_any t ot s a1 n1 c1 a2 n2 c2 wl id ab nb cb bs w h1 hw hk.fine hl hsrc hnb hcb hcm).mono ?_
  rw [hr]
  rintro e w' ⟨rfl, hl⟩
  exact ⟨rfl, Pair.left h2 h3 h4 h5 h6 hl⟩

theorem make_pair (h : Pair w0 w t s u s' X) (hk : Ok N s) (hN : N ≤ 999999) (a1 : Option Addr) (n1 c1 : Nat) (a2 : Option Addr) (n2 c2 : Nat) (l : Pi.Lab) (hl : LabAt w a1 n1 c1 a2 n2 c2 l) {r1 r2 : Int} (hr : Pi.make s l = ((r1, r2), s2)) :
    Calls Try.prog 9 #[.pointer (some ⟨t, 0, none⟩), .agg #[.slice a1 n1 c1, .slice a2 n2 c2]] w
      fun e w' => e = .returned (.tuple #[.int .i64 r1, .int .i64 r2]) ∧ Pair w0 w' t s2 u s' X ∧ Same X w w' := by
  obtain ⟨⟨ot, ou, h1, h2, h3, h4, h5⟩, h6⟩ := h
  refine (make_any t ot s a1 n1 c1 a2 n2 c2 l w h1 hl hk.below hk.next0 (by have := hk.next1; omega) (by have := hk.len; omega)).mono ?_
  rw [hr]
  rintro e w' ⟨rfl, hl⟩
  exact ⟨rfl, Pair.left h2 h3 h4 h5 h6 hl⟩

theorem hold_pair (h : Pair w0 w t s u s' X) (hk : Ok N s) (hN : N ≤ 999999) (id : Int) (hw : (Lit.int .i64 id).wf = true) (write : Bool) {r : Int} (hr : Pi.hold s id write = (r, s2)) :
    Calls Try.prog 15 #[.pointer (some ⟨t, 0, none⟩), .int .i64 id, .bool write] w fun e w' => e = .returned (.int .i64 r) ∧ Pair w0 w' t s2 u s' X ∧ Same X w w' := by
  obtain ⟨⟨ot, ou, h1, h2, h3, h4, h5⟩, h6⟩ := h
  refine (hold_any t ot s id write N w h1 hw hk.counts (by omega)).mono ?_
  rw [hr]
  rintro e w' ⟨rfl, hl⟩
  exact ⟨rfl, Pair.left h2 h3 h4 h5 h6 hl⟩

theorem drop_pair (h : Pair w0 w t s u s' X) (hk : Ok N s) (hN : N ≤ 999999) (id : Int) (hw : (Lit.int .i64 id).wf = true) (write : Bool) {r : Int} (hr : Pi.drop s id write = (r, s2)) :
    Calls Try.prog 12 #[.pointer (some ⟨t, 0, none⟩), .int .i64 id, .bool write] w fun e w' => e = .returned (.int .i64 r) ∧ Pair w0 w' t s2 u s' X ∧ Same X w w' := by
  obtain ⟨⟨ot, ou, h1, h2, h3, h4, h5⟩, h6⟩ := h
  refine (drop_any t ot s id write N w h1 hw hk.counts (by omega)).mono ?_
  rw [hr]
  rintro e w' ⟨rfl, hl⟩
  exact ⟨rfl, Pair.left h2 h3 h4 h5 h6 hl⟩

theorem read_pair (h : Pair w0 w t s u s' X) (hk : Ok N s) (a1 : Option Addr) (n1 c1 : Nat) (a2 : Option Addr) (n2 c2 : Nat) (wl : Pi.Lab) (id : Int) (hw : (Lit.int .i64 id).wf = true) (hl : LabAt w a1 n1 c1 a2 n2 c2 wl) (n : Int) (hn : (Lit.int .i64 n).wf = true)
    {out : List UInt8} {r : Int} (m : Nat) (hm : out.length = m) (hr : Pi.read s wl id n = ((out, r), s2)) :
    Calls Try.prog 11 #[.pointer (some ⟨t, 0, none⟩), .agg #[.slice a1 n1 c1, .slice a2 n2 c2], .int .i64 id, .int .i64 n] w
      fun e w' => ∃ a c, e = .returned (.tuple #[.slice a m c, .int .i64 r]) ∧ Pair w0 w' t s2 u s' X ∧ Same X w w' := by
  obtain ⟨⟨ot, ou, h1, h2, h3, h4, h5⟩, h6⟩ := h
  refine (read_any t ot s a1 n1 c1 a2 n2 c2 wl id n w h1 hw hk.fine hl hn).mono ?_
  subst hm
  rintro e w' ⟨a, m, c, rfl, hm, hrow, hnew, own', t1, t2, t3, t4⟩
  rw [hr] at hm t1
  simp only at hm t1
  subst hm
  rw [hr]
  exact ⟨a, c, rfl, Pair.left h2 h3 h4 h5 h6 ⟨own', t1, t2, t3⟩⟩
end

/-- two new tables. -/
theorem pair_new (w w1 w2 : World) (t u : Nat) (ot ou : List Nat) (h1 : Tab w1 t ot Pi.new) (c1 : Chg [] w w1) (n1 : ∀ k ∈ ot, w.heap.size ≤ k) (h2 : Tab w2 u ou Pi.new) (c2 : Chg [] w1 w2) (n2 : ∀ k ∈ ou, w1.heap.size ≤ k) : Pair w w2 t Pi.new u Pi.new [] := by
  have := c1.size
  exact ⟨⟨ot, ou, h1.kept0 c2, h2, n1, fun k hk => ⟨by have := n2 k hk; omega, fun hk' => by have h := h1.lt k hk'; have := n2 k hk; omega⟩, by simp⟩, c1.then0 c2⟩

def L37 : Pi.Lab := ⟨[3, 7], []⟩

/-- the label of the law: its struct in block B, its two tags in block C. -/
structure Lab37 (w : World) (B C : Nat) : Prop where
  c0 : w.cell? ⟨B, 0, none⟩ = some (.slice (some ⟨C, 0, none⟩) 2 2)
  c1 : w.cell? ⟨B, 1, none⟩ = some (.slice none 0 0)
  tag0 : w.cell? ⟨C, 0, none⟩ = some (.int .i64 3)
  tag1 : w.cell? ⟨C, 1, none⟩ = some (.int .i64 7)

theorem Lab37.same {w w' : World} {B C : Nat} {X : List Nat} (h : Lab37 w B C) (hs : Same X w w') (hB : B ∈ X) (hC : C ∈ X) : Lab37 w' B C := ⟨hs.cell h.c0 hB, hs.cell h.c1 hB, hs.cell h.tag0 hC, hs.cell h.tag1 hC⟩
theorem Lab37.kept {w w' : World} {B C : Nat} {F : List Nat} (h : Lab37 w B C) (hc : Chg F w w') (hB : B ∉ F) (hC : C ∉ F) : Lab37 w' B C := ⟨hc.cell h.c0 hB, hc.cell h.c1 hB, hc.cell h.tag0 hC, hc.cell h.tag1 hC⟩
theorem Lab37.lab {w : World} {B C : Nat} (h : Lab37 w B C) : LabAt w (some ⟨C, 0, none⟩) 2 2 none 0 0 L37 :=
  ⟨⟨rfl, Nat.le_refl _, by decide, fun _ => ⟨C, 0, rfl, fun j u hj => by
    match j with
    | 0 => simp [L37] at hj; subst hj; exact h.tag0
    | 1 => simp [L37] at hj; subst hj; exact h.tag1
    | j + 2 => simp [L37] at hj⟩⟩, ⟨rfl, Nat.le_refl _, Nat.zero_le _, by simp [SrcAt, L37]⟩⟩

/-- a label that knows less. -/
def Low (l : Pi.Lab) : Prop := l = ⟨[3], []⟩ ∨ l = ⟨[], []⟩

theorem w_low {l : Pi.Lab} (hl : Low l) (b d : List UInt8) (r h : Int) (hb : b.length ≤ 256) : ∃ b', Pi.write (one L37 b r h) l 1 d = (((d.length : Int), 0), one L37 b' r h) ∧ b'.length ≤ 256 := by
  have e : Pi.write (one L37 b r h) l 1 d = (((d.length : Int), 0), if 0 < r then one L37 (b ++ d.take (min d.length (256 - b.length))) r h else one L37 b r h) := by
    unfold Pi.write
    rw [find_one]
    have h1 : Pi.mayB l = true := by rcases hl with rfl | rfl <;> decide
    have h2 : Pi.flowsB l L37 = true := by rcases hl with rfl | rfl <;> decide
    have h3 : Pi.sameB l L37 = false := by rcases hl with rfl | rfl <;> decide
    simp only [h1, h2, h3, if_true, if_false, Bool.true_eq_false, Pi.room]
    rfl
  rw [e]
  by_cases h0 : 0 < r
  · rw [if_pos h0]
    exact ⟨_, rfl, by simp; omega⟩
  · rw [if_neg h0]
    exact ⟨_, rfl, hb⟩

theorem r_low {l : Pi.Lab} (hl : Low l) (b : List UInt8) (r h : Int) : Pi.read (one L37 b r h) l 1 5 = (([], 70), one L37 b r h) := by
  unfold Pi.read
  rw [find_one]
  have h1 : Pi.mayB l = true := by rcases hl with rfl | rfl <;> decide
  have h3 : Pi.sameB l L37 = false := by rcases hl with rfl | rfl <;> decide
  have h0 : ¬ ((5 : Int) < 0) := by omega
  simp only [h1, h3, h0, if_true, if_false, Bool.true_eq_false, or_self]

theorem w_own (b d : List UInt8) (r h : Int) (hb : b.length ≤ 256) : ∃ x y b', Pi.write (one L37 b r h) L37 1 d = ((x, y), one L37 b' r h) ∧ b'.length ≤ 256 := by
  by_cases h0 : r = 0
  · subst h0
    refine ⟨0, 75, b, ?_, hb⟩
    unfold Pi.write
    rw [find_one]
    simp only [show Pi.mayB L37 = true from rfl, flows_self, same_self, if_true, if_false, Bool.true_eq_false]
  · rw [write_one L37 rfl b r h h0 d]
    split
    · exact ⟨_, _, _, rfl, hb⟩
    · exact ⟨_, _, _, rfl, by simp; omega⟩

theorem r_own (b : List UInt8) (r h : Int) (n : Int) (hb : b.length ≤ 256) : ∃ out y b', Pi.read (one L37 b r h) L37 1 n = ((out, y), one L37 b' r h) ∧ b'.length ≤ 256 := by
  by_cases h0 : n < 0
  · refine ⟨[], 1, b, ?_, hb⟩
    unfold Pi.read
    rw [find_one]
    simp only [h0, or_true, if_true]
  · obtain ⟨m, rfl⟩ : ∃ m : Nat, n = m := ⟨n.toNat, by omega⟩
    rw [read_one L37 rfl]
    split
    · exact ⟨_, _, _, rfl, hb⟩
    · exact ⟨_, _, _, rfl, by simp; omega⟩

theorem h_own (b : List UInt8) (r h : Int) : Pi.hold (one L37 b r h) 1 false = (0, one L37 b (r + 1) h) := rfl

theorem d_own (b : List UInt8) (r : Int) (hr : 0 ≤ r) : ∃ x r', Pi.drop (one L37 b r 2) 1 false = (x, one L37 b r' 2) ∧ 0 ≤ r' ∧ r' ≤ r := by
  unfold Pi.drop
  rw [find_one]
  by_cases h0 : r = 0
  · subst h0
    exact ⟨61, 0, by simp, by omega, by omega⟩
  · refine ⟨0, r - 1, ?_, by omega, by omega⟩
    simp [h0]
    rfl

end Go.Proofs.Ytihkanbkcnonoaa
