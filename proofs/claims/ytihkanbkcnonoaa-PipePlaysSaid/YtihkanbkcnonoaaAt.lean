/-
  The calls on a table that a law has made by itself: all that is the table's is newer than the law's own beginning.
-/
import Derived.Test.YtihkanbkcnonoaaMake
import Derived.Test.YtihkanbkcnonoaaWrite
import Derived.Test.YtihkanbkcnonoaaRead
import Derived.Test.YtihkanbkcnonoaaDrop
namespace Go.Proofs.Ytihkanbkcnonoaa
open Go.RowKit Go.Maps
set_option linter.unusedVariables false

/-- in w the table at t is s, and since w0 only new blocks have come or turned; the blocks of X are not the table's. -/
def At (w0 w : World) (t : Nat) (s : Pi.Tb) (X : List Nat) : Prop := ∃ own, Tab w t own s ∧ (∀ k ∈ own, w0.heap.size ≤ k) ∧ Chg [] w0 w ∧ ∀ k ∈ X, k < w.heap.size ∧ k ∉ own

/-- the blocks of X are as they were. -/
structure Same (X : List Nat) (w w' : World) : Prop where
  size : w.heap.size ≤ w'.heap.size
  block : ∀ k ∈ X, w'.heap[k]? = w.heap[k]?

theorem Row.same {w w' : World} {X : List Nat} {E : TypeId} {size : Nat} {v : Value} {n : Nat} {xs : List Value} (h : Row w E size v n xs) (hs : Same X w w') (hx : ∀ k ∈ rowBlock v, k ∈ X) : Row w' E size v n xs := by
  refine ⟨h.1, ?_⟩
  rcases h.2 with h2 | ⟨g, cap, cur, rfl, hg, h3, h4, h5, h6⟩
  · exact .inl h2
  · by_cases h0 : cap = 0
    · subst h0
      exact .inl ⟨by omega, some ⟨g, 0, none⟩, by have : n = 0 := by omega
                                                  subst this; rfl⟩
    · exact .inr ⟨g, cap, cur, rfl, (hs.block g (hx g (by simp [rowBlock, h0]))).trans hg, h3, h4, h5, h6⟩

theorem At.chg {w0 w : World} {t : Nat} {s : Pi.Tb} {X : List Nat} (h : At w0 w t s X) : Chg [] w0 w := by obtain ⟨_, _, _, h, _⟩ := h; exact h

theorem At.kept0 {w0 w w' : World} {t : Nat} {s : Pi.Tb} {X : List Nat} (h : At w0 w t s X) (hc : Chg [] w w') : At w0 w' t s X := by
  obtain ⟨own, h1, h2, h3, h4⟩ := h
  have := hc.size
  exact ⟨own, h1.kept0 hc, h2, h3.then0 hc, fun k hk => ⟨by have := (h4 k hk).1; omega, (h4 k hk).2⟩⟩
theorem At.alloc {w0 w : World} {t : Nat} {s : Pi.Tb} {X : List Nat} (h : At w0 w t s X) (o : Obj) : At w0 (w.alloc o) t s X := h.kept0 ((Chg.refl [] w).alloc o)
theorem At.drew {w0 w : World} {t : Nat} {s : Pi.Tb} {X : List Nat} (h : At w0 w t s X) : At w0 w.drew t s X := h.kept0 (Chg.refl [] w).drew
theorem At.sub {w0 w : World} {t : Nat} {s : Pi.Tb} {X Y : List Nat} (h : At w0 w t s X) (hy : ∀ k ∈ Y, k ∈ X) : At w0 w t s Y := by
  obtain ⟨own, h1, h2, h3, h4⟩ := h
  exact ⟨own, h1, h2, h3, fun k hk => h4 k (hy k hk)⟩
theorem At.fresh {w0 w : World} {t : Nat} {s : Pi.Tb} {X : List Nat} (h : At w0 w t s X) (o : Obj) : At w0 (w.alloc o) t s (w.heap.size :: X) := by
  obtain ⟨own, h1, h2, h3, h4⟩ := h
  have hs : (w.alloc o).heap.size = w.heap.size + 1 := by simp
  refine ⟨own, h1.kept0 ((Chg.refl [] w).alloc o), h2, h3.alloc o, fun k hk => ?_⟩
  simp only [List.mem_cons] at hk
  rcases hk with rfl | hk
  · exact ⟨by omega, fun hk => by have := h1.lt _ hk; omega⟩
  · exact ⟨by have := (h4 k hk).1; omega, (h4 k hk).2⟩

theorem Same.cell {X : List Nat} {w w' : World} (h : Same X w w') {p : Addr} {v : Value} (hv : w.cell? p = some v) (hp : p.block ∈ X) : w'.cell? p = some v :=
  (World.cell?_of_block (w := w) (h.block p.block hp)).trans hv
theorem Same.obj {X : List Nat} {w w' : World} (h : Same X w w') {k : Nat} {o : Obj} (hk : w.heap[k]? = some o) (hx : k ∈ X) : w'.heap[k]? = some o := (h.block k hx).trans hk
theorem Same.sub {X Y : List Nat} {w w' : World} (h : Same X w w') (hy : ∀ k ∈ Y, k ∈ X) : Same Y w w' := ⟨h.size, fun k hk => h.block k (hy k hk)⟩

theorem Same.of0 {X : List Nat} {w w' : World} (h : Chg [] w w') (hx : ∀ k ∈ X, k < w.heap.size) : Same X w w' := ⟨h.size, fun k hk => h.block k (hx k hk) (by simp)⟩
theorem Same.trans {X : List Nat} {a b c : World} (h : Same X a b) (k : Same X b c) : Same X a c := ⟨Nat.le_trans h.size k.size, fun x hx => (k.block x hx).trans (h.block x hx)⟩

theorem At.left {w0 w w' : World} {t : Nat} {own : List Nat} {s' : Pi.Tb} {X : List Nat} (h2 : ∀ k ∈ own, w0.heap.size ≤ k) (h3 : Chg [] w0 w) (hX : ∀ k ∈ X, k < w.heap.size ∧ k ∉ own) (h : Left1 w w' t own s') : At w0 w' t s' X ∧ Same X w w' := by
  obtain ⟨own', k1, k2, k3⟩ := h
  have hs := h3.size
  have hs2 := k3.size
  refine ⟨⟨own', k1, fun k hk => (k2 k hk).elim (h2 k) (fun h => by omega), h3.trans k3 (fun x hx => .inr (h2 x hx)), fun k hk => ⟨by have := (hX k hk).1; omega, fun hk' => ?_⟩⟩, ⟨hs2, fun k hk => k3.block k (hX k hk).1 (hX k hk).2⟩⟩
  rcases k2 k hk' with h | h
  · exact (hX k hk).2 h
  · have := (hX k hk).1; omega

theorem At.turn {w0 w w' : World} {t : Nat} {s : Pi.Tb} {X Y F : List Nat} (h : At w0 w t s X) (hc : Chg F w w') (hF : ∀ k ∈ F, k ∈ X) (hn : ∀ k ∈ F, w0.heap.size ≤ k)
    (hY : ∀ k ∈ Y, (k ∈ X ∨ w.heap.size ≤ k) ∧ k < w'.heap.size) : At w0 w' t s Y := by
  obtain ⟨own, h1, h2, h3, h4⟩ := h
  refine ⟨own, h1.kept hc (fun k hk hkF => (h4 k (hF k hkF)).2 hk), h2, h3.trans hc (fun k hk => .inr (hn k hk)), fun k hk => ⟨(hY k hk).2, fun hko => ?_⟩⟩
  rcases (hY k hk).1 with h | h
  · exact (h4 k h).2 hko
  · have := h1.lt k hko; omega

theorem At.lt {w0 w : World} {t : Nat} {s : Pi.Tb} {X : List Nat} (h : At w0 w t s X) : ∀ k ∈ X, k < w.heap.size := by
  obtain ⟨own, h1, h2, h3, h4⟩ := h
  exact fun k hk => (h4 k hk).1

/-- the invariant of a table in a law. -/
structure Ok (N : Nat) (s : Pi.Tb) : Prop where
  fine : Fine s
  counts : Counts N s
  below : Below1 s
  next0 : 1 ≤ s.next
  next1 : s.next ≤ N + 1
  len : s.ps.length ≤ N

section
variable {w0 w : World} {t : Nat} {s : Pi.Tb} {N : Nat} {X : List Nat}

theorem write_at (h : At w0 w t s X) (hk : Ok N s) (a1 : Option Addr) (n1 c1 : Nat) (a2 : Option Addr) (n2 c2 : Nat) (wl : Pi.Lab) (id : Int) (hw : (Lit.int .i64 id).wf = true) (hl : LabAt w a1 n1 c1 a2 n2 c2 wl)
    (ab : Option Addr) (nb cb : Nat) (bs : List UInt8) (hsrc : SrcAt w ab (bs.map byteV)) (hnb : bs.length = nb) (hcb : nb ≤ cb) (hcm : cb ≤ maxLen) {r1 r2 : Int} {s' : Pi.Tb} (hr : Pi.write s wl id bs = ((r1, r2), s')) :
    Calls Try.prog 10 #[.pointer (some ⟨t, 0, none⟩), .agg #[.slice a1 n1 c1, .slice a2 n2 c2], .int .i64 id, .slice ab nb cb] w
      fun e w' => e = .returned (.tuple #[.int .i64 r1, .int .i64 r2]) ∧ At w0 w' t s' X ∧ Same X w w' := by
  obtain ⟨own, h1, h2, h3, hX⟩ := h
  refine (write_any t own s a1 n1 c1 a2 n2 c2 wl id ab nb cb bs w h1 hw hk.fine hl hsrc hnb hcb hcm).mono ?_
  rw [hr]
  rintro e w' ⟨rfl, hl⟩
  exact ⟨rfl, At.left h2 h3 hX hl⟩

theorem make_at (h : At w0 w t s X) (hk : Ok N s) (hN : N ≤ 999999) (a1 : Option Addr) (n1 c1 : Nat) (a2 : Option Addr) (n2 c2 : Nat) (l : Pi.Lab) (hl : LabAt w a1 n1 c1 a2 n2 c2 l) {r1 r2 : Int} {s' : Pi.Tb} (hr : Pi.make s l = ((r1, r2), s')) :
    Calls Try.prog 9 #[.pointer (some ⟨t, 0, none⟩), .agg #[.slice a1 n1 c1, .slice a2 n2 c2]] w
      fun e w' => e = .returned (.tuple #[.int .i64 r1, .int .i64 r2]) ∧ At w0 w' t s' X ∧ Same X w w' := by
  obtain ⟨own, h1, h2, h3, hX⟩ := h
  refine (make_any t own s a1 n1 c1 a2 n2 c2 l w h1 hl hk.below hk.next0 (by have := hk.next1; omega) (by have := hk.len; omega)).mono ?_
  rw [hr]
  rintro e w' ⟨rfl, hl⟩
  exact ⟨rfl, At.left h2 h3 hX hl⟩

theorem hold_at (h : At w0 w t s X) (hk : Ok N s) (hN : N ≤ 999999) (id : Int) (hw : (Lit.int .i64 id).wf = true) (write : Bool) {r : Int} {s' : Pi.Tb} (hr : Pi.hold s id write = (r, s')) :
    Calls Try.prog 15 #[.pointer (some ⟨t, 0, none⟩), .int .i64 id, .bool write] w fun e w' => e = .returned (.int .i64 r) ∧ At w0 w' t s' X ∧ Same X w w' := by
  obtain ⟨own, h1, h2, h3, hX⟩ := h
  refine (hold_any t own s id write N w h1 hw hk.counts (by omega)).mono ?_
  rw [hr]
  rintro e w' ⟨rfl, hl⟩
  exact ⟨rfl, At.left h2 h3 hX hl⟩

theorem drop_at (h : At w0 w t s X) (hk : Ok N s) (hN : N ≤ 999999) (id : Int) (hw : (Lit.int .i64 id).wf = true) (write : Bool) {r : Int} {s' : Pi.Tb} (hr : Pi.drop s id write = (r, s')) :
    Calls Try.prog 12 #[.pointer (some ⟨t, 0, none⟩), .int .i64 id, .bool write] w fun e w' => e = .returned (.int .i64 r) ∧ At w0 w' t s' X ∧ Same X w w' := by
  obtain ⟨own, h1, h2, h3, hX⟩ := h
  refine (drop_any t own s id write N w h1 hw hk.counts (by omega)).mono ?_
  rw [hr]
  rintro e w' ⟨rfl, hl⟩
  exact ⟨rfl, At.left h2 h3 hX hl⟩

theorem read_at (h : At w0 w t s X) (hk : Ok N s) (a1 : Option Addr) (n1 c1 : Nat) (a2 : Option Addr) (n2 c2 : Nat) (wl : Pi.Lab) (id : Int) (hw : (Lit.int .i64 id).wf = true) (hl : LabAt w a1 n1 c1 a2 n2 c2 wl) (n : Int) (hn : (Lit.int .i64 n).wf = true)
    {out : List UInt8} {r : Int} {s' : Pi.Tb} (m : Nat) (hm : out.length = m) (hr : Pi.read s wl id n = ((out, r), s')) :
    Calls Try.prog 11 #[.pointer (some ⟨t, 0, none⟩), .agg #[.slice a1 n1 c1, .slice a2 n2 c2], .int .i64 id, .int .i64 n] w
      fun e w' => ∃ a c, e = .returned (.tuple #[.slice a m c, .int .i64 r]) ∧ Row w' 5 1 (.slice a m c) m (out.map byteV) ∧ At w0 w' t s' (rowBlock (.slice a m c) ++ X) ∧ Same X w w' := by
  obtain ⟨own, h1, h2, h3, hX⟩ := h
  refine (read_any t own s a1 n1 c1 a2 n2 c2 wl id n w h1 hw hk.fine hl hn).mono ?_
  subst hm
  rintro e w' ⟨a, m, c, rfl, hm, hrow, hnew, own', t1, t2, t3, t4⟩
  rw [hr] at hm hrow t1 ⊢
  simp only at hm hrow t1 ⊢
  subst hm
  obtain ⟨⟨own2, u1, u2, u3, u4⟩, us⟩ := At.left (X := X) h2 h3 hX ⟨own', t1, t2, t3⟩
  have hs3 := h3.size
  refine ⟨a, c, rfl, hrow, ⟨own', t1, fun k hk => (t2 k hk).elim (h2 k) (fun h => by omega), u3, ?_⟩, us⟩
  intro k hk
  simp only [List.mem_append] at hk
  rcases hk with hk | hk
  · exact ⟨hrow.block_lt k hk, t4 k hk⟩
  · have h1 := hX k hk
    have h2 := t3.size
    refine ⟨by omega, fun hk' => ?_⟩
    rcases t2 k hk' with h | h
    · exact h1.2 h
    · omega

theorem count_at (h : At w0 w t s X) : Calls Try.prog 16 #[.pointer (some ⟨t, 0, none⟩)] w fun e w' => e = .returned (.int .i64 s.ps.length) ∧ w = w' := by
  obtain ⟨own, h1, h2, h3, hX⟩ := h
  exact count_any t own s w h1

theorem new_at (w : World) : Calls Try.prog 8 #[] w fun e w' => ∃ t, e = .returned (.pointer (some ⟨t, 0, none⟩)) ∧ At w w' t Pi.new [] :=
  (new_any w).mono fun e w' ⟨t, own, h1, h2, h3, h4⟩ => ⟨t, h1, own, h2, h4, h3, by simp⟩
end

/-- no label at all. -/
theorem lab0 (w : World) : LabAt w none 0 0 none 0 0 ⟨[], []⟩ := ⟨⟨rfl, Nat.le_refl _, Nat.zero_le _, by simp [SrcAt]⟩, ⟨rfl, Nat.le_refl _, Nat.zero_le _, by simp [SrcAt]⟩⟩

/-- a table of one pipe. -/
def one (l : Pi.Lab) (b : List UInt8) (r h : Int) : Pi.Tb := ⟨[(1, ⟨l, b, r, h⟩)], 2⟩

theorem one_ok {l : Pi.Lab} {b : List UInt8} {r h : Int} {N : Nat} (hl : Pi.mayB l = true) (hb : b.length ≤ 256) (hr : 0 ≤ r ∧ r ≤ N) (hh : 0 ≤ h ∧ h ≤ N) (hN : 1 ≤ N) : Ok N (one l b r h) := by
  refine ⟨?_, ?_, ?_, by simp [one], by simp [one]; omega, by simp [one]; omega⟩
  · intro x hx
    simp [one] at hx
    subst hx
    exact ⟨hl, hb⟩
  · intro x hx
    simp [one] at hx
    subst hx
    exact ⟨hr.1, hr.2, hh.1, hh.2⟩
  · intro x hx
    simp [one] at hx
    subst hx
    simp [one]

theorem new_ok (N : Nat) : Ok N Pi.new := ⟨by simp [Fine, Pi.new], by simp [Counts, Pi.new], by simp [Below1, Pi.new], by simp [Pi.new], by simp [Pi.new]; omega, by simp [Pi.new]⟩

theorem wf1 : (Lit.int .i64 1).wf = true := by decide

end Go.Proofs.Ytihkanbkcnonoaa
