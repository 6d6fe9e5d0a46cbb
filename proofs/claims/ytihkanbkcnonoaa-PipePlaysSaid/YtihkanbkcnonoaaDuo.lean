/-
  The program's table and the document's table side by side in one world; what every call leaves of both; the invariant of a table through all calls.
-/
import Derived.Test.YtihkanbkcnonoaaRWrite
import Derived.Test.YtihkanbkcnonoaaRRead
import Derived.Test.YtihkanbkcnonoaaScript
namespace Go.Proofs.Ytihkanbkcnonoaa
open Go.RowKit Go.Maps
set_option linter.unusedVariables false

/-! ### the invariant -/
theorem mem_put {l : List (Int × Pi.Pp)} {id : Int} {q : Pi.Pp} {x : Int × Pi.Pp} (h : x ∈ Pi.put l id q) : (x = (id, q) ∧ ∃ y ∈ l, y.1 = id) ∨ x ∈ l := by
  unfold Pi.put at h
  obtain ⟨y, hy, hx⟩ := List.mem_map.1 h
  by_cases hi : y.1 = id
  · simp [hi] at hx
    exact .inl ⟨hx.symm, y, hy, hi⟩
  · simp [hi] at hx
    subst hx
    exact .inr hy

theorem Ok.mono {N M : Nat} {s : Pi.Tb} (h : Ok N s) (hm : N ≤ M) : Ok M s :=
  ⟨h.fine, fun x hx => by have := h.counts x hx; exact ⟨this.1, by omega, this.2.2.1, by omega⟩, h.below, h.next0, by have := h.next1; omega, by have := h.len; omega⟩

theorem Ok.put {N : Nat} {s : Pi.Tb} (h : Ok N s) (id : Int) (q : Pi.Pp) (h1 : Pi.mayB q.lab = true) (h2 : q.b.length ≤ 256) (h3 : 0 ≤ q.readers ∧ q.readers ≤ N) (h4 : 0 ≤ q.heirs ∧ q.heirs ≤ N) : Ok N { s with ps := Pi.put s.ps id q } := by
  refine ⟨?_, ?_, ?_, h.next0, h.next1, ?_⟩
  · intro x hx
    rcases mem_put hx with ⟨rfl, _⟩ | hx
    · exact ⟨h1, h2⟩
    · exact h.fine x hx
  · intro x hx
    rcases mem_put hx with ⟨rfl, _⟩ | hx
    · exact ⟨h3.1, h3.2, h4.1, h4.2⟩
    · exact h.counts x hx
  · intro x hx
    rcases mem_put hx with ⟨rfl, y, hy, hyi⟩ | hx
    · have := h.below y hy
      simp only
      omega
    · exact h.below x hx
  · have := h.len
    unfold Pi.put
    simpa using this

theorem Ok.del {N : Nat} {s : Pi.Tb} (h : Ok N s) (id : Int) : Ok N { s with ps := Pi.del s.ps id } := by
  have hm : ∀ x, x ∈ Pi.del s.ps id → x ∈ s.ps := fun x hx => (List.mem_filter.1 hx).1
  refine ⟨fun x hx => h.fine x (hm x hx), fun x hx => h.counts x (hm x hx), fun x hx => h.below x (hm x hx), h.next0, h.next1, ?_⟩
  have := h.len
  have h2 := List.length_filter_le (fun x : Int × Pi.Pp => !(x.1 == id)) s.ps
  simp only [Pi.del]
  omega

theorem Ok.make {N : Nat} {s : Pi.Tb} (h : Ok N s) (l : Pi.Lab) : Ok (N + 1) (Pi.make s l).2 := by
  unfold Pi.make
  by_cases hm : Pi.mayB l = true
  · rw [if_pos hm]
    refine ⟨?_, ?_, ?_, ?_, ?_, ?_⟩
    · intro x hx
      rcases List.mem_append.1 hx with hx | hx
      · exact h.fine x hx
      · simp at hx; subst hx; exact ⟨hm, by simp⟩
    · intro x hx
      rcases List.mem_append.1 hx with hx | hx
      · have := h.counts x hx; exact ⟨this.1, by omega, this.2.2.1, by omega⟩
      · simp at hx; subst hx; simp only; omega
    · intro x hx
      rcases List.mem_append.1 hx with hx | hx
      · have := h.below x hx; simp only; omega
      · simp at hx; subst hx; simp only; omega
    · have := h.next0; simp only; omega
    · have := h.next1; simp only; omega
    · have := h.len; simp only [List.length_append, List.length_cons, List.length_nil]; omega
  · rw [if_neg hm]
    exact h.mono (by omega)

theorem Ok.hold {N : Nat} {s : Pi.Tb} (h : Ok N s) (id : Int) (write : Bool) : Ok (N + 1) (Pi.hold s id write).2 := by
  unfold Pi.hold
  cases hf : Pi.find s.ps id with
  | none => exact h.mono (by omega)
  | some p =>
    have hc := h.counts _ (find_mem hf)
    have hfi := h.fine _ (find_mem hf)
    simp only at hc hfi ⊢
    refine (h.mono (M := N + 1) (by omega)).put id _ ?_ ?_ ?_ ?_
    all_goals cases write <;> simp <;> first | exact hfi.1 | exact hfi.2 | omega

theorem Ok.drop {N : Nat} {s : Pi.Tb} (h : Ok N s) (id : Int) (write : Bool) : Ok (N + 1) (Pi.drop s id write).2 := by
  unfold Pi.drop
  cases hf : Pi.find s.ps id with
  | none => exact h.mono (by omega)
  | some p =>
    have hc := h.counts _ (find_mem hf)
    have hfi := h.fine _ (find_mem hf)
    have hm := h.mono (M := N + 1) (by omega)
    cases write
    all_goals
      simp only [Bool.false_eq_true, if_false, if_true] at hc hfi ⊢
      split
      · exact hm
      · rename_i hz
        split
        · exact hm.del id
        · exact hm.put id _ hfi.1 hfi.2 ⟨by simp only; omega, by simp only; omega⟩ ⟨by simp only; omega, by simp only; omega⟩

theorem Ok.write {N : Nat} {s : Pi.Tb} (h : Ok N s) (w : Pi.Lab) (id : Int) (b : List UInt8) : Ok (N + 1) (Pi.write s w id b).2 := by
  unfold Pi.write
  cases hf : Pi.find s.ps id with
  | none => exact h.mono (by omega)
  | some p =>
    have hc := h.counts _ (find_mem hf)
    have hfi := h.fine _ (find_mem hf)
    simp only at hc hfi ⊢
    have hput : Ok (N + 1) { s with ps := Pi.put s.ps id { p with b := p.b ++ b.take (Pi.room p b.length) } } := by
      refine (h.mono (M := N + 1) (by omega)).put id _ hfi.1 ?_ ⟨hc.1, by simp only; omega⟩ ⟨hc.2.2.1, by simp only; omega⟩
      simp only [List.length_append, List.length_take]
      unfold Pi.room
      have := hfi.2
      omega
    split
    · exact h.mono (by omega)
    · split
      · exact h.mono (by omega)
      · split
        · simp only
          split
          · exact hput
          · exact h.mono (by omega)
        · split
          · exact h.mono (by omega)
          · split
            · exact h.mono (by omega)
            · exact hput

theorem Ok.read {N : Nat} {s : Pi.Tb} (h : Ok N s) (w : Pi.Lab) (id : Int) (n : Int) : Ok (N + 1) (Pi.read s w id n).2 := by
  unfold Pi.read
  cases hf : Pi.find s.ps id with
  | none => exact h.mono (by omega)
  | some p =>
    have hc := h.counts _ (find_mem hf)
    have hfi := h.fine _ (find_mem hf)
    simp only at hc hfi ⊢
    split
    · exact h.mono (by omega)
    · split
      · exact h.mono (by omega)
      · split
        · exact h.mono (by omega)
        · refine (h.mono (M := N + 1) (by omega)).put id _ hfi.1 ?_ ⟨hc.1, by simp only; omega⟩ ⟨hc.2.2.1, by simp only; omega⟩
          simp only [List.length_drop]
          have := hfi.2
          omega

/-! ### both tables -/

/-- in w the program's table at t is s, the document's at r is s2, and since w0 only new blocks have come or turned; the blocks of X are neither's. -/
structure Duo (w0 w : World) (t : Nat) (s : Pi.Tb) (r : Nat) (s2 : Pi.Tb) (X : List Nat) : Prop where
  ex : ∃ ot ou, Tab w t ot s ∧ RefAt w r ou s2 ∧ (∀ k ∈ ot, w0.heap.size ≤ k) ∧ (∀ k ∈ ou, w0.heap.size ≤ k ∧ k ∉ ot) ∧ ∀ k ∈ X, k < w.heap.size ∧ k ∉ ot ∧ k ∉ ou
  chg : Chg [] w0 w

section
variable {w0 w w' : World} {t r : Nat} {s s2 s3 : Pi.Tb} {X Y : List Nat} {N : Nat}

theorem Duo.kept0 (h : Duo w0 w t s r s2 X) (hc : Chg [] w w') : Duo w0 w' t s r s2 X := by
  obtain ⟨⟨ot, ou, h1, h2, h3, h4, h5⟩, h6⟩ := h
  have := hc.size
  exact ⟨⟨ot, ou, h1.kept0 hc, h2.kept0 hc, h3, h4, fun k hk => ⟨by have := (h5 k hk).1; omega, (h5 k hk).2⟩⟩, h6.then0 hc⟩

theorem Duo.drew (h : Duo w0 w t s r s2 X) : Duo w0 w.drew t s r s2 X := h.kept0 (Chg.refl [] w).drew
theorem Duo.drewN (h : Duo w0 w t s r s2 X) (n : Nat) : Duo w0 (w.drewN n) t s r s2 X := h.kept0 ((Chg.refl [] w).drewN n)

theorem Duo.sub (h : Duo w0 w t s r s2 X) (hy : ∀ k ∈ Y, k ∈ X) : Duo w0 w t s r s2 Y := by
  obtain ⟨⟨ot, ou, h1, h2, h3, h4, h5⟩, h6⟩ := h
  exact ⟨⟨ot, ou, h1, h2, h3, h4, fun k hk => h5 k (hy k hk)⟩, h6⟩

theorem Duo.fresh (h : Duo w0 w t s r s2 X) (o : Obj) : Duo w0 (w.alloc o) t s r s2 (w.heap.size :: X) := by
  obtain ⟨⟨ot, ou, h1, h2, h3, h4, h5⟩, h6⟩ := h
  have hs : (w.alloc o).heap.size = w.heap.size + 1 := by simp
  refine ⟨⟨ot, ou, h1.kept0 ((Chg.refl [] w).alloc o), h2.kept0 ((Chg.refl [] w).alloc o), h3, h4, fun k hk => ?_⟩, h6.alloc o⟩
  simp only [List.mem_cons] at hk
  rcases hk with rfl | hk
  · exact ⟨by omega, fun hk => by have := h1.lt _ hk; omega, fun hk => by have := h2.lt _ hk; omega⟩
  · exact ⟨by have := (h5 k hk).1; omega, (h5 k hk).2⟩

/-- a new row. -/
theorem Duo.row (h : Duo w0 w t s r s2 X) (hc : Chg [] w w') (Y : List Nat) (hy : ∀ k ∈ Y, w.heap.size ≤ k ∧ k < w'.heap.size) : Duo w0 w' t s r s2 (Y ++ X) := by
  obtain ⟨⟨ot, ou, h1, h2, h3, h4, h5⟩, h6⟩ := h
  have hs := hc.size
  refine ⟨⟨ot, ou, h1.kept0 hc, h2.kept0 hc, h3, h4, fun k hk => ?_⟩, h6.then0 hc⟩
  rcases List.mem_append.1 hk with hk | hk
  · have := hy k hk
    exact ⟨this.2, fun hk => by have := h1.lt _ hk; omega, fun hk => by have := h2.lt _ hk; omega⟩
  · exact ⟨by have := (h5 k hk).1; omega, (h5 k hk).2⟩

/-- a block of X turns. -/
theorem Duo.turn {F : List Nat} (h : Duo w0 w t s r s2 X) (hc : Chg F w w') (hF : ∀ k ∈ F, k ∈ X) (hn : ∀ k ∈ F, w0.heap.size ≤ k) : Duo w0 w' t s r s2 X := by
  obtain ⟨⟨ot, ou, h1, h2, h3, h4, h5⟩, h6⟩ := h
  have := hc.size
  exact ⟨⟨ot, ou, h1.kept hc (fun k hk hkF => (h5 k (hF k hkF)).2.1 hk), h2.kept hc (fun k hk hkF => (h5 k (hF k hkF)).2.2 hk), h3, h4, fun k hk => ⟨by have := (h5 k hk).1; omega, (h5 k hk).2⟩⟩, h6.trans hc (fun k hk => .inr (hn k hk))⟩

theorem Duo.left {ot ou : List Nat} (h2 : RefAt w r ou s2) (h3 : ∀ k ∈ ot, w0.heap.size ≤ k) (h4 : ∀ k ∈ ou, w0.heap.size ≤ k ∧ k ∉ ot) (h5 : ∀ k ∈ X, k < w.heap.size ∧ k ∉ ot ∧ k ∉ ou) (h6 : Chg [] w0 w)
    (h : Left1 w w' t ot s3) : Duo w0 w' t s3 r s2 X ∧ Same X w w' := by
  obtain ⟨own', k1, k2, k3⟩ := h
  have hs := h6.size
  have hs2 := k3.size
  refine ⟨⟨⟨own', ou, k1, h2.kept k3 (fun k hk => (h4 k hk).2), fun k hk => (k2 k hk).elim (h3 k) (fun h => by omega), fun k hk => ⟨(h4 k hk).1, fun hk' => ?_⟩, fun k hk => ⟨by have := (h5 k hk).1; omega, fun hk' => ?_, (h5 k hk).2.2⟩⟩, h6.trans k3 (fun x hx => .inr (h3 x hx))⟩, ⟨hs2, fun k hk => k3.block k (h5 k hk).1 (h5 k hk).2.1⟩⟩
  · rcases k2 k hk' with h | h
    · exact (h4 k hk).2 h
    · have := h2.lt k hk; omega
  · rcases k2 k hk' with h | h
    · exact (h5 k hk).2.1 h
    · have := (h5 k hk).1; omega

theorem Duo.leftR {ot ou : List Nat} (h1 : Tab w t ot s) (h3 : ∀ k ∈ ot, w0.heap.size ≤ k) (h4 : ∀ k ∈ ou, w0.heap.size ≤ k ∧ k ∉ ot) (h5 : ∀ k ∈ X, k < w.heap.size ∧ k ∉ ot ∧ k ∉ ou) (h6 : Chg [] w0 w)
    (h : RLeft w w' r ou s3) : Duo w0 w' t s r s3 X ∧ Same X w w' := by
  obtain ⟨own', k1, k2, k3⟩ := h
  have hs := h6.size
  have hs2 := k3.size
  refine ⟨⟨⟨ot, own', h1.kept k3 (fun k hk hk' => (h4 k hk').2 hk), k1, h3, fun k hk => ?_, fun k hk => ⟨by have := (h5 k hk).1; omega, (h5 k hk).2.1, fun hk' => ?_⟩⟩, h6.trans k3 (fun x hx => .inr (h4 x hx).1)⟩, ⟨hs2, fun k hk => k3.block k (h5 k hk).1 (h5 k hk).2.2⟩⟩
  · rcases k2 k hk with h | h
    · exact h4 k h
    · exact ⟨by omega, fun hk' => by have := h1.lt k hk'; omega⟩
  · rcases k2 k hk' with h | h
    · exact (h5 k hk).2.2 h
    · have := (h5 k hk).1; omega

theorem make_duo (h : Duo w0 w t s r s2 X) (hk : Ok N s) (hN : N ≤ 999999) (a1 : Option Addr) (n1 c1 : Nat) (a2 : Option Addr) (n2 c2 : Nat) (l : Pi.Lab) (hl : LabAt w0 a1 n1 c1 a2 n2 c2 l) {r1 r2 : Int} (hr : Pi.make s l = ((r1, r2), s3)) :
    Calls Try.prog 9 #[.pointer (some ⟨t, 0, none⟩), .agg #[.slice a1 n1 c1, .slice a2 n2 c2]] w
      fun e w' => e = .returned (.tuple #[.int .i64 r1, .int .i64 r2]) ∧ Duo w0 w' t s3 r s2 X ∧ Same X w w' := by
  have hl' := hl.kept0 h.chg
  obtain ⟨⟨ot, ou, h1, h2, h3, h4, h5⟩, h6⟩ := h
  refine (make_any t ot s a1 n1 c1 a2 n2 c2 l w h1 hl' hk.below hk.next0 (by have := hk.next1; omega) (by have := hk.len; omega)).mono ?_
  rw [hr]
  rintro e w' ⟨rfl, hl⟩
  exact ⟨rfl, Duo.left h2 h3 h4 h5 h6 hl⟩

theorem rmake_duo (h : Duo w0 w t s r s2 X) (hk : Ok N s2) (hN : N ≤ 999999) (a1 : Option Addr) (n1 c1 : Nat) (a2 : Option Addr) (n2 c2 : Nat) (l : Pi.Lab) (hl : LabAt w0 a1 n1 c1 a2 n2 c2 l) {r1 r2 : Int} (hr : Pi.make s2 l = ((r1, r2), s3)) :
    Calls Try.prog 17 #[.pointer (some ⟨r, 0, none⟩), .agg #[.slice a1 n1 c1, .slice a2 n2 c2]] w
      fun e w' => e = .returned (.tuple #[.int .i64 r1, .int .i64 r2]) ∧ Duo w0 w' t s r s3 X ∧ Same X w w' := by
  obtain ⟨⟨ot, ou, h1, h2, h3, h4, h5⟩, h6⟩ := h
  refine (rmake_any r ou s2 a1 n1 c1 a2 n2 c2 l w h2 (fun w' hc => hl.kept0 (h6.trans hc (fun x hx => .inr (h4 x hx).1))) hk.below hk.next0 (by have := hk.next1; omega) (by have := hk.len; omega)).mono ?_
  rw [hr]
  rintro e w' ⟨rfl, hl⟩
  exact ⟨rfl, Duo.leftR h1 h3 h4 h5 h6 hl⟩

theorem hold_duo (h : Duo w0 w t s r s2 X) (hk : Ok N s) (hN : N ≤ 999999) (id : Int) (hw : (Lit.int .i64 id).wf = true) (write : Bool) {v : Int} (hr : Pi.hold s id write = (v, s3)) :
    Calls Try.prog 15 #[.pointer (some ⟨t, 0, none⟩), .int .i64 id, .bool write] w fun e w' => e = .returned (.int .i64 v) ∧ Duo w0 w' t s3 r s2 X ∧ Same X w w' := by
  obtain ⟨⟨ot, ou, h1, h2, h3, h4, h5⟩, h6⟩ := h
  refine (hold_any t ot s id write N w h1 hw hk.counts (by omega)).mono ?_
  rw [hr]
  rintro e w' ⟨rfl, hl⟩
  exact ⟨rfl, Duo.left h2 h3 h4 h5 h6 hl⟩

theorem rhold_duo (h : Duo w0 w t s r s2 X) (hk : Ok N s2) (hN : N ≤ 999999) (id : Int) (write : Bool) {v : Int} (hr : Pi.hold s2 id write = (v, s3)) :
    Calls Try.prog 18 #[.pointer (some ⟨r, 0, none⟩), .int .i64 id, .bool write] w fun e w' => e = .returned (.int .i64 v) ∧ Duo w0 w' t s r s3 X ∧ Same X w w' := by
  obtain ⟨⟨ot, ou, h1, h2, h3, h4, h5⟩, h6⟩ := h
  refine (rhold_any r ou s2 id write N w h2 hk.counts (by omega)).mono ?_
  rw [hr]
  rintro e w' ⟨rfl, hl⟩
  exact ⟨rfl, Duo.leftR h1 h3 h4 h5 h6 hl⟩

theorem drop_duo (h : Duo w0 w t s r s2 X) (hk : Ok N s) (hN : N ≤ 999999) (id : Int) (hw : (Lit.int .i64 id).wf = true) (write : Bool) {v : Int} (hr : Pi.drop s id write = (v, s3)) :
    Calls Try.prog 12 #[.pointer (some ⟨t, 0, none⟩), .int .i64 id, .bool write] w fun e w' => e = .returned (.int .i64 v) ∧ Duo w0 w' t s3 r s2 X ∧ Same X w w' := by
  obtain ⟨⟨ot, ou, h1, h2, h3, h4, h5⟩, h6⟩ := h
  refine (drop_any t ot s id write N w h1 hw hk.counts (by omega)).mono ?_
  rw [hr]
  rintro e w' ⟨rfl, hl⟩
  exact ⟨rfl, Duo.left h2 h3 h4 h5 h6 hl⟩

theorem rdrop_duo (h : Duo w0 w t s r s2 X) (hk : Ok N s2) (hN : N ≤ 999999) (id : Int) (write : Bool) {v : Int} (hr : Pi.drop s2 id write = (v, s3)) :
    Calls Try.prog 19 #[.pointer (some ⟨r, 0, none⟩), .int .i64 id, .bool write] w fun e w' => e = .returned (.int .i64 v) ∧ Duo w0 w' t s r s3 X ∧ Same X w w' := by
  obtain ⟨⟨ot, ou, h1, h2, h3, h4, h5⟩, h6⟩ := h
  refine (rdrop_any r ou s2 id write N w h2 hk.counts (by omega) (by have := hk.len; omega)).mono ?_
  rw [hr]
  rintro e w' ⟨rfl, hl⟩
  exact ⟨rfl, Duo.leftR h1 h3 h4 h5 h6 hl⟩

theorem write_duo (h : Duo w0 w t s r s2 X) (hk : Ok N s) (a1 : Option Addr) (n1 c1 : Nat) (a2 : Option Addr) (n2 c2 : Nat) (wl : Pi.Lab) (id : Int) (hw : (Lit.int .i64 id).wf = true) (hl : LabAt w0 a1 n1 c1 a2 n2 c2 wl)
    (ab : Option Addr) (nb cb : Nat) (bs : List UInt8) (hsrc : SrcAt w ab (bs.map byteV)) (hnb : bs.length = nb) (hcb : nb ≤ cb) (hcm : cb ≤ maxLen) {r1 r2 : Int} (hr : Pi.write s wl id bs = ((r1, r2), s3)) :
    Calls Try.prog 10 #[.pointer (some ⟨t, 0, none⟩), .agg #[.slice a1 n1 c1, .slice a2 n2 c2], .int .i64 id, .slice ab nb cb] w
      fun e w' => e = .returned (.tuple #[.int .i64 r1, .int .i64 r2]) ∧ Duo w0 w' t s3 r s2 X ∧ Same X w w' := by
  have hl' := hl.kept0 h.chg
  obtain ⟨⟨ot, ou, h1, h2, h3, h4, h5⟩, h6⟩ := h
  refine (write_any t ot s a1 n1 c1 a2 n2 c2 wl id ab nb cb bs w h1 hw hk.fine hl' hsrc hnb hcb hcm).mono ?_
  rw [hr]
  rintro e w' ⟨rfl, hl⟩
  exact ⟨rfl, Duo.left h2 h3 h4 h5 h6 hl⟩

theorem rwrite_duo (h : Duo w0 w t s r s2 X) (hk : Ok N s2) (a1 : Option Addr) (n1 c1 : Nat) (a2 : Option Addr) (n2 c2 : Nat) (wl : Pi.Lab) (id : Int) (hl : LabAt w0 a1 n1 c1 a2 n2 c2 wl)
    (bs : List UInt8) (hbs : bs.length ≤ 9223372036854775807) {r1 r2 : Int} (hr : Pi.write s2 wl id bs = ((r1, r2), s3)) :
    Calls Try.prog 20 #[.pointer (some ⟨r, 0, none⟩), .agg #[.slice a1 n1 c1, .slice a2 n2 c2], .int .i64 id, .string (strB bs)] w
      fun e w' => e = .returned (.tuple #[.int .i64 r1, .int .i64 r2]) ∧ Duo w0 w' t s r s3 X ∧ Same X w w' := by
  have hl' := hl.kept0 h.chg
  obtain ⟨⟨ot, ou, h1, h2, h3, h4, h5⟩, h6⟩ := h
  refine (rwrite_any r ou s2 a1 n1 c1 a2 n2 c2 wl id bs w h2 hk.fine hl' hbs).mono ?_
  rw [hr]
  rintro e w' ⟨rfl, hl⟩
  exact ⟨rfl, Duo.leftR h1 h3 h4 h5 h6 hl⟩

theorem read_duo (h : Duo w0 w t s r s2 X) (hk : Ok N s) (a1 : Option Addr) (n1 c1 : Nat) (a2 : Option Addr) (n2 c2 : Nat) (wl : Pi.Lab) (id : Int) (hw : (Lit.int .i64 id).wf = true) (hl : LabAt w0 a1 n1 c1 a2 n2 c2 wl) (n : Int) (hn : (Lit.int .i64 n).wf = true)
    {out : List UInt8} {v : Int} (hr : Pi.read s wl id n = ((out, v), s3)) :
    Calls Try.prog 11 #[.pointer (some ⟨t, 0, none⟩), .agg #[.slice a1 n1 c1, .slice a2 n2 c2], .int .i64 id, .int .i64 n] w
      fun e w' => ∃ a m c, e = .returned (.tuple #[.slice a m c, .int .i64 v]) ∧ Hid (out.length = m) ∧ Row w' 5 1 (.slice a m c) m (out.map byteV) ∧ Duo w0 w' t s3 r s2 (rowBlock (.slice a m c) ++ X) ∧ Same X w w' := by
  have hl' := hl.kept0 h.chg
  obtain ⟨⟨ot, ou, h1, h2, h3, h4, h5⟩, h6⟩ := h
  refine (read_any t ot s a1 n1 c1 a2 n2 c2 wl id n w h1 hw hk.fine hl' hn).mono ?_
  rintro e w' ⟨a, m, c, rfl, hm, hrow, hnew, own', t1, t2, t3, t4⟩
  rw [hr] at hm hrow t1 ⊢
  simp only at hm hrow t1 ⊢
  obtain ⟨⟨⟨ot2, ou2, u1, u2, u3, u4, u5⟩, u6⟩, us⟩ := Duo.left (X := X) h2 h3 h4 h5 h6 ⟨own', t1, t2, t3⟩
  have hs3 := h6.size
  have hs4 := t3.size
  refine ⟨a, m, c, rfl, Lib.hid hm.symm, hrow, ⟨⟨own', ou, t1, h2.kept t3 (fun k hk => (h4 k hk).2), fun k hk => (t2 k hk).elim (h3 k) (fun h => by omega), fun k hk => ⟨(h4 k hk).1, fun hk' => ?_⟩, fun k hk => ?_⟩, u6⟩, us⟩
  · rcases t2 k hk' with h | h
    · exact (h4 k hk).2 h
    · have := h2.lt k hk; omega
  · rcases List.mem_append.1 hk with hk | hk
    · exact ⟨hrow.block_lt k hk, t4 k hk, fun hk' => by have := h2.lt k hk'; have := hnew k hk; omega⟩
    · refine ⟨by have := (h5 k hk).1; omega, fun hk' => ?_, (h5 k hk).2.2⟩
      rcases t2 k hk' with h | h
      · exact (h5 k hk).2.1 h
      · have := (h5 k hk).1; omega

theorem rread_duo (h : Duo w0 w t s r s2 X) (hk : Ok N s2) (a1 : Option Addr) (n1 c1 : Nat) (a2 : Option Addr) (n2 c2 : Nat) (wl : Pi.Lab) (id : Int) (hl : LabAt w0 a1 n1 c1 a2 n2 c2 wl) (n : Int)
    {out : List UInt8} {v : Int} (hr : Pi.read s2 wl id n = ((out, v), s3)) :
    Calls Try.prog 21 #[.pointer (some ⟨r, 0, none⟩), .agg #[.slice a1 n1 c1, .slice a2 n2 c2], .int .i64 id, .int .i64 n] w
      fun e w' => e = .returned (.tuple #[.string (strB out), .int .i64 v]) ∧ Duo w0 w' t s r s3 X ∧ Same X w w' := by
  have hl' := hl.kept0 h.chg
  obtain ⟨⟨ot, ou, h1, h2, h3, h4, h5⟩, h6⟩ := h
  refine (rread_any r ou s2 a1 n1 c1 a2 n2 c2 wl id n w h2 hk.fine hl').mono ?_
  rw [hr]
  rintro e w' ⟨rfl, hl⟩
  exact ⟨rfl, Duo.leftR h1 h3 h4 h5 h6 hl⟩

theorem count_duo (h : Duo w0 w t s r s2 X) : Calls Try.prog 16 #[.pointer (some ⟨t, 0, none⟩)] w fun e w' => e = .returned (.int .i64 s.ps.length) ∧ w' = w := by
  obtain ⟨⟨ot, ou, h1, _⟩, _⟩ := h
  exact (count_any t ot s w h1).mono fun e w' h => ⟨h.1, h.2.symm⟩

theorem Duo.len (h : Duo w0 w t s r s2 X) : ∃ a m cap, w.cell? ⟨r, 0, none⟩ = some (.slice a m cap) ∧ Hid (m = s2.ps.length) := by
  obtain ⟨⟨ot, ou, _, ⟨a, n, cap, es, h1, h2, h3, h4, _⟩, _⟩, _⟩ := h
  refine ⟨a, n, cap, cell_of_obj h1 (j := 0) rfl, Lib.hid ?_⟩
  have := h2.1
  rw [rcells_len] at this
  rw [h4, List.length_map]
  omega
end

theorem duo_new (w w1 w2 : World) (t : Nat) (ot : List Nat) (h1 : Tab w1 t ot Pi.new) (c1 : Chg [] w w1) (n1 : ∀ k ∈ ot, w.heap.size ≤ k)
    (c2 : Chg [] (w1.alloc (.cells #[.slice none 0 0, .int .i64 0] 46)) w2) : Duo w w2 t Pi.new w1.heap.size Pi.new [] := by
  have hs := c1.size
  have hc : Chg [] w1 w2 := ((Chg.refl [] w1).alloc _).then0 c2
  refine ⟨⟨ot, [w1.heap.size], h1.kept0 hc, ⟨none, 0, 0, [], c2.obj (obj_alloc_new w1 _) (by simp), Row.nil _ _ _ _, by simp, rfl, by simp [Pi.new], by simp [rowBlock], by simp [rowBlock], by simp⟩, n1, ?_, by simp⟩, c1.then0 hc⟩
  intro k hk
  simp at hk
  subst hk
  exact ⟨hs, fun hk => by have := h1.lt _ hk; omega⟩

end Go.Proofs.Ytihkanbkcnonoaa
