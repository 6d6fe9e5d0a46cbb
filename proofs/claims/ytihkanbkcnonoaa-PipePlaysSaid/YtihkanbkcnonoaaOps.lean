/-
  pipe.New, end, Hold, Drop and Count, walked.
-/
import Derived.Test.YtihkanbkcnonoaaTab2
import Derived.Deep.RegionHeld3
namespace Go.Proofs.Ytihkanbkcnonoaa
open Go.RowKit Go.Maps
set_option linter.unusedVariables false

theorem new_any (w : World) : Calls Try.prog 8 #[] w fun e w' => ∃ t own, e = .returned (.pointer (some ⟨t, 0, none⟩)) ∧ Tab w' t own Pi.new ∧ Chg [] w w' ∧ ∀ k ∈ own, w.heap.size ≤ k := by
  have hmm := @run_makeMap Try.prog
  go_enter Try.func8, Try.ntmps8
  go_wp2
  go_ret
  have h1 := (PMap.made w).kept ((Chg.refl [] _).alloc (.cells #[.map (some w.heap.size), .int .i64 1] 60)) (by simp)
  have h2 := obj_alloc_new (w.alloc (.map #[] 0)) (.cells #[.map (some w.heap.size), .int .i64 1] 60)
  have e1 : (w.alloc (.map #[] 0)).heap.size = w.heap.size + 1 := by simp
  rw [e1] at h2
  exact ⟨w.heap.size + 1, [w.heap.size + 1, w.heap.size], rfl, ⟨w.heap.size, [], h2, h1, by simp, rfl, rfl, by simp⟩, ((Chg.refl [] w).alloc _).alloc _, by simp⟩

theorem end_any (pb off : Nat) (write : Bool) (w : World) : Calls Try.prog 29 #[.pointer (some ⟨pb, 0, none⟩), .bool write] w fun e w' => e = .returned (.pointer (some ⟨pb, if write then 4 else 3, none⟩)) ∧ w = w' := by
  cases write
  all_goals
    go_enter Try.func29, Try.ntmps29
    go_wp2
    go_ret
    exact ⟨rfl, rfl⟩

theorem PipeAt.raise {w : World} {pb : Nat} {own : List Nat} {p : Pi.Pp} (h : PipeAt w pb own p) (hn : own.Nodup) (v : Int) :
    PipeAt (w.setCell ⟨pb, 4, none⟩ (.int .i64 v)) pb own { p with heirs := v } ∧ PipeAt (w.setCell ⟨pb, 3, none⟩ (.int .i64 v)) pb own { p with readers := v } := by
  obtain ⟨a1, n1, c1, a2, n2, c2, vb, h1, h2, h3, h4, rfl⟩ := h
  simp only [List.nodup_cons, List.mem_append, not_or] at hn
  obtain ⟨⟨⟨k1, k2⟩, k3⟩, _⟩ := hn
  constructor
  all_goals
    refine ⟨a1, n1, c1, a2, n2, c2, vb, obj_setCell h1 _ _, ?_, ?_, ?_, rfl⟩
    all_goals
      first
        | exact h2.kept ((Chg.refl [pb] w).setCell _ _ (by simp)) (by intro k hk he; simp at he; subst he; exact k1 hk)
        | exact h3.kept ((Chg.refl [pb] w).setCell _ _ (by simp)) (by intro k hk he; simp at he; subst he; exact k2 hk)
        | exact h4.kept ((Chg.refl [pb] w).setCell _ _ (by simp)) (by intro k hk he; simp at he; subst he; exact k3 hk)

theorem PipeAt.head {w : World} {pb : Nat} {own : List Nat} {p : Pi.Pp} (h : PipeAt w pb own p) : pb ∈ own := by
  obtain ⟨a1, n1, c1, a2, n2, c2, vb, h1, h2, h3, h4, rfl⟩ := h
  simp

/-- the two counts' cells. -/
theorem PipeAt.counts {w : World} {pb : Nat} {own : List Nat} {p : Pi.Pp} (h : PipeAt w pb own p) :
    w.cell? ⟨pb, 3, none⟩ = some (.int .i64 p.readers) ∧ w.cell? ⟨pb, 4, none⟩ = some (.int .i64 p.heirs) ∧ w.frozen? ⟨pb, 3, none⟩ = false ∧ w.frozen? ⟨pb, 4, none⟩ = false := by
  obtain ⟨a1, n1, c1, a2, n2, c2, vb, h1, _⟩ := h
  exact ⟨cell_of_obj h1 rfl, cell_of_obj h1 rfl, free_of_obj h1 _, free_of_obj h1 _⟩

/-- What a call on a table leaves. -/
def Left1 (w w' : World) (t : Nat) (own : List Nat) (s : Pi.Tb) : Prop := ∃ own', Tab w' t own' s ∧ (∀ k ∈ own', k ∈ own ∨ w.heap.size ≤ k) ∧ Chg own w w'

/-- how many hold an end of any pipe. -/
def Counts (N : Nat) (s : Pi.Tb) : Prop := ∀ x ∈ s.ps, 0 ≤ x.2.readers ∧ x.2.readers ≤ N ∧ 0 ≤ x.2.heirs ∧ x.2.heirs ≤ N

theorem find_mem {l : List (Int × Pi.Pp)} {id : Int} {p : Pi.Pp} (h : Pi.find l id = some p) : (id, p) ∈ l := by
  unfold Pi.find at h
  obtain ⟨x, hx, rfl⟩ := Option.map_eq_some_iff.1 h
  have h1 := List.find?_some hx
  have h2 := List.mem_of_find?_eq_some hx
  simp at h1
  rw [← h1]
  exact h2

set_option maxHeartbeats 400000 in
theorem hold_any (t : Nat) (own : List Nat) (s : Pi.Tb) (id : Int) (write : Bool) (N : Nat) (w : World) (h : Tab w t own s) (hw : (Lit.int .i64 id).wf = true) (hN : Counts N s) (hN2 : N ≤ 1000000) :
    Calls Try.prog 15 #[.pointer (some ⟨t, 0, none⟩), .int .i64 id, .bool write] w fun e w' => e = .returned (.int .i64 (Pi.hold s id write).1) ∧ Left1 w w' t own (Pi.hold s id write).2 := by
  obtain ⟨mb, ht, hm, hto, htm, hcase⟩ := h.focus hw
  have hc0 := cell_of_obj ht (j := 0) rfl
  rcases hcase with ⟨hf, hlook⟩ | ⟨pb, po, p, hlook, F⟩
  · have hr := Lib.hid (show Pi.hold s id write = (61, s) from by unfold Pi.hold; rw [hf])
    clear hf ht
    go_enter Try.func15, Try.ntmps15
    go_wp2
    go_ret
    rw [hr.out]
    exact ⟨rfl, own, h, fun k hk => .inl hk, Chg.refl _ _⟩
  · obtain ⟨k3, k4, f3, f4⟩ := F.at_.counts
    have hb := hN _ (find_mem F.found)
    simp only at hb
    have hr := Lib.hid (show Pi.hold s id write = (0, { s with ps := Pi.put s.ps id (if write then { p with heirs := p.heirs + 1 } else { p with readers := p.readers + 1 }) }) from by unfold Pi.hold; rw [F.found])
    have hsub := Lib.hid F.sub
    have hput := Lib.hid F.put
    have hra := Lib.hid (F.at_.raise F.nodup)
    have hhd := Lib.hid F.at_.head
    have hnd := Lib.hid F.nodup
    clear ht F
    cases write with
    | false =>
      go_enter Try.func15, Try.ntmps15
      go_wp2_with (go_at_call 29; refine (end_any pb 0 _ _).mono ?_; rintro e w' ⟨rfl, rfl⟩)
      go_ret
      rw [hr.out]
      refine ⟨rfl, ?_⟩
      have hch := (Chg.refl [pb] w).setCell ⟨pb, 3, none⟩ (.int .i64 (p.readers + 1)) (by simp)
      obtain ⟨own', h1, h2⟩ := hput.out [pb] _ _ po hch (by simpa using hhd.out) (hra.out _).2 hnd.out (fun k hk => .inl hk)
      exact ⟨own', h1, fun k hk => (h2 k hk).elim .inl (fun h => .inl (hsub.out k h)), hch.mono (fun x hx => .inl (by simp at hx; subst hx; exact hsub.out _ hhd.out))⟩
    | true =>
      go_enter Try.func15, Try.ntmps15
      go_wp2_with (go_at_call 29; refine (end_any pb 0 _ _).mono ?_; rintro e w' ⟨rfl, rfl⟩)
      go_ret
      rw [hr.out]
      refine ⟨rfl, ?_⟩
      have hch := (Chg.refl [pb] w).setCell ⟨pb, 4, none⟩ (.int .i64 (p.heirs + 1)) (by simp)
      obtain ⟨own', h1, h2⟩ := hput.out [pb] _ _ po hch (by simpa using hhd.out) (hra.out _).1 hnd.out (fun k hk => .inl hk)
      exact ⟨own', h1, fun k hk => (h2 k hk).elim .inl (fun h => .inl (hsub.out k h)), hch.mono (fun x hx => .inl (by simp at hx; subst hx; exact hsub.out _ hhd.out))⟩

theorem count_any (t : Nat) (own : List Nat) (s : Pi.Tb) (w : World) (h : Tab w t own s) :
    Calls Try.prog 16 #[.pointer (some ⟨t, 0, none⟩)] w fun e w' => e = .returned (.int .i64 s.ps.length) ∧ w = w' := by
  obtain ⟨mb, l, h1, h2, h3, h4, _⟩ := h
  have hc0 := cell_of_obj h1 (j := 0) rfl
  have hl : (l.map fun e => (e.id, e.blk)).length = s.ps.length := by rw [h4]; simp
  have hlen := fun ty => h2.len ty
  rw [hl] at hlen
  clear h1 h2 h3 h4 hl
  go_enter Try.func16, Try.ntmps16
  go_wp2
  go_ret
  exact ⟨rfl, rfl⟩

end Go.Proofs.Ytihkanbkcnonoaa
