/-
  How far a word's plain signs reach, where a text has what may not be, which sign stands at its beginning: walked.
-/
import Derived.Test.YtfgbbmnmblchiaaDoorRune
import Derived.Shelf.Unicode.DecodeAny
namespace Go.Proofs.YtfgbbmnmblchiaaDoor
open Go.RowKit
set_option linter.unusedVariables false

theorem contains_any (u : Nat) (c : UInt8) (h2 : u ≤ 1114111) (hc : (u = c.toNat ∧ c.toNat < 128) ∨ (128 ≤ u ∧ 128 ≤ c.toNat)) (w : World) :
    Calls Tryd.prog 57 #[.string ⟨#[32, 9, 10, 59, 38, 124, 60, 62, 40, 41, 39, 34, 92, 36]⟩, .int .i32 u] w fun e w' => e = .returned (.bool (Lx.specB c)) ∧ Chg [] w w' := by
  rcases hc with ⟨rfl, hc⟩ | ⟨hu, hc⟩
  · refine (Tryd.strings_ContainsRune_ascii _ _ w (by omega) (by omega)).mono fun e w' hh => ⟨hh.1.trans (ret_bool ?_), by rw [hh.2]; exact Chg.refl _ _⟩
    rw [spec_sp, ← ib_has]
    have e1 : ((c.toNat : Int).toNat).toUInt8 = c := by simp
    rw [e1]
    rfl
  · have hr := Lib.hid (show Lx.specB c = false from by
      rw [spec_sp]
      cases hm : spL.contains c with
      | false => rfl
      | true =>
        have := spL_asc c (by simpa using hm)
        omega)
    go_enter Tryd.func57, Tryd.ntmps57
    have H2 := Lib.hid h2
    clear h2
    go_wp2_with fail
    refine (indexRune_high u hu H2.out w).mono ?_
    rintro e w' ⟨rfl, h⟩
    have H := Lib.hid h
    clear h
    go_wp2
    go_ret
    exact ⟨ret_bool hr.out.symm, H.out⟩

def plainLen (l : List UInt8) : Nat := (l.takeWhile fun c => !Lx.specB c).length

/-- the character at a place, as the tests for signs see it. -/
theorem spec_at (l : List UInt8) (pos : Nat) (h : pos < l.length) :
    Lx.rune (l.drop pos) ≤ 1114111 ∧ ((Lx.rune (l.drop pos) = (l.getD pos 0).toNat ∧ (l.getD pos 0).toNat < 128) ∨ (128 ≤ Lx.rune (l.drop pos) ∧ 128 ≤ (l.getD pos 0).toNat)) ∧
      1 ≤ Lx.wid (l.drop pos) ∧ pos + Lx.wid (l.drop pos) ≤ l.length ∧ (Lx.specB (l.getD pos 0) = false → ∀ j, j < Lx.wid (l.drop pos) → Lx.specB (l.getD (pos + j) 0) = false) := by
  have hne : l.drop pos ≠ [] := by intro e; have := congrArg List.length e; simp at this; omega
  have hle := Lx.wid_le _ hne
  rw [List.length_drop] at hle
  refine ⟨Lx.rune_le _, ?_, Lx.wid_pos _ hne, by omega, ?_⟩
  · rw [drop_at l pos h]
    by_cases hc : (l.getD pos 0).toNat < 128
    · exact .inl ⟨(Lx.dec_ascii _ _ hc).1, hc⟩
    · exact .inr ⟨(Lx.dec_high _ _ (by omega)).1, by omega⟩
  · intro hs j hj
    by_cases hc : (l.getD pos 0).toNat < 128
    · rw [drop_at l pos h, (Lx.dec_ascii _ _ hc).2] at hj
      have : j = 0 := by omega
      subst this
      exact hs
    · have hw := Lx.wid_high (l.getD pos 0) (l.drop (pos + 1)) (by omega)
      rw [← drop_at l pos h] at hw
      have hd : l.getD (pos + j) 0 ∈ (l.drop pos).take (Lx.wid (l.drop pos)) := by
        have hlt : pos + j < l.length := by omega
        refine List.mem_iff_getElem?.2 ⟨j, ?_⟩
        rw [List.getElem?_take, if_pos hj, List.getElem?_drop]
        simp [List.getD, hlt]
      have h128 := hw _ hd
      rw [spec_sp]
      cases hm : spL.contains (l.getD (pos + j) 0) with
      | false => rfl
      | true =>
        have := spL_asc (l.getD (pos + j) 0) (by simpa using hm)
        omega

set_option maxHeartbeats 1000000 in
theorem plain_list (l : List UInt8) (w : World) (hl : l.length ≤ 9223372036854775807) :
    Calls Tryd.prog 40 #[.string (Lx.strB l)] w fun e w' => e = .returned (.int .i64 (plainLen l)) ∧ Chg [] w w' := by
  have hsz := Lx.strB_size l
  have hit0 := World.iter_heap w (Lx.strB l) 0
  have HC0 := Lib.hid ((Chg.refl [] w).iter (Lx.strB l) 0)
  go_enter Tryd.func40, Tryd.ntmps40
  go_wp2
  go_loopg [3, 4] (l.length + 1) (fun g c3 c4 wr => ∃ pos : Nat, l.length < pos + g ∧ pos ≤ l.length ∧ wr.heap[w.heap.size]? = some (.stringIter (Lx.strB l) pos) ∧ Chg [] w wr ∧ Hid (∀ j, j < pos → (!Lx.specB (l.getD j 0)) = true))
  case atStart => exact ⟨0, by omega, by omega, hit0, HC0.out, Lib.hid (fun j hj => by omega)⟩
  case round =>
    obtain ⟨pos, hg, hle, hit, hch, hall⟩ := hrel
    have HC := Lib.hid hch
    clear hch hit0 HC0
    cases gk with
    | zero => omega
    | succ g =>
      by_cases hp : pos < l.length
      · have hnx := fun ty => next_at wr w.heap.size l pos ty hit hp
        obtain ⟨t1, t2, t3, t4, t5⟩ := spec_at l pos hp
        have hit2 := Lib.iterAt_heap wr w.heap.size (Lx.strB l) pos (pos + Lx.wid (l.drop pos)) hit
        have HC2 := Lib.hid (HC.out.iterAt w.heap.size (Nat.le_refl _) (Lx.strB l) (pos + Lx.wid (l.drop pos)))
        generalize Lx.rune (l.drop pos) = u at *
        generalize Lx.wid (l.drop pos) = n at *
        generalize wr.iterAt w.heap.size (Lx.strB l) (pos + n) = w2 at *
        have T1 := Lib.hid t1
        have T2 := Lib.hid t2
        have T5 := Lib.hid t5
        clear hit t1 t2 t5
        cases hs : Lx.specB (l.getD pos 0) with
        | true =>
          have hr := Lib.hid (show plainLen l = pos from takeWhile_all hall.out hle (.inr (by rw [hs]; rfl)))
          have HS := Lib.hid hs
          clear hs
          go_wp2_with fail
          refine (contains_any u (l.getD pos 0) T1.out T2.out _).mono ?_
          rw [HS.out]
          rintro e w3 ⟨rfl, h3⟩
          have H3 := Lib.hid h3
          clear h3
          go_wp2
          go_ret
          exact ⟨ret_i64 (by rw [hr.out]), HC2.out.then0 H3.out⟩
        | false =>
          have HN := Lib.hid (show ∀ j, j < pos + n → (!Lx.specB (l.getD j 0)) = true from fun j hj => by
            by_cases hj' : j < pos
            · exact hall.out j hj'
            · have := T5.out hs (j - pos) (by omega)
              rw [show pos + (j - pos) = j from by omega] at this
              rw [this]; rfl)
          have HS := Lib.hid hs
          clear hs
          go_wp2_with fail
          refine (contains_any u (l.getD pos 0) T1.out T2.out _).mono ?_
          rw [HS.out]
          rintro e w3 ⟨rfl, h3⟩
          have H3 := Lib.hid h3
          have hit3 := h3.obj hit2 (by simp)
          clear h3
          go_wp2
          go_roundg g
          case measure => omega
          case rel => exact ⟨pos + n, by omega, by omega, hit3, HC2.out.then0 H3.out, HN⟩
      · have hnx := fun ty => next_end wr w.heap.size l pos ty hit hp
        have he : pos = l.length := by omega
        have hr := Lib.hid (show plainLen l = l.length from takeWhile_all (by rw [← he]; exact hall.out) (Nat.le_refl _) (.inl rfl))
        clear hit
        go_wp2
        go_ret
        exact ⟨ret_i64 (by rw [hr.out]), HC.out⟩

theorem plain_any (s : ByteArray) (w : World) (hl : s.size ≤ 9223372036854775807) :
    Calls Tryd.prog 40 #[.string s] w fun e w' => e = .returned (.int .i64 (plainLen s.data.toList)) ∧ Chg [] w w' := by
  have := plain_list s.data.toList w (by rw [← Lx.strB_size, Lx.strB_self]; exact hl)
  rwa [Lx.strB_self] at this

/-- the library's two tables. -/
abbrev U8 (w : World) : Prop := Lib.Utf8Tabs 0 1 w

theorem decode_any (l : List UInt8) (hl : l ≠ []) (w : World) (hT : Hid (U8 w)) :
    Calls Tryd.prog 37 #[.string (Lx.strB l)] w fun e w' => e = .returned (.tuple #[.int .i32 (Lx.rune l), .int .i64 (Lx.wid l)]) ∧ Chg [] w w' := by
  have h := Tryd.utf8_DecodeRuneInString (Lx.strB l) w hT.out
  have e : Lib.decodeGo (Lx.strB l) = (Lx.rune l, Lx.wid l) := by
    unfold Lib.decodeGo
    rw [if_neg (by rw [Lx.strB_size]; intro e; exact hl (List.eq_nil_of_length_eq_zero e))]
    rfl
  rw [e] at h
  exact h.mono fun e w' hh => ⟨hh.1, Chg.ofBelow hh.2⟩

end Go.Proofs.YtfgbbmnmblchiaaDoor
