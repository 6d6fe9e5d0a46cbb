/-
  The letters of names, walked: first, later, name, Name.
-/
import Derived.Test.YtfgbbmnmblchiaaDoorRange
namespace Go.Proofs.YtfgbbmnmblchiaaDoor
open Go.RowKit
set_option linter.unusedVariables false

def firstI (c : Int) : Bool := (decide (97 ≤ c) && decide (c ≤ 122)) || (decide (65 ≤ c) && decide (c ≤ 90)) || c == 95
def laterI (c : Int) : Bool := firstI c || (decide (48 ≤ c) && decide (c ≤ 57))

theorem first_any (c : Int) (w : World) : Calls Tryd.prog 76 #[.int .i32 c] w fun e w' => e = .returned (.bool (firstI c)) ∧ w = w' := by
  by_cases h1 : 97 ≤ c
  all_goals by_cases h2 : c ≤ 122
  all_goals by_cases h3 : 65 ≤ c
  all_goals by_cases h4 : c ≤ 90
  all_goals
    go_enter Tryd.func76, Tryd.ntmps76
    go_wp2
    all_goals
      go_ret
      exact ⟨ret_bool (by simp only [firstI, h1, h2, h3, h4]; simp <;> omega), rfl⟩

theorem later_any (c : Int) (w : World) : Calls Tryd.prog 77 #[.int .i32 c] w fun e w' => e = .returned (.bool (laterI c)) ∧ w = w' := by
  have hl : laterI c = (firstI c || (decide (48 ≤ c) && decide (c ≤ 57))) := rfl
  cases hf : firstI c with
  | true =>
    go_enter Tryd.func77, Tryd.ntmps77
    go_wp2_with fail
    refine (first_any c w).mono ?_
    rw [hf]
    rintro e w' ⟨rfl, rfl⟩
    go_wp2
    go_ret
    exact ⟨ret_bool (by rw [hl, hf]; rfl), rfl⟩
  | false =>
    by_cases h1 : 48 ≤ c
    all_goals by_cases h2 : c ≤ 57
    all_goals
      go_enter Tryd.func77, Tryd.ntmps77
      go_wp2_with fail
      refine (first_any c w).mono ?_
      rw [hf]
      rintro e w' ⟨rfl, rfl⟩
      go_wp2
      all_goals
        go_ret
        exact ⟨ret_bool (by simp [laterI, hf]; omega), rfl⟩

theorem firstI_byte (c : UInt8) : firstI (c.toNat : Int) = Lx.firstB c := by
  unfold firstI Lx.firstB
  congr 1
  · congr 1 <;> congr 1 <;> (rw [decide_eq_decide]; omega)
  · rw [Bool.eq_iff_iff, beq_iff_eq, beq_iff_eq]; omega
theorem laterI_byte (c : UInt8) : laterI (c.toNat : Int) = Lx.laterB c := by
  unfold laterI Lx.laterB
  rw [firstI_byte]
  congr 2 <;> (rw [decide_eq_decide]; omega)
theorem firstI_high (u : Nat) (h : 128 ≤ u) : firstI (u : Int) = false := by
  unfold firstI
  have e1 : decide ((u : Int) ≤ 122) = false := decide_eq_false (by omega)
  have e2 : decide ((u : Int) ≤ 90) = false := decide_eq_false (by omega)
  have e3 : ((u : Int) == 95) = false := by rw [beq_eq_false_iff_ne]; omega
  simp [e1, e2, e3]
theorem laterI_high (u : Nat) (h : 128 ≤ u) : laterI (u : Int) = false := by
  unfold laterI
  rw [firstI_high u h]
  have e1 : decide ((u : Int) ≤ 57) = false := decide_eq_false (by omega)
  simp [e1]
theorem firstB_high (c : UInt8) (h : 128 ≤ c.toNat) : Lx.firstB c = false := by rw [← firstI_byte]; exact firstI_high _ h
theorem laterB_high (c : UInt8) (h : 128 ≤ c.toNat) : Lx.laterB c = false := by rw [← laterI_byte]; exact laterI_high _ h

/-- the first character of what is left, as the names' tests see it. -/
theorem tests_at (l : List UInt8) (pos : Nat) (h : pos < l.length) :
    firstI (Lx.rune (l.drop pos)) = Lx.firstB (l.getD pos 0) ∧ laterI (Lx.rune (l.drop pos)) = Lx.laterB (l.getD pos 0) ∧ (Lx.laterB (l.getD pos 0) = true → Lx.wid (l.drop pos) = 1) := by
  rw [drop_at l pos h]
  by_cases hc : (l.getD pos 0).toNat < 128
  · obtain ⟨h1, h2⟩ := Lx.dec_ascii (l.getD pos 0) (l.drop (pos + 1)) hc
    rw [h1, h2, firstI_byte, laterI_byte]
    exact ⟨rfl, rfl, fun _ => rfl⟩
  · have hc' : 128 ≤ (l.getD pos 0).toNat := by omega
    obtain ⟨h1, h2, _⟩ := Lx.dec_high (l.getD pos 0) (l.drop (pos + 1)) hc'
    rw [firstI_high _ h1, laterI_high _ h1, firstB_high _ hc', laterB_high _ hc']
    exact ⟨rfl, rfl, fun h => by cases h⟩

theorem first_later (c : UInt8) (h : Lx.firstB c = true) : Lx.laterB c = true := by unfold Lx.laterB; rw [h]; rfl

theorem takeWhile_all {p : UInt8 → Bool} {l : List UInt8} {k : Nat} (h : ∀ j, j < k → p (l.getD j 0) = true) (hk : k ≤ l.length) (hs : k = l.length ∨ p (l.getD k 0) = false) : (l.takeWhile p).length = k := by
  induction l generalizing k with
  | nil => simp at hk; subst hk; rfl
  | cons c t ih =>
    cases k with
    | zero =>
      rcases hs with hs | hs
      · simp at hs
      · have : p c = false := hs
        simp [this]
    | succ k =>
      have h0 : p c = true := h 0 (by omega)
      have := ih (k := k) (fun j hj => h (j + 1) (by omega)) (by simpa using hk) (by rcases hs with hs | hs; · left; simpa using hs
                                                                                     · right; exact hs)
      simp [h0, this]
theorem takeWhile_ge {p : UInt8 → Bool} {l : List UInt8} {k : Nat} (h : ∀ j, j < k → p (l.getD j 0) = true) (hk : k ≤ l.length) : k ≤ (l.takeWhile p).length := by
  induction l generalizing k with
  | nil => simp at hk; omega
  | cons c t ih =>
    cases k with
    | zero => omega
    | succ k =>
      have h0 : p c = true := h 0 (by omega)
      have := ih (k := k) (fun j hj => h (j + 1) (by omega)) (by simpa using hk)
      simp [h0]
      omega

theorem nameLen_eq (l : List UInt8) : Lx.nameLen l = if Lx.firstB (l.getD 0 0) = true ∧ l ≠ [] then min 32 (l.takeWhile Lx.laterB).length else 0 := by
  cases l with
  | nil => simp [Lx.nameLen]
  | cons c t =>
    simp only [Lx.nameLen, List.getD, List.getElem?_cons_zero, Option.getD_some]
    by_cases h : Lx.firstB c = true
    · have h2 := first_later c h
      simp [h, h2]
      omega
    · simp [h]

/-- where the reading of a name stands. -/
structure NameAt (l : List UInt8) (pos : Nat) : Prop where
  le : pos ≤ 32
  len : pos ≤ l.length
  hd : 0 < pos → Lx.firstB (l.getD 0 0) = true
  all : ∀ j, j < pos → Lx.laterB (l.getD j 0) = true

theorem NameAt.stop {l : List UInt8} {pos : Nat} (h : NameAt l pos) (hs : pos = l.length ∨ 32 ≤ pos ∨ (pos = 0 ∧ Lx.firstB (l.getD pos 0) = false) ∨ Lx.laterB (l.getD pos 0) = false) : Lx.nameLen l = pos := by
  rw [nameLen_eq]
  have hle := h.le
  have hlen := h.len
  by_cases h0 : pos = 0
  · subst h0
    rcases hs with hs | hs | hs | hs
    · have : l = [] := List.eq_nil_of_length_eq_zero hs.symm
      subst this; simp
    · omega
    · rw [hs.2]; simp
    · rw [if_neg]
      intro hh
      rw [first_later _ hh.1] at hs
      cases hs
  · have hne : l ≠ [] := by intro e; subst e; simp at hlen; omega
    rw [if_pos ⟨h.hd (by omega), hne⟩]
    rcases hs with hs | hs | hs | hs
    · rw [takeWhile_all h.all h.len (.inl hs)]; omega
    · have := takeWhile_ge h.all h.len
      omega
    · omega
    · rw [takeWhile_all h.all h.len (.inr hs)]; omega

theorem NameAt.next {l : List UInt8} {pos : Nat} (h : NameAt l pos) (h1 : pos < 32) (h2 : pos < l.length) (h3 : pos = 0 → Lx.firstB (l.getD pos 0) = true) (h4 : Lx.laterB (l.getD pos 0) = true) : NameAt l (pos + 1) :=
  ⟨by omega, by omega, fun _ => by
    by_cases h0 : pos = 0
    · subst h0; exact h3 rfl
    · exact h.hd (by omega), fun j hj => by
    by_cases hj' : j = pos
    · subst hj'; exact h4
    · exact h.all j (by omega)⟩

set_option maxHeartbeats 2000000 in
theorem name_list (l : List UInt8) (w : World) (hl : l.length ≤ 9223372036854775807) :
    Calls Tryd.prog 65 #[.string (Lx.strB l)] w fun e w' => e = .returned (.int .i64 (Lx.nameLen l)) ∧ Chg [] w w' := by
  have hsz := Lx.strB_size l
  have hit0 := World.iter_heap w (Lx.strB l) 0
  have HC0 := Lib.hid ((Chg.refl [] w).iter (Lx.strB l) 0)
  go_enter Tryd.func65, Tryd.ntmps65
  go_wp2
  go_loopg [3, 4] (l.length + 1) (fun g c3 c4 wr => ∃ pos : Nat, pos + g = l.length + 1 ∧ wr.heap[w.heap.size]? = some (.stringIter (Lx.strB l) pos) ∧ Chg [] w wr ∧ NameAt l pos)
  case atStart => exact ⟨0, by omega, hit0, HC0.out, ⟨by omega, by omega, fun h => by omega, fun j hj => by omega⟩⟩
  case round =>
    obtain ⟨pos, hg, hit, hch, hna⟩ := hrel
    have HC := Lib.hid hch
    clear hch hit0 HC0
    have hlen := hna.len
    cases gk with
    | zero => omega
    | succ g =>
      by_cases hp : pos < l.length
      · have hnx := fun ty => next_at wr w.heap.size l pos ty hit hp
        obtain ⟨t1, t2, t3⟩ := tests_at l pos hp
        have hit2 := Lib.iterAt_heap wr w.heap.size (Lx.strB l) pos (pos + Lx.wid (l.drop pos)) hit
        have HC2 := Lib.hid (HC.out.iterAt w.heap.size (Nat.le_refl _) (Lx.strB l) (pos + Lx.wid (l.drop pos)))
        have T3 := Lib.hid t3
        generalize Lx.rune (l.drop pos) = u at *
        generalize Lx.wid (l.drop pos) = n at *
        generalize wr.iterAt w.heap.size (Lx.strB l) (pos + n) = w2 at *
        clear hit t3
        have F1 := Lib.hid t1
        have F2 := Lib.hid t2
        clear t1 t2
        by_cases h32 : 32 ≤ pos
        · have hd1 : decide ((32 : Int) ≤ (pos : Int)) = true := decide_eq_true (by omega)
          have hr := Lib.hid (hna.stop (.inr (.inl h32)))
          clear hna
          go_wp2
          go_ret
          exact ⟨ret_i64 (by have := hr.out; omega), HC2.out⟩
        · have hd1 : decide ((32 : Int) ≤ (pos : Int)) = false := decide_eq_false (by omega)
          by_cases h0 : pos = 0
          · have hd2 : ((pos : Int) == 0) = true := by rw [beq_iff_eq]; omega
            cases hf : Lx.firstB (l.getD pos 0) with
            | false =>
              have hr := Lib.hid (hna.stop (.inr (.inr (.inl ⟨h0, hf⟩))))
              rw [hf] at F1
              clear hna hf
              go_wp2_with fail
              refine (first_any _ _).mono ?_
              rw [F1.out]
              rintro e w' ⟨rfl, rfl⟩
              go_wp2
              go_ret
              exact ⟨ret_i64 (by have := hr.out; omega), HC2.out⟩
            | true =>
              rw [hf] at F1
              have ht := first_later _ hf
              have HN := Lib.hid (hna.next (by omega) hp (fun _ => hf) ht)
              have hn1 := T3.out ht
              subst hn1
              rw [ht] at F2
              clear hna hf ht T3
              go_wp2_with fail
              refine (first_any _ _).mono ?_
              rw [F1.out]
              rintro e w' ⟨rfl, rfl⟩
              go_wp2_with fail
              refine (later_any _ _).mono ?_
              rw [F2.out]
              rintro e w' ⟨rfl, rfl⟩
              go_wp2
              go_roundg g
              case measure => omega
              case rel => exact ⟨pos + 1, by omega, hit2, HC2.out, HN.out⟩
          · have hd2 : ((pos : Int) == 0) = false := by rw [beq_eq_false_iff_ne]; omega
            cases ht : Lx.laterB (l.getD pos 0) with
            | false =>
              have hr := Lib.hid (hna.stop (.inr (.inr (.inr ht))))
              rw [ht] at F2
              clear hna ht
              go_wp2_with fail
              refine (later_any _ _).mono ?_
              rw [F2.out]
              rintro e w' ⟨rfl, rfl⟩
              go_wp2
              go_ret
              exact ⟨ret_i64 (by have := hr.out; omega), HC2.out⟩
            | true =>
              have HN := Lib.hid (hna.next (by omega) hp (fun h => absurd h h0) ht)
              have hn1 := T3.out ht
              subst hn1
              rw [ht] at F2
              clear hna ht T3
              go_wp2_with fail
              refine (later_any _ _).mono ?_
              rw [F2.out]
              rintro e w' ⟨rfl, rfl⟩
              go_wp2
              go_roundg g
              case measure => omega
              case rel => exact ⟨pos + 1, by omega, hit2, HC2.out, HN.out⟩
      · have hnx := fun ty => next_end wr w.heap.size l pos ty hit hp
        have hr := Lib.hid (hna.stop (.inl (by omega)))
        have he : pos = l.length := by omega
        clear hna hit
        go_wp2
        go_ret
        exact ⟨ret_i64 (by rw [hr.out, he]), HC.out⟩

theorem name_any (s : ByteArray) (w : World) (hl : s.size ≤ 9223372036854775807) :
    Calls Tryd.prog 65 #[.string s] w fun e w' => e = .returned (.int .i64 (Lx.nameLen s.data.toList)) ∧ Chg [] w w' := by
  have := name_list s.data.toList w (by rw [← Lx.strB_size, Lx.strB_self]; exact hl)
  rwa [Lx.strB_self] at this

theorem nameLen_le (l : List UInt8) : Lx.nameLen l ≤ l.length ∧ Lx.nameLen l ≤ 32 := by
  rw [nameLen_eq]
  split
  · have := (List.takeWhile_sublist Lx.laterB (l := l)).length_le
    omega
  · omega

set_option maxHeartbeats 400000 in
theorem Name_any (l : List UInt8) (w : World) (hl : l.length ≤ 9223372036854775807) :
    Calls Tryd.prog 90 #[.string (Lx.strB l)] w fun e w' => e = .returned (.bool (Lx.isName l)) ∧ Chg [] w w' := by
  have hsz := Lx.strB_size l
  by_cases h0 : l = []
  · have hE : (Lx.strB l).toList.isEmpty = true := by rw [Lx.strB_toList, h0]; rfl
    have hr := Lib.hid (show Lx.isName l = false from by unfold Lx.isName; simp [h0])
    clear h0
    go_enter Tryd.func90, Tryd.ntmps90
    go_wp2
    go_ret
    exact ⟨ret_bool hr.out.symm, Chg.refl _ _⟩
  · have hE : (Lx.strB l).toList.isEmpty = false := by rw [Lx.strB_toList]; simpa using h0
    have hr := Lib.hid (show Lx.isName l = decide ((Lx.nameLen l : Int) = (l.length : Int)) from by
      unfold Lx.isName
      simp only [ne_eq, h0, not_false_eq_true, decide_true, Bool.true_and]
      rw [decide_eq_decide]; omega)
    clear h0
    go_enter Tryd.func90, Tryd.ntmps90
    go_wp2_with fail
    refine (name_list l w hl).mono ?_
    rintro e w' ⟨rfl, hc⟩
    have HC := Lib.hid hc
    clear hc
    go_wp2
    go_ret
    exact ⟨ret_bool (by rw [hr.out]; rfl), HC.out⟩

end Go.Proofs.YtfgbbmnmblchiaaDoor
