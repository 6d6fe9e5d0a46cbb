/-
  The document's letter, name and Name: walked; they answer as the program's.
-/
import Derived.Test.YtocngneomllmoaaDoorAwake
namespace Go.Proofs.YtocngneomllmoaaDoor
open Go.RowKit
set_option linter.unusedVariables false

theorem letter_int (c : Int) (w : World) : Calls Tryd.prog 41 #[.int .u8 c] w fun e w' => e = .returned (.bool (firstI c)) ∧ w = w' := by
  by_cases h1 : 97 ≤ c
  all_goals by_cases h2 : c ≤ 122
  all_goals by_cases h3 : 65 ≤ c
  all_goals by_cases h4 : c ≤ 90
  all_goals
    go_enter Tryd.func41, Tryd.ntmps41
    go_wp2
    all_goals
      go_ret
      exact ⟨ret_bool (by simp only [firstI, h1, h2, h3, h4]; simp <;> omega), rfl⟩

/-- how many bytes at a text's beginning are a name's, however many. -/
def nameR (r : List UInt8) : Nat := if Lx.firstB (r.getD 0 0) = true ∧ r ≠ [] then (r.takeWhile Lx.laterB).length else 0

theorem nameR_le (r : List UInt8) : nameR r ≤ r.length := by
  unfold nameR
  split
  · exact (List.takeWhile_sublist Lx.laterB (l := r)).length_le
  · omega

theorem nameLen_R (r : List UInt8) : Lx.nameLen r = min 32 (nameR r) := by
  rw [nameLen_eq, nameR]
  split
  · rfl
  · simp

theorem getD_drop' (l : List UInt8) (i j : Nat) : (l.drop i).getD j 0 = l.getD (i + j) 0 := by
  rw [List.getD_eq_getElem?_getD, List.getElem?_drop, ← List.getD_eq_getElem?_getD]

set_option maxHeartbeats 2000000 in
theorem nameR_any (l : List UInt8) (i : Nat) (w : World) (hl : l.length ≤ 1000000) (hi : i ≤ l.length) :
    Calls Tryd.prog 25 #[.string (Lx.strB l), .int .i64 i] w fun e w' => e = .returned (.int .i64 ((i + nameR (l.drop i) : Nat) : Int)) ∧ w = w' := by
  have hsz := Lx.strB_size l
  obtain ⟨R, hR⟩ : ∃ R : Nat, i + nameR (l.drop i) = R := ⟨_, rfl⟩
  rw [hR]
  have HR := Lib.hid hR
  clear hR
  have i0 : (0 : Int) ≤ (i : Int) := by omega
  have i1 : (i : Int) ≤ 1000000 := by omega
  by_cases hlt : i < l.length
  · have hd : decide (l.length ≤ i) = false := decide_eq_false (by omega)
    have hlt1 : (i : Int) < (l.length : Int) := by omega
    obtain ⟨x, hx0⟩ : ∃ x, (l.getD i 0).toNat = x := ⟨_, rfl⟩
    have hx : ∀ h, ((Lx.strB l)[i]'h).toNat = x := fun h => by rw [Lx.strB_get]; exact hx0
    have hfb := Lib.hid (show firstI (x : Int) = Lx.firstB (l.getD i 0) from by rw [← hx0, firstI_byte])
    have hne : l.drop i ≠ [] := by intro e; have := congrArg List.length e; simp at this; omega
    have hg := getD_drop' l i 0
    rw [Nat.add_zero] at hg
    cases hf : firstI (x : Int) with
    | false =>
      have hr := Lib.hid (show R = i from by
        rw [← HR.out, nameR, hg, ← hfb.out, hf, if_neg (by rintro ⟨h, _⟩; cases h)]; omega)
      have HF := Lib.hid hf
      clear HR hfb hne hg hx0 hf
      go_enter Tryd.func25, Tryd.ntmps25
      go_wp2_with fail
      refine (letter_int _ _).mono ?_
      rw [HF.out]
      rintro e w' ⟨rfl, rfl⟩
      go_wp2
      go_ret
      exact ⟨ret_i64 (by rw [hr.out]), rfl⟩
    | true =>
      have hr := Lib.hid (show R = i + ((l.drop i).takeWhile Lx.laterB).length from by
        rw [← HR.out, nameR, hg, ← hfb.out, hf, if_pos ⟨rfl, hne⟩])
      have HF := Lib.hid hf
      clear HR hfb hne hg hx0 hf
      go_enter Tryd.func25, Tryd.ntmps25
      go_wp2_with fail
      refine (letter_int _ _).mono ?_
      rw [HF.out]
      rintro e w' ⟨rfl, rfl⟩
      clear hx hd hlt hlt1 i0 i1
      go_wp2_with fail
      go_loopg [1] (l.length + 1) (fun g c1 wr => ∃ k : Nat, l.length < k + g ∧ i ≤ k ∧ k ≤ l.length ∧ c1 = .int .i64 k ∧ wr = w ∧ Hid (∀ j, i + j < k → Lx.laterB ((l.drop i).getD j 0) = true))
      case atStart => exact ⟨i, by omega, by omega, by omega, rfl, rfl, Lib.hid (fun j hj => by omega)⟩
      case round =>
        obtain ⟨k, hg, hik, hkl, rfl, rfl, ha⟩ := hrel
        have k0 : (0 : Int) ≤ (k : Int) := by omega
        have k1 : (k : Int) ≤ 1000000 := by omega
        have stop := Lib.hid (show (k = l.length ∨ Lx.laterB (l.getD k 0) = false) → R = k from fun h => by
          rw [hr.out, takeWhile_all (k := k - i) (fun j hj => ha.out j (by omega)) (by rw [List.length_drop]; omega) (by
            rw [getD_drop', show i + (k - i) = k from by omega, List.length_drop]
            exact h.imp (fun h => by omega) id)]
          omega)
        by_cases hk : k < l.length
        · cases gk with
          | zero => omega
          | succ g =>
            have hkd : decide (k < l.length) = true := decide_eq_true hk
            have hk1 : (k : Int) < (l.length : Int) := by omega
            obtain ⟨y, hy0⟩ : ∃ y, (l.getD k 0).toNat = y := ⟨_, rfl⟩
            have hy : ∀ h, ((Lx.strB l)[k]'h).toNat = y := fun h => by rw [Lx.strB_get]; exact hy0
            have hlb := Lib.hid (show laterI (y : Int) = Lx.laterB (l.getD k 0) from by rw [← hy0, laterI_byte])
            have next := Lib.hid (show Lx.laterB (l.getD k 0) = true → ∀ j, i + j < k + 1 → Lx.laterB ((l.drop i).getD j 0) = true from fun h j hj => by
              by_cases hj' : i + j = k
              · rw [getD_drop', hj']; exact h
              · exact ha.out j (by omega))
            have hld : laterI (y : Int) = (firstI (y : Int) || (decide (48 ≤ (y : Int)) && decide ((y : Int) ≤ 57))) := rfl
            have HLD := Lib.hid hld
            have HG := Lib.hid hg
            clear hld ha hy0 hg
            cases hf : firstI (y : Int) with
            | true =>
              have HF := Lib.hid hf
              have HT := Lib.hid (show Lx.laterB (l.getD k 0) = true from by rw [← hlb.out, HLD.out, hf]; rfl)
              clear hf hlb HLD
              go_wp2_with fail
              refine (letter_int _ _).mono ?_
              rw [HF.out]
              rintro e w' ⟨rfl, rfl⟩
              go_wp2
              go_roundg g
              case measure => omega
              case rel => exact ⟨k + 1, by have := HG.out; omega, by omega, by omega, by go_num, rfl, Lib.hid (next.out HT.out)⟩
            | false =>
              have HF := Lib.hid hf
              by_cases h48 : 48 ≤ (y : Int)
              · have d48 : decide (48 ≤ (y : Int)) = true := decide_eq_true h48
                by_cases h57 : (y : Int) ≤ 57
                · have d57 : decide ((y : Int) ≤ 57) = true := decide_eq_true h57
                  have HT := Lib.hid (show Lx.laterB (l.getD k 0) = true from by rw [← hlb.out, HLD.out, hf, d48, d57]; rfl)
                  clear hf hlb HLD
                  go_wp2_with fail
                  refine (letter_int _ _).mono ?_
                  rw [HF.out]
                  rintro e w' ⟨rfl, rfl⟩
                  go_wp2
                  go_roundg g
                  case measure => omega
                  case rel => exact ⟨k + 1, by have := HG.out; omega, by omega, by omega, by go_num, rfl, Lib.hid (next.out HT.out)⟩
                · have d57 : decide ((y : Int) ≤ 57) = false := decide_eq_false h57
                  have HT := Lib.hid (stop.out (.inr (by rw [← hlb.out, HLD.out, hf, d48, d57]; rfl)))
                  clear hf hlb HLD
                  go_wp2_with fail
                  refine (letter_int _ _).mono ?_
                  rw [HF.out]
                  rintro e w' ⟨rfl, rfl⟩
                  go_wp2
                  go_ret
                  exact ⟨ret_i64 (by rw [HT.out]), rfl⟩
              · have d48 : decide (48 ≤ (y : Int)) = false := decide_eq_false h48
                have HT := Lib.hid (stop.out (.inr (by rw [← hlb.out, HLD.out, hf, d48]; rfl)))
                clear hf hlb HLD
                go_wp2_with fail
                refine (letter_int _ _).mono ?_
                rw [HF.out]
                rintro e w' ⟨rfl, rfl⟩
                go_wp2
                go_ret
                exact ⟨ret_i64 (by rw [HT.out]), rfl⟩
        · have hkd : decide (k < l.length) = false := decide_eq_false hk
          have HT := Lib.hid (stop.out (.inl (by omega)))
          clear stop ha hr
          go_wp2
          go_ret
          exact ⟨ret_i64 (by rw [HT.out]), rfl⟩
  · have hd : decide (l.length ≤ i) = true := decide_eq_true (by omega)
    have hr := Lib.hid (show R = i from by
      rw [← HR.out, List.drop_of_length_le (by omega)]; simp [nameR])
    clear HR
    go_enter Tryd.func25, Tryd.ntmps25
    go_wp2
    go_ret
    exact ⟨ret_i64 (by rw [hr.out]), rfl⟩

set_option maxHeartbeats 400000 in
theorem NameR_any (l : List UInt8) (w : World) (hl : l.length ≤ 9223372036854775807) :
    Calls Tryd.prog 15 #[.string (Lx.strB l)] w fun e w' => e = .returned (.bool (Lx.isName l)) ∧ w = w' := by
  have hsz := Lx.strB_size l
  have hnl := nameLen_R l
  have hle := nameR_le l
  by_cases h0 : 1 ≤ l.length
  · have hne : l ≠ [] := by rintro rfl; simp at h0
    have d0 : decide (1 ≤ (l.length : Int)) = true := decide_eq_true (by omega)
    by_cases h1 : l.length ≤ 32
    · have d1 : decide ((l.length : Int) ≤ 32) = true := decide_eq_true (by omega)
      have hr := Lib.hid (show Lx.isName l = decide ((nameR l : Int) = (l.length : Int)) from by
        unfold Lx.isName
        simp only [ne_eq, hne, not_false_eq_true, decide_true, Bool.true_and]
        rw [decide_eq_decide]; omega)
      have HN := Lib.hid (nameR_any l 0 w (by omega) (by omega))
      clear hnl hle hne
      go_enter Tryd.func15, Tryd.ntmps15
      go_wp2_with fail
      refine HN.out.mono ?_
      rw [Nat.zero_add, List.drop_zero]
      rintro e w' ⟨rfl, rfl⟩
      go_wp2
      go_ret
      exact ⟨ret_bool (by rw [hr.out]; rfl), rfl⟩
    · have d1 : decide ((l.length : Int) ≤ 32) = false := decide_eq_false (by omega)
      have hr := Lib.hid (show Lx.isName l = false from by
        unfold Lx.isName
        rw [Bool.and_eq_false_iff]
        right
        rw [decide_eq_false_iff_not]; omega)
      clear hnl hle hne
      go_enter Tryd.func15, Tryd.ntmps15
      go_wp2
      go_ret
      exact ⟨ret_bool hr.out.symm, rfl⟩
  · have d0 : decide (1 ≤ (l.length : Int)) = false := decide_eq_false (by omega)
    have hr := Lib.hid (show Lx.isName l = false from by
      have : l = [] := List.eq_nil_of_length_eq_zero (by omega)
      subst this; rfl)
    clear hnl hle
    go_enter Tryd.func15, Tryd.ntmps15
    go_wp2
    go_ret
    exact ⟨ret_bool hr.out.symm, rfl⟩

set_option maxHeartbeats 400000 in
theorem lexNames_any (l : List UInt8) (w : World) (hl : l.length ≤ 9223372036854775807) (hT : Hid (U8 w)) :
    Calls Tryd.prog 8 #[.string (Lx.strB l)] w fun e w' => e = .returned (.bool true) ∧ Chg [] w w' := by
  have H1 := Lib.hid (fun (W : World) => Name_any l W hl)
  have H2 := Lib.hid (fun (W : World) => NameR_any l W hl)
  obtain ⟨b, hb⟩ : ∃ b, Lx.isName l = b := ⟨_, rfl⟩
  rw [hb] at H1 H2
  clear hb hl
  go_enter Tryd.func8, Tryd.ntmps8
  go_wp2_with fail
  refine (H1.out _).mono ?_
  rintro e w1 ⟨rfl, hc⟩
  have HC := Lib.hid hc
  clear hc
  go_wp2_with fail
  refine (H2.out _).mono ?_
  rintro e w2 ⟨rfl, rfl⟩
  go_wp2_with fail
  refine (awake_any _ (U8.chg hT HC.out)).mono ?_
  rintro e w3 ⟨rfl, h3⟩
  have HC3 := Lib.hid (HC.out.then0 h3)
  clear h3
  go_wp2
  go_ret
  exact ⟨rfl, HC3.out⟩

end Go.Proofs.YtocngneomllmoaaDoor
