/-
  What stands behind a dollar: walked.
-/
import Derived.Test.YtfgbbmnmblchiaaDoorParts
namespace Go.Proofs.YtfgbbmnmblchiaaDoor
open Go.RowKit
set_option linter.unusedVariables false

theorem ret2_si {a b : ByteArray} {x y : Int} (h : a = b) (h' : x = y) : Ending.returned (.tuple #[.string a, .int .i64 x]) = .returned (.tuple #[.string b, .int .i64 y]) := by rw [h, h']

theorem pre_one (r : List UInt8) (c : UInt8) : Lib.hasPrefix (Lx.strB r).data.toList (⟨#[c]⟩ : ByteArray).data.toList = decide (r.head? = some c) := by
  rw [Lx.strB_data]
  cases r with
  | nil => rfl
  | cons d t =>
    simp only [Lib.hasPrefix, List.isPrefixOf, List.head?_cons, Option.some.injEq, Bool.and_true]
    by_cases h : c = d
    · subst h; simp
    · have h2 : ¬ d = c := fun e => h e.symm
      simp [h, h2]

theorem head_drop (t : List UInt8) (k : Nat) : (t.drop k).head? = t[k]? := by simp [List.head?_drop]

set_option maxHeartbeats 2000000 in
theorem dollar_any (c : UInt8) (r : List UInt8) (w : World) (hl : r.length ≤ 1000000) :
    Calls Tryd.prog 58 #[.string (Lx.strB (c :: r))] w fun e w' => e = .returned (.tuple #[.string (Lx.strB (Lx.dollarP r).1), .int .i64 (Lx.dollarP r).2]) ∧ Chg [] w w' := by
  have hs0 := Lx.strB_size (c :: r)
  rw [List.length_cons] at hs0
  have hs1 := Lx.strB_size r
  have hx0 : (Lx.strB (c :: r)).extract 1 (r.length + 1) = Lx.strB r := by
    have := Lx.strB_tail (c :: r) 1
    rw [hs0] at this
    exact this
  have hp := Lib.hid (pre_one r)
  by_cases h1 : r.head? = some 63
  · have hr := Lib.hid (show Lx.dollarP r = ([63], 2) from by unfold Lx.dollarP; rw [if_pos h1])
    have H1 := Lib.hid h1
    clear h1
    go_enter Tryd.func58, Tryd.ntmps58
    go_wp2_with fail
    refine (Tryd.strings_HasPrefix _ _ _).mono ?_
    rw [hp.out, H1.out]
    rintro e w' ⟨rfl, rfl⟩
    go_wp2
    go_ret2
    rw [hr.out]
    exact ⟨rfl, Chg.refl _ _⟩
  · by_cases h2 : r.head? = some 123
    · obtain ⟨t, rfl⟩ : ∃ t, r = 123 :: t := by
        cases r with
        | nil => simp at h2
        | cons d t => simp at h2; exact ⟨t, by rw [h2]⟩
      obtain ⟨k, hk⟩ : ∃ k, Lx.nameLen t = k := ⟨_, rfl⟩
      have hkl := (nameLen_le t).1
      rw [hk] at hkl
      rw [List.length_cons] at hl hs1 hx0 hs0
      have hx1 : (Lx.strB (123 :: t)).extract 1 (t.length + 1) = Lx.strB t := by
        have := Lx.strB_tail (123 :: t) 1
        rw [hs1] at this
        exact this
      have hx2 : (Lx.strB (123 :: t)).extract (1 + k) (t.length + 1) = Lx.strB (t.drop k) := by
        have := Lx.strB_tail (123 :: t) (1 + k)
        rw [hs1] at this
        rw [this, show 1 + k = k + 1 from by omega]
        rfl
      have hx3 : (Lx.strB (123 :: t)).extract 1 (1 + k) = Lx.strB (t.take k) := by
        rw [Lx.strB_extract, show 1 + k - 1 = k from by omega]
        rfl
      have hr := Lib.hid (show Lx.dollarP (123 :: t) = if k = 0 ∨ t[k]? ≠ some 125 then ([], -1) else (t.take k, (k : Int) + 3) from by
        unfold Lx.dollarP
        rw [if_neg h1, if_pos h2]
        simp only [List.drop_succ_cons, List.drop_zero, hk])
      have H1 := Lib.hid h1
      have H2 := Lib.hid h2
      have HP1 := Lib.hid (show decide ((123 :: t).head? = some 63) = false from decide_eq_false h1)
      have HK := Lib.hid hk
      have hki : (k : Int) ≤ (t.length : Int) := by omega
      have hk0 : (0 : Int) ≤ (k : Int) := by omega
      clear h1 h2 hk
      have hw1 : IntKind.i64.wrap (1 + (k : Int)) = 1 + (k : Int) := by rw [IntKind.wrap_i64]; omega
      by_cases hz : k = 0
      · have hz1 : ((k : Int) == 0) = true := by rw [beq_iff_eq]; omega
        have hr2 := Lib.hid (hr.out.trans (if_pos (.inl hz)))
        clear hz
        go_enter Tryd.func58, Tryd.ntmps58
        go_wp2_with fail
        refine (Tryd.strings_HasPrefix _ _ _).mono ?_
        rw [hp.out, HP1.out]
        rintro e w' ⟨rfl, rfl⟩
        go_wp2_with fail
        refine (Tryd.strings_HasPrefix _ _ _).mono ?_
        rw [hp.out, H2.out]
        rintro e w' ⟨rfl, rfl⟩
        go_wp2_with fail
        refine (name_list t _ (by omega)).mono ?_
        rw [HK.out]
        rintro e w1 ⟨rfl, hc1⟩
        have HC1 := Lib.hid hc1
        clear hc1
        go_wp2
        go_ret2
        rw [hr2.out]
        exact ⟨rfl, HC1.out⟩
      · have hz1 : ((k : Int) == 0) = false := by rw [beq_eq_false_iff_ne]; omega
        have hz2 := Lib.hid hz
        clear hz
        by_cases h125 : t[k]? = some 125
        · have hr2 := Lib.hid (hr.out.trans (if_neg (by rintro (h | h); exact hz2.out h; exact h h125)))
          have HP3 := Lib.hid (show decide ((t.drop k).head? = some 125) = true from decide_eq_true (by rw [head_drop]; exact h125))
          clear h125
          go_enter Tryd.func58, Tryd.ntmps58
          go_wp2_with fail
          refine (Tryd.strings_HasPrefix _ _ _).mono ?_
          rw [hp.out, HP1.out]
          rintro e w' ⟨rfl, rfl⟩
          go_wp2_with fail
          refine (Tryd.strings_HasPrefix _ _ _).mono ?_
          rw [hp.out, H2.out]
          rintro e w' ⟨rfl, rfl⟩
          go_wp2_with fail
          refine (name_list t _ (by omega)).mono ?_
          rw [HK.out]
          rintro e w1 ⟨rfl, hc1⟩
          have HC1 := Lib.hid hc1
          clear hc1
          go_wp2_with fail
          refine (Tryd.strings_HasPrefix _ _ _).mono ?_
          rw [pre_one, HP3.out]
          rintro e w' ⟨rfl, rfl⟩
          go_wp2
          go_ret2
          rw [hr2.out]
          exact ⟨ret2_si hx3 rfl, HC1.out⟩
        · have hr2 := Lib.hid (hr.out.trans (if_pos (.inr h125)))
          have HP3 := Lib.hid (show decide ((t.drop k).head? = some 125) = false from decide_eq_false (by rw [head_drop]; exact h125))
          clear h125
          go_enter Tryd.func58, Tryd.ntmps58
          go_wp2_with fail
          refine (Tryd.strings_HasPrefix _ _ _).mono ?_
          rw [hp.out, HP1.out]
          rintro e w' ⟨rfl, rfl⟩
          go_wp2_with fail
          refine (Tryd.strings_HasPrefix _ _ _).mono ?_
          rw [hp.out, H2.out]
          rintro e w' ⟨rfl, rfl⟩
          go_wp2_with fail
          refine (name_list t _ (by omega)).mono ?_
          rw [HK.out]
          rintro e w1 ⟨rfl, hc1⟩
          have HC1 := Lib.hid hc1
          clear hc1
          go_wp2_with fail
          refine (Tryd.strings_HasPrefix _ _ _).mono ?_
          rw [pre_one, HP3.out]
          rintro e w' ⟨rfl, rfl⟩
          go_wp2
          go_ret2
          rw [hr2.out]
          exact ⟨rfl, HC1.out⟩
    · obtain ⟨k, hk⟩ : ∃ k, Lx.nameLen r = k := ⟨_, rfl⟩
      have hkl := (nameLen_le r).1
      rw [hk] at hkl
      have hx3 : (Lx.strB r).extract 0 k = Lx.strB (r.take k) := by rw [Lx.strB_extract, Nat.sub_zero]; rfl
      have hr := Lib.hid (show Lx.dollarP r = (r.take k, (k : Int) + 1) from by
        unfold Lx.dollarP
        rw [if_neg h1, if_neg h2, hk])
      have HP1 := Lib.hid (show decide (r.head? = some 63) = false from decide_eq_false h1)
      have HP2 := Lib.hid (show decide (r.head? = some 123) = false from decide_eq_false h2)
      have HK := Lib.hid hk
      have hki : (k : Int) ≤ (r.length : Int) := by omega
      have hk0 : (0 : Int) ≤ (k : Int) := by omega
      clear h1 h2 hk
      go_enter Tryd.func58, Tryd.ntmps58
      go_wp2_with fail
      refine (Tryd.strings_HasPrefix _ _ _).mono ?_
      rw [hp.out, HP1.out]
      rintro e w' ⟨rfl, rfl⟩
      go_wp2_with fail
      refine (Tryd.strings_HasPrefix _ _ _).mono ?_
      rw [hp.out, HP2.out]
      rintro e w' ⟨rfl, rfl⟩
      go_wp2_with fail
      refine (name_list r _ (by omega)).mono ?_
      rw [HK.out]
      rintro e w1 ⟨rfl, hc1⟩
      have HC1 := Lib.hid hc1
      clear hc1
      go_wp2
      go_ret2
      rw [hr.out]
      exact ⟨rfl, HC1.out⟩

end Go.Proofs.YtfgbbmnmblchiaaDoor
