/-
  The document's Valid, walked.
-/
import Derived.Test.YtocjdbenelikpaaRefV
import Derived.Deep.Light
namespace Go.Proofs.Ytocjdbenelikpaa
open Go.RowKit
set_option linter.unusedVariables false
set_option linter.unusedSimpArgs false

/-- four bytes cut out of the string. -/
theorem four (bs : List UInt8) (j : Nat) (h : j + 4 ≤ bs.length) : ∃ B : ByteArray, (strB bs).extract j (j + 4) = B ∧ ∃ hs : B.size = 4,
    (B[0]'(by omega)).toNat = (bs.getD j 0).toNat ∧ (B[1]'(by omega)).toNat = (bs.getD (j + 1) 0).toNat ∧ (B[2]'(by omega)).toNat = (bs.getD (j + 2) 0).toNat ∧ (B[3]'(by omega)).toNat = (bs.getD (j + 3) 0).toNat := by
  refine ⟨strB ((bs.drop j).take 4), by rw [strB_extract, show j + 4 - j = 4 from by omega], by rw [strB_size]; simp; omega, ?_, ?_, ?_, ?_⟩
  all_goals
    rw [strB_get]
    simp [List.getD, List.getElem?_take, List.getElem?_drop]

theorem instrOk_form (n c x y k : Nat) (hc : c < 22) : instrOk n c x y k = true ↔ (x ≤ 7 ∧ y ≤ 7 ∧ ((fld c).1 = true ∨ x = 0) ∧ ((fld c).2.1 = true ∨ y = 0) ∧ ((fld c).2.2.1 = true ∨ k = 0) ∧ ((fld c).2.2.2 = true → k < n)) := by
  unfold instrOk
  generalize (fld c).1 = f0
  generalize (fld c).2.1 = f1
  generalize (fld c).2.2.1 = f2
  generalize (fld c).2.2.2 = f3
  cases f0 <;> cases f1 <;> cases f2 <;> cases f3 <;> simp [hc] <;> omega

set_option maxHeartbeats 20000000 in
set_option maxRecDepth 100000 in
theorem valid_ref (w : World) (bs : List UInt8) (hb : bs.length ≤ 9223372036854775807) :
    Calls Try.prog 19 #[.string (strB bs)] w fun e w' => e = .returned (.bool (validB bs)) ∧ Chg [] w w' := by
  cases hs : sizesOk bs with
  | false =>
    have hv : validB bs = false := by unfold validB; rw [hs]; rfl
    rw [hv]
    have HS := Lib.hid hs
    clear hv hs
    go_enter Try.func19, Try.ntmps19
    go_wp2_with fail
    refine (counts_ref w bs hb).mono ?_
    unfold SizesPost
    rw [HS.out]
    rintro e w1 ⟨rfl, h1⟩
    have H1 := Lib.hid h1
    clear h1
    go_wp2
    all_goals
      go_ret
      exact ⟨rfl, H1.out⟩
  | true =>
    have hz : lz bs = true := by unfold sizesOk at hs; simp at hs; exact hs.1
    have hnd : 1 ≤ headN bs 2 ∧ headN bs 2 ≤ 256 ∧ headN bs 4 ≤ 512 ∧ bs.length = 6 + 4 * headN bs 2 + headN bs 4 := by unfold sizesOk at hs; simp at hs; exact hs.2
    have hv : validB bs = okFrom bs (headN bs 2) 0 := by unfold validB; rw [hs]; rfl
    have HS := Lib.hid hs
    have HZ := Lib.hid hz
    have HV := Lib.hid hv
    have hsz := strB_size bs
    clear hv hs hz
    go_enter Try.func19, Try.ntmps19
    go_wp2_with fail
    refine (counts_ref w bs hb).mono ?_
    unfold SizesPost
    rw [HS.out, HZ.out]
    simp only [if_true]
    generalize headN bs 2 = n at *
    generalize headN bs 4 = D at *
    rintro e w1 ⟨rfl, h1⟩
    have H1 := Lib.hid h1
    clear h1
    go_wp2_with fail
    go_loopg [6] n (fun g vi wr => ∃ i : Nat, i + g = n ∧ vi = .int .i64 i ∧ Chg [] w wr ∧ Hid (validB bs = okFrom bs n i))
    case atStart => exact ⟨0, by omega, rfl, H1.out, HV.out⟩
    case round =>
      obtain ⟨i, hi, rfl, hc, hv⟩ := hrel
      clear HV
      have HC := Lib.hid hc
      have HV := Lib.hid hv
      clear hc hv
      cases gk with
      | zero =>
        obtain rfl : i = n := by omega
        have hv2 : validB bs = true := by rw [HV.out.out, okFrom_end _ _ _ (Nat.le_refl _)]
        have HV2 := Lib.hid hv2
        clear hv2
        go_wp2
        go_ret
        exact ⟨by rw [HV2.out]; rfl, HC.out⟩
      | succ g =>
        have hin : i < n := by omega
        obtain ⟨B, hB, hBs, hc0, hc1, hc2, hc3⟩ := four bs (6 + 4 * i) (by omega)
        rw [show 6 + 4 * i + 4 = 10 + 4 * i from by omega] at hB
        have l0 := UInt8.toNat_lt (bs.getD (6 + 4 * i) 0)
        have l1 := UInt8.toNat_lt (bs.getD (6 + 4 * i + 1) 0)
        have l2 := UInt8.toNat_lt (bs.getD (6 + 4 * i + 2) 0)
        have l3 := UInt8.toNat_lt (bs.getD (6 + 4 * i + 3) 0)
        have hst := okFrom_step bs n i hin
        unfold okAt byteAt at hst
        generalize (bs.getD (6 + 4 * i) 0).toNat = c at *
        generalize (bs.getD (6 + 4 * i + 1) 0).toNat = x at *
        generalize (bs.getD (6 + 4 * i + 2) 0).toNat = y at *
        generalize (bs.getD (6 + 4 * i + 3) 0).toNat = k at *
        have HST := Lib.hid hst
        have q1 : (6 : Int) + 4 * (i : Int) ≤ 10 + 4 * (i : Int) := by omega
        have q2 : (10 : Int) + 4 * (i : Int) ≤ ((strB bs).size : Int) := by omega
        have q3 : (10 : Int) + 4 * (i : Int) ≤ (bs.length : Int) := by omega
        have q4 : ((6 : Int) + 4 * (i : Int)).toNat = 6 + 4 * i := by omega
        have q5 : ((10 : Int) + 4 * (i : Int)).toNat = 10 + 4 * i := by omega
        clear hst
        go_wp2_with fail
        refine (form_ref wr c l0).mono ?_
        rintro e w3 ⟨rfl, h3⟩
        have HC3 := Lib.hid (HC.out.then0 h3)
        clear h3 HC
        by_cases hc22 : c < 22
        · have hf : formF c = fld c := by unfold formF; rw [if_pos hc22]
          have hd : decide (c < 22) = true := by simpa using hc22
          have hok := instrOk_form n c x y k hc22
          rw [hf, hd]
          have HOK := Lib.hid hok
          clear hok hf hd
          generalize (fld c).1 = f0 at *
          generalize (fld c).2.1 = f1 at *
          generalize (fld c).2.2.1 = f2 at *
          generalize (fld c).2.2.2 = f3 at *
          go_wp2
          all_goals try
            (go_ret
             have hbad : instrOk n c x y k = false := by
               go_light
               rw [Bool.eq_false_iff]
               intro hh
               have hp := HOK.out.1 hh
               clear HOK HST HV HC3 HS HZ H1 hh hc0 hc1 hc2 hc3 hBs hB q1 q2 q3 q4 q5 hsz hb hnd l0 l1 l2 l3 hi hin
               grind
             have hv2 : validB bs = false := by rw [HV.out.out, HST.out, hbad, Bool.false_and]
             exact ⟨by rw [hv2]; rfl, HC3.out.alloc _⟩)
          all_goals
            go_roundg g
            case measure => omega
            case rel =>
              go_light
              have hgood : instrOk n c x y k = true := by
                refine HOK.out.2 ?_
                clear HOK HST HV HC3 HS HZ H1 hc0 hc1 hc2 hc3 hBs hB q1 q2 q3 q4 q5 hsz hb hnd l0 l1 l2 l3 hi
                grind
              exact ⟨i + 1, by omega, by go_num, HC3.out.alloc _, Lib.hid (by rw [HV.out.out, HST.out, hgood, Bool.true_and])⟩
        · have hd : decide (c < 22) = false := by simpa using hc22
          rw [hd]
          have hbad : validB bs = false := by
            rw [HV.out.out, HST.out]; unfold instrOk; simp [hc22]
          have HBAD := Lib.hid hbad
          clear hbad hd
          go_wp2
          go_ret
          exact ⟨by rw [HBAD.out]; rfl, HC3.out.alloc _⟩

end Go.Proofs.Ytocjdbenelikpaa
