/-
  PipeHolds, walked: the loop and what stands behind it.
-/
import Derived.Test.YtihkanbkcnonoaaHolds
namespace Go.Proofs.Ytihkanbkcnonoaa
open Go.RowKit Go.Maps
set_option linter.unusedVariables false

set_option maxHeartbeats 4000000 in
set_option maxRecDepth 100000 in
theorem holds_any (a : Option Addr) (len cap : Nat) (zs : List Int) (w : World) (h : Nums w a len cap zs) :
    Calls Try.prog 5 #[.slice a len cap] w fun e w' => e = .returned (.bool true) ∧ Chg [] w w' := by
  have hcm : len ≤ 9223372036854775807 := by have h1 := h.2.1; have h2 := h.2.2.1; unfold maxLen at h2; omega
  have HN := Lib.hid h
  clear h
  go_enter Try.func5, Try.ntmps5
  go_wp2_with fail
  refine (new_at w).mono ?_
  rintro e w1 ⟨t, rfl, h1⟩
  have H1 := Lib.hid h1
  clear h1
  go_wp2_with fail
  refine (make_at H1.out (new_ok 9) (by omega) none 0 0 none 0 0 L0 (lab0 _) (r1 := 1) (r2 := 0) (s' := st 1 1) rfl).mono ?_
  rintro e w2 ⟨rfl, h2, s2⟩
  have hsz := h2.chg.size
  have H2 := Lib.hid h2
  clear h2 H1 s2
  go_wp2_with fail
  go_loopw [7, 8, 9] (fun c _ _ wr => ∃ k r h : Nat, k ≤ len ∧ k ≤ 40 ∧ c = .int .i64 k ∧ r ≤ k + 1 ∧ h ≤ k + 1 ∧ At w wr t (st r h) [w2.heap.size] ∧ wr.heap[w2.heap.size]? = some (.cells #[.int .i64 r, .int .i64 h] 40 (0, 0)))
    (fun c _ _ _ => 40 - (intOf c).toNat)
  case atStart =>
    refine ⟨0, 1, 1, Nat.zero_le _, Nat.zero_le _, rfl, Nat.le_refl _, Nat.le_refl _, ?_, ?_⟩
    · exact H2.out.fresh _
    · exact obj_alloc_new w2 _
  case round =>
    obtain ⟨k, r, h, hk, hk40, rfl, hr, hh, hat, hob⟩ := hrel
    have HA := Lib.hid hat
    have HO := Lib.hid hob
    have hn := Lib.hid (HN.out.kept0 hat.chg)
    have c0 := cell_of_obj hob (j := 0) rfl
    have c1 := cell_of_obj hob (j := 1) rfl
    have f0 := free_of_obj hob 0
    have f1 := free_of_obj hob 1
    have i0 := Lib.hid hr
    have HW := Lib.hid (show w2.heap.size ≤ wr.heap.size from by have := lt_of_obj hob; omega)
    clear hat hob H2
    by_cases hlt : k < len ∧ k < 40 ∧ 0 < r + h
    · obtain ⟨hlt, hlt40, hrh⟩ := hlt
      have hrh' : (0 : Int) < (r : Int) + (h : Int) := by omega
      obtain ⟨b, off, z, rfl, hcell⟩ : ∃ b off z, a = some ⟨b, off, none⟩ ∧ wr.cell? ⟨b, off + k, none⟩ = some (.int .i64 z) := by
        rcases hn.out.cases with ⟨_, h0⟩ | ⟨b, off, rfl, h1, _, _, h2⟩
        · omega
        · exact ⟨b, off, _, rfl, h2 k hlt⟩
      clear hn
      have hb1 : bits BinOp.and IntKind.i64 z 1 = 0 ∨ bits BinOp.and IntKind.i64 z 1 = 1 := by rw [i64_and1]; omega
      have hb2 := i64_and2_ z
      have HB1 := Lib.hid hb1
      have HB2 := Lib.hid hb2
      clear hb1 hb2
      rcases HB1.out with hb1 | hb1 <;> rcases HB2.out with hb2 | hb2
      · rcases Nat.eq_zero_or_pos r with hz | hz
        · subst hz
          go_wp2_with fail
          refine (drop_at (N := 42) HA.out (st_ok 0 h 42 (by omega) (by omega) (by omega)) (by omega) 1 wf1 false (r := 61) (s' := st 0 h) (drop_false0 h (by omega))).mono ?_
          rintro e w3 ⟨rfl, h3, s3⟩
          have H3 := Lib.hid h3
          have o3 := s3.obj HO.out (by simp)
          have O3 := Lib.hid o3
          have hs3 := Nat.le_trans hsz (Nat.le_trans HW.out s3.size)
          have d0 := cell_of_obj o3 (j := 0) rfl
          have d1 := cell_of_obj o3 (j := 1) rfl
          have g0 := free_of_obj o3 0
          have g1 := free_of_obj o3 1
          clear h3 s3 o3 c0 c1 f0 f1
          go_wp2
          go_roundw
          case rel => exact ⟨k + 1, 0, h, by omega, by omega, by go_num, by omega, by omega, H3.out, O3.out⟩
          case measure => simp [intOf]; omega
        · have hz' : (0 : Int) < (r : Int) := by omega
          have hz2 : ((r - 1 : Nat) : Int) = (r : Int) - 1 := by omega
          have HZ2 := Lib.hid hz2
          clear hz2
          go_wp2_with fail
          refine (drop_at (N := 42) HA.out (st_ok r h 42 (by omega) (by omega) (by omega)) (by omega) 1 wf1 false (r := 0) (s' := st (r - 1) h) (drop_false r h hz)).mono ?_
          rintro e w3 ⟨rfl, h3, s3⟩
          have H3 := Lib.hid h3
          have o3 := s3.obj HO.out (by simp)
          have O3 := Lib.hid o3
          have hs3 := Nat.le_trans hsz (Nat.le_trans HW.out s3.size)
          have d0 := cell_of_obj o3 (j := 0) rfl
          have d1 := cell_of_obj o3 (j := 1) rfl
          have g0 := free_of_obj o3 0
          have g1 := free_of_obj o3 1
          clear h3 s3 o3 c0 c1 f0 f1
          go_wp2
          go_roundw
          case rel => exact ⟨k + 1, (r - 1), h, by omega, by omega, by go_num, by omega, by omega, H3.out.store _ _ (by simp) hsz, by have := obj_setCell O3.out 0 (.int .i64 ((r : Int) - 1)); rw [← HZ2.out] at this ⊢; first | exact this | (simp at this ⊢; exact this) | simpa using this⟩
          case measure => simp [intOf]; omega
      · go_wp2_with fail
        refine (hold_at (N := 42) HA.out (st_ok r h 42 (by omega) (by omega) (by omega)) (by omega) 1 wf1 false (r := 0) (s' := st (r + 1) h) (hold_st r h hrh false)).mono ?_
        rintro e w3 ⟨rfl, h3, s3⟩
        have H3 := Lib.hid h3
        have o3 := s3.obj HO.out (by simp)
        have O3 := Lib.hid o3
        have hs3 := Nat.le_trans hsz (Nat.le_trans HW.out s3.size)
        have d0 := cell_of_obj o3 (j := 0) rfl
        have d1 := cell_of_obj o3 (j := 1) rfl
        have g0 := free_of_obj o3 0
        have g1 := free_of_obj o3 1
        clear h3 s3 o3 c0 c1 f0 f1
        go_wp2
        go_roundw
        case rel => exact ⟨k + 1, (r + 1), h, by omega, by omega, by go_num, by omega, by omega, H3.out.store _ _ (by simp) hsz, by have := obj_setCell O3.out 0 (.int .i64 ((r : Int) + 1)); first | exact this | (simp at this ⊢; exact this) | simpa using this⟩
        case measure => simp [intOf]; omega
      · rcases Nat.eq_zero_or_pos h with hz | hz
        · subst hz
          go_wp2_with fail
          refine (drop_at (N := 42) HA.out (st_ok r 0 42 (by omega) (by omega) (by omega)) (by omega) 1 wf1 true (r := 61) (s' := st r 0) (drop_true0 r (by omega))).mono ?_
          rintro e w3 ⟨rfl, h3, s3⟩
          have H3 := Lib.hid h3
          have o3 := s3.obj HO.out (by simp)
          have O3 := Lib.hid o3
          have hs3 := Nat.le_trans hsz (Nat.le_trans HW.out s3.size)
          have d0 := cell_of_obj o3 (j := 0) rfl
          have d1 := cell_of_obj o3 (j := 1) rfl
          have g0 := free_of_obj o3 0
          have g1 := free_of_obj o3 1
          clear h3 s3 o3 c0 c1 f0 f1
          go_wp2
          go_roundw
          case rel => exact ⟨k + 1, r, 0, by omega, by omega, by go_num, by omega, by omega, H3.out, O3.out⟩
          case measure => simp [intOf]; omega
        · have hz' : (0 : Int) < (h : Int) := by omega
          have hz2 : ((h - 1 : Nat) : Int) = (h : Int) - 1 := by omega
          have HZ2 := Lib.hid hz2
          clear hz2
          go_wp2_with fail
          refine (drop_at (N := 42) HA.out (st_ok r h 42 (by omega) (by omega) (by omega)) (by omega) 1 wf1 true (r := 0) (s' := st r (h - 1)) (drop_true r h hz)).mono ?_
          rintro e w3 ⟨rfl, h3, s3⟩
          have H3 := Lib.hid h3
          have o3 := s3.obj HO.out (by simp)
          have O3 := Lib.hid o3
          have hs3 := Nat.le_trans hsz (Nat.le_trans HW.out s3.size)
          have d0 := cell_of_obj o3 (j := 0) rfl
          have d1 := cell_of_obj o3 (j := 1) rfl
          have g0 := free_of_obj o3 0
          have g1 := free_of_obj o3 1
          clear h3 s3 o3 c0 c1 f0 f1
          go_wp2
          go_roundw
          case rel => exact ⟨k + 1, r, (h - 1), by omega, by omega, by go_num, by omega, by omega, H3.out.store _ _ (by simp) hsz, by have := obj_setCell O3.out 1 (.int .i64 ((h : Int) - 1)); rw [← HZ2.out] at this ⊢; first | exact this | (simp at this ⊢; exact this) | simpa using this⟩
          case measure => simp [intOf]; omega
      · go_wp2_with fail
        refine (hold_at (N := 42) HA.out (st_ok r h 42 (by omega) (by omega) (by omega)) (by omega) 1 wf1 true (r := 0) (s' := st r (h + 1)) (hold_st r h hrh true)).mono ?_
        rintro e w3 ⟨rfl, h3, s3⟩
        have H3 := Lib.hid h3
        have o3 := s3.obj HO.out (by simp)
        have O3 := Lib.hid o3
        have hs3 := Nat.le_trans hsz (Nat.le_trans HW.out s3.size)
        have d0 := cell_of_obj o3 (j := 0) rfl
        have d1 := cell_of_obj o3 (j := 1) rfl
        have g0 := free_of_obj o3 0
        have g1 := free_of_obj o3 1
        clear h3 s3 o3 c0 c1 f0 f1
        go_wp2
        go_roundw
        case rel => exact ⟨k + 1, r, (h + 1), by omega, by omega, by go_num, by omega, by omega, H3.out.store _ _ (by simp) hsz, by have := obj_setCell O3.out 1 (.int .i64 ((h : Int) + 1)); first | exact this | (simp at this ⊢; exact this) | simpa using this⟩
        case measure => simp [intOf]; omega
    · have hz : len ≤ k ∨ (k < len ∧ 40 ≤ k) ∨ (k < len ∧ k < 40 ∧ r + h = 0) := by omega
      have HZ := Lib.hid hz
      clear hlt hz hn
      by_cases hp : 0 < r + h
      · have hp' : (0 : Int) < (r : Int) + (h : Int) := by omega
        have hl := len_st r h
        rw [if_pos hp] at hl
        obtain ⟨s', hs'⟩ := make_st r (h + 1)
        have HS := Lib.hid hs'
        clear hs'
        rcases HZ.out with g | ⟨g, g2⟩ | ⟨g, g2, g3⟩
        rotate_right
        · omega
        all_goals
          go_wp2_with fail
          refine (count_at HA.out).mono ?_
          rintro e w' ⟨rfl, rfl⟩
          go_wp2_with fail
          refine (hold_at (N := 42) HA.out (st_ok r h 42 (by omega) (by omega) (by omega)) (by omega) 1 wf1 true (r := 0) (s' := st r (h + 1)) (hold_st r h hp true)).mono ?_
          rintro e w3 ⟨rfl, h3, s3⟩
          have H3 := Lib.hid h3
          clear h3 s3 HA HO c0 c1 f0 f1
          go_wp2_with fail
          refine (make_at (N := 43) H3.out (st_ok r (h + 1) 43 (by omega) (by omega) (by omega)) (by omega) none 0 0 none 0 0 L0 (lab0 _) HS.out).mono ?_
          rintro e w4 ⟨rfl, h4, s4⟩
          have H4 := Lib.hid h4.chg
          clear h4 s4 H3
          go_wp2_with fail
          refine (awake_any w4).mono ?_
          rintro e w5 ⟨rfl, h5⟩
          have H5 := Lib.hid (H4.out.then0 h5)
          clear h5 H4
          go_wp2
          go_ret
          exact ⟨rfl, H5.out⟩
      · obtain ⟨rfl, rfl⟩ : r = 0 ∧ h = 0 := by omega
        have hl : (st 0 0).ps.length = 0 := rfl
        obtain ⟨s', hs'⟩ := make_st 0 0
        have HS := Lib.hid hs'
        clear hs'
        rcases HZ.out with g | ⟨g, g2⟩ | ⟨g, g2, g3⟩
        all_goals
          go_wp2_with fail
          refine (count_at HA.out).mono ?_
          rintro e w' ⟨rfl, rfl⟩
          go_wp2_with fail
          refine (hold_at (N := 42) HA.out (st_ok 0 0 42 (by omega) (by omega) (by omega)) (by omega) 1 wf1 true (r := 61) (s' := st 0 0) (hold_none true)).mono ?_
          rintro e w3 ⟨rfl, h3, s3⟩
          have H3 := Lib.hid h3
          clear h3 s3 HA HO c0 c1 f0 f1
          go_wp2_with fail
          refine (make_at (N := 43) H3.out (st_ok 0 0 43 (by omega) (by omega) (by omega)) (by omega) none 0 0 none 0 0 L0 (lab0 _) HS.out).mono ?_
          rintro e w4 ⟨rfl, h4, s4⟩
          have H4 := Lib.hid h4.chg
          clear h4 s4 H3
          go_wp2_with fail
          refine (awake_any w4).mono ?_
          rintro e w5 ⟨rfl, h5⟩
          have H5 := Lib.hid (H4.out.then0 h5)
          clear h5 H4
          go_wp2
          go_ret
          exact ⟨rfl, H5.out⟩

end Go.Proofs.Ytihkanbkcnonoaa
