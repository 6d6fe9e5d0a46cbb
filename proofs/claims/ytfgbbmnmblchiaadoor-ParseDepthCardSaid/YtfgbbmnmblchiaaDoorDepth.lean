/-
  ParseDepth: true.
-/
import Derived.Test.YtfgbbmnmblchiaaDoorPAwake
import Derived.Test.YtfgbbmnmblchiaaDoorDepthC
namespace Go.Proofs.YtfgbbmnmblchiaaDoor
open Go.RowKit
set_option linter.unusedVariables false

theorem rep_succ (n : Nat) (x : List UInt8) : rep (n + 1) x = rep n x ++ x := by
  unfold rep
  rw [List.replicate_succ', List.flatten_append]
  simp
theorem rep_len (n : Nat) (x : List UInt8) : (rep n x).length = n * x.length := by
  induction n with
  | zero => simp [rep]
  | succ n ih => rw [rep_succ, List.length_append, ih, Nat.add_mul, Nat.one_mul]
theorem rep_step (n : Nat) (x : List UInt8) : Lx.strB (rep n x) ++ Lx.strB x = Lx.strB (rep (n + 1) x) := by rw [Lx.strB_append, rep_succ]
theorem rep_step2 (n : Nat) (z x : List UInt8) : Lx.strB (z ++ rep n x) ++ Lx.strB x = Lx.strB (z ++ rep (n + 1) x) := by rw [Lx.strB_append, rep_succ, List.append_assoc]

/-- the text while it is made. -/
def midD (i : Nat) (x : List UInt8) (j : Nat) (y : List UInt8) : List UInt8 := rep i x ++ [97] ++ rep j y
theorem midD_step (i : Nat) (x : List UInt8) (j : Nat) (y : List UInt8) : Lx.strB (midD i x j y) ++ Lx.strB y = Lx.strB (midD i x (j + 1) y) := rep_step2 j (rep i x ++ [97]) y
theorem midD_len (i : Nat) (x : List UInt8) (j : Nat) (y : List UInt8) : (midD i x j y).length = i * x.length + 1 + j * y.length := by
  unfold midD
  rw [List.length_append, List.length_append, rep_len, rep_len]
  rfl

theorem opensD_len (k : Nat) : (opensD k).length ≤ 16 := by
  unfold opensD
  repeat' split
  all_goals decide
theorem endsD_len (k : Nat) : (endsD k).length ≤ 16 := by
  unfold endsD
  repeat' split
  all_goals decide

/-- a program's call, its text given by any road. -/
theorem program_at (l : List UInt8) (hl : l.length ≤ 100000) (w : World) (hT : Hid (U8 w)) (m : Int) (hm : w.cell? ⟨2, 0, none⟩ = some (.int .i64 m)) (x : ByteArray) (hx : x = Lx.strB l) :
    Calls Tryd.prog 7 #[.string x] w fun e w' => Chg [] w w' ∧ ∃ (k : Int) (s : ByteArray) (ka wa sa ra : Option Addr) (kn kc wn wc sn sc rn rc : Nat), e = .returned (.tuple #[.agg #[.int .i64 k, .slice ka kn kc, .string s, .slice wa wn wc, .slice sa sn sc, .slice ra rn rc], .int .i64 ((Ps.program l).2.1 : Int), .int .i64 (Ps.program l).1]) := by
  subst hx
  refine (program_any l w (by omega) hT m hm).mono ?_
  rintro e w' ⟨hC, cs, rfl, hN⟩
  obtain ⟨s, ka, wa, sa, ra, kn, kc, wn, wc, sn, sc, rn, rc, rfl, _⟩ := hN.cells6 rfl
  exact ⟨hC, _, s, ka, wa, sa, ra, kn, kc, wn, wc, sn, sc, rn, rc, rfl⟩

theorem chk_low {n k : Nat} (h : chkD n k = true) (hn : n ≤ 16) : (Ps.program (textD n (opensD k) (endsD k))).1 = 0 ∧ (Ps.program (textD n (opensD k) (endsD k))).2.1 = 0 := by
  unfold chkD at h
  generalize Ps.program (textD n (opensD k) (endsD k)) = r at *
  obtain ⟨e, a, t⟩ := r
  simp only [if_pos hn] at h
  simpa using h
theorem chk_high {n k : Nat} (h : chkD n k = true) (hn : ¬ n ≤ 16) : (Ps.program (textD n (opensD k) (endsD k))).1 = 12 ∧ (Ps.program (textD n (opensD k) (endsD k))).2.1 = 16 * (opensD k).length := by
  unfold chkD at h
  generalize Ps.program (textD n (opensD k) (endsD k)) = r at *
  obtain ⟨e, a, t⟩ := r
  simp only [if_neg hn] at h
  simpa using h

set_option maxHeartbeats 4000000 in
set_option maxRecDepth 10000 in
theorem parseDepth_any (z0 z1 : Int) (w : World) (wf0 : (Lit.int .i64 z0).wf = true) (wf1 : (Lit.int .i64 z1).wf = true) (hT : Hid (U8 w)) (m : Int) (hm : w.cell? ⟨2, 0, none⟩ = some (.int .i64 m)) :
    Calls Tryd.prog 5 #[.int .i64 z0, .int .i64 z1] w fun e w' => e = .returned (.bool true) ∧ Chg [] w w' := by
  have HM := Lib.hid hm
  obtain ⟨k, hk, hk2⟩ : ∃ k : Nat, z1 % 4 = (k : Int) ∧ k < 4 := ⟨(z1 % 4).toNat, by omega, by omega⟩
  have hbit : bits .and .i64 z1 3 = (k : Int) := by rw [i64_and3, hk]
  have t1 := Int.tmod_lt_of_pos z0 (show (0 : Int) < 40 by decide)
  have t2 := Int.lt_tmod_of_pos z0 (show (0 : Int) < 40 by decide)
  obtain ⟨t, ht⟩ : ∃ t, z0.tmod 40 = t := ⟨_, rfl⟩
  rw [ht] at t1 t2
  obtain ⟨n, hn, hn2⟩ : ∃ n : Nat, (t + 40) % 40 = (n : Int) ∧ n < 40 := ⟨((t + 40) % 40).toNat, by omega, by omega⟩
  have hn3 : (t + 40).tmod 40 = (n : Int) := by rw [Int.tmod_eq_emod_of_nonneg (by omega)]; exact hn
  have HCHK := Lib.hid (chkD_true (n + 1) k (by omega) (by omega) hk2)
  have HK := Lib.hid (show n + 1 ≤ 40 ∧ k < 4 from by omega)
  clear hk hn wf0 wf1 hm
  have k0 : (0 : Int) ≤ (k : Int) := by omega
  have k4 : (k : Int) < 4 := by omega
  go_enter Tryd.func5, Tryd.ntmps5
  go_upto_region 2 with (fail)
  go_cut [5, 6] (fun v5 v6 wc => v5 = .string (Lx.strB (opensD k)) ∧ v6 = .string (Lx.strB (endsD k)) ∧ Chg [] w wc)
  case first =>
    rcases (show k = 0 ∨ k = 1 ∨ k = 2 ∨ k = 3 from by omega) with rfl | rfl | rfl | rfl
    all_goals
      go_region
      all_goals
        go_wp2
        go_meet
        refine ⟨rfl, rfl, ?_⟩
        first
          | exact ((Chg.refl _ _).alloc _).alloc _
          | exact (((Chg.refl _ _).alloc _).alloc _).drew
  case rest =>
    obtain ⟨rfl, rfl, hc⟩ := hcut
    have HC := Lib.hid hc
    clear hc hbit t1 t2 ht hn3
    have HLO := Lib.hid (chk_low HCHK.out)
    have HHI := Lib.hid (chk_high HCHK.out)
    have hxl := opensD_len k
    have hyl := endsD_len k
    clear HCHK HK k0 k4
    generalize opensD k = x at *
    generalize endsD k = y at *
    have hsx := Lx.strB_size x
    have hsy := Lx.strB_size y
    obtain ⟨X, hX⟩ : ∃ X, x.length = X := ⟨_, rfl⟩
    obtain ⟨Y, hY⟩ : ∃ Y, y.length = Y := ⟨_, rfl⟩
    rw [hX] at hsx hxl
    rw [hY] at hsy hyl
    have HX := Lib.hid hX
    have HY := Lib.hid hY
    clear hX hY
    have n0 : (0 : Int) ≤ (n : Int) := by omega
    have n1 : (n : Int) < 40 := by omega
    go_wp2_with fail
    go_loopg [7, 8] (n + 2) (fun g c7 c8 wr => ∃ i : Nat, n + 1 < i + g ∧ i ≤ n + 1 ∧ c7 = .string (Lx.strB (rep i x)) ∧ c8 = .int .i64 i ∧ wr = wc)
    case atStart => exact ⟨0, by omega, by omega, rfl, rfl, rfl⟩
    case round =>
      obtain ⟨i, hg, hi, rfl, rfl, rfl⟩ := hrel
      have i0 : (0 : Int) ≤ (i : Int) := by omega
      have hsz := Lx.strB_size (rep i x)
      have hrl : (rep i x).length ≤ 640 := by rw [rep_len, HX.out]; exact Nat.le_trans (Nat.mul_le_mul (show i ≤ 40 by omega) hxl) (by decide)
      obtain ⟨L, hL⟩ : ∃ L, (rep i x).length = L := ⟨_, rfl⟩
      rw [hL] at hsz hrl
      have hov := eq_false (show ¬ 9223372036854775807 < L + X from by omega)
      clear hL
      by_cases hlt : i < n + 1
      · cases gk with
        | zero => omega
        | succ g =>
          have hd : decide ((i : Int) < (n : Int) + 1) = true := decide_eq_true (by omega)
          have HG := Lib.hid hg
          clear hg
          go_wp2
          go_roundg g
          case measure => omega
          case rel => exact ⟨i + 1, by have := HG.out; omega, by omega, congrArg Value.string (rep_step i x), by go_num, rfl⟩
      · have hd : decide ((i : Int) < (n : Int) + 1) = false := decide_eq_false (by omega)
        have HI := Lib.hid (show i = n + 1 from by omega)
        have ho1 := eq_false (show ¬ 9223372036854775807 < L + 1 from by omega)
        have HZ := Lib.hid (show Lx.strB (rep i x) ++ ⟨#[97]⟩ = Lx.strB (midD i x 0 y) from (Lx.strB_append (rep i x) [97]).trans (by simp [midD, rep]))
        clear hg hi hlt
        go_wp2_with fail
        go_loopg [7, 9] (n + 2) (fun g c7 c9 wr2 => ∃ j : Nat, n + 1 < j + g ∧ j ≤ n + 1 ∧ c7 = .string (Lx.strB (midD i x j y)) ∧ c9 = .int .i64 j ∧ Hid (Chg [] w wr2))
        case atStart => exact ⟨0, by omega, by omega, congrArg Value.string HZ.out, rfl, HC⟩
        case round =>
          clear hd HZ hov ho1 hsz hrl
          clear HC
          obtain ⟨j, hg, hj, rfl, rfl, HC⟩ := hrel
          have j0 : (0 : Int) ≤ (j : Int) := by omega
          have hsz := Lx.strB_size (midD i x j y)
          have hrl : (midD i x j y).length ≤ 1281 := by
            have h1 : i * X ≤ 40 * 16 := Nat.mul_le_mul (show i ≤ 40 by have := HI.out; omega) hxl
            have h2 : j * Y ≤ 40 * 16 := Nat.mul_le_mul (show j ≤ 40 by omega) hyl
            rw [midD_len, HX.out, HY.out]
            omega
          have HRL := Lib.hid hrl
          obtain ⟨M, hM⟩ : ∃ M, (midD i x j y).length = M := ⟨_, rfl⟩
          rw [hM] at hsz hrl
          have hov := eq_false (show ¬ 9223372036854775807 < M + Y from by omega)
          clear hM
          by_cases hlt : j < n + 1
          · cases gk with
            | zero => omega
            | succ g =>
              have hd : decide ((j : Int) < (n : Int) + 1) = true := decide_eq_true (by omega)
              have HG := Lib.hid hg
              clear hg
              go_wp2
              go_roundg g
              case measure => omega
              case rel => exact ⟨j + 1, by have := HG.out; omega, by omega, congrArg Value.string (midD_step i x j y), by go_num, HC⟩
          · have hd : decide ((j : Int) < (n : Int) + 1) = false := decide_eq_false (by omega)
            have HJ := Lib.hid (show j = n + 1 from by omega)
            have HTX := Lib.hid (show Lx.strB (midD i x j y) = Lx.strB (textD (n + 1) x y) from by rw [HI.out, HJ.out]; rfl)
            have HTL := Lib.hid (show (textD (n + 1) x y).length ≤ 100000 from by have := HRL.out; rw [HI.out, HJ.out] at this; exact Nat.le_trans this (by decide))
            clear hg hj hlt hov hsz hrl HRL
            go_wp2_with fail
            refine (program_at (textD (n + 1) x y) HTL.out _ (U8.chg hT HC.out) m (HC.out.cell HM.out (by simp)) _ HTX.out).mono ?_
            rintro e w3 ⟨hC3, kk, s, ka, wa, sa, ra, kn, kc, wn, wc2, sn, sc, rn, rc, rfl⟩
            have HC3 := Lib.hid (HC.out.then0 hC3)
            have HAL := Lib.hid (HC3.out.alloc (.cells #[.int .i64 kk, .slice ka kn kc, .string s, .slice wa wn wc2, .slice sa sn sc, .slice ra rn rc] 30))
            clear hC3 hd HTX HTL
            by_cases h16 : n + 1 ≤ 16
            · have hd : decide ((n : Int) + 1 ≤ 16) = true := decide_eq_true (by omega)
              obtain ⟨r1, r2⟩ := HLO.out h16
              rw [r1, r2]
              clear HLO HHI h16 r1 r2
              go_wp2_with fail
              refine (awake_any _ (U8.chg hT HAL.out) m (HAL.out.cell HM.out (by simp))).mono ?_
              rintro e w4 ⟨rfl, h4⟩
              have HC4 := Lib.hid (HAL.out.then0 h4)
              clear h4
              go_wp2
              go_ret
              exact ⟨rfl, HC4.out⟩
            · have hd : decide ((n : Int) + 1 ≤ 16) = false := decide_eq_false (by omega)
              obtain ⟨r1, r2⟩ := HHI.out h16
              rw [r1, r2, HX.out]
              have hX1 : (X : Int) ≤ 16 := by omega
              have hX0 : (0 : Int) ≤ (X : Int) := by omega
              have heq : (((16 * X : Nat) : Int) == 16 * (X : Int)) = true := by rw [beq_iff_eq]; omega
              clear HLO HHI h16 r1 r2
              go_wp2_with fail
              refine (awake_any _ (U8.chg hT HAL.out) m (HAL.out.cell HM.out (by simp))).mono ?_
              rintro e w4 ⟨rfl, h4⟩
              have HC4 := Lib.hid (HAL.out.then0 h4)
              clear h4
              go_wp2
              go_ret
              exact ⟨rfl, HC4.out⟩

end Go.Proofs.YtfgbbmnmblchiaaDoor
