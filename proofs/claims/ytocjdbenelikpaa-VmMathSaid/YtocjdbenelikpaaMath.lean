/-
  VmMath, walked.
-/
import Derived.Test.YtocjdbenelikpaaMathF
import Derived.Deep.LoopGhost
namespace Go.Proofs.Ytocjdbenelikpaa
open Go.RowKit
set_option linter.unusedVariables false
set_option linter.unusedSimpArgs false

/-- what VmMath has laid ahead of its loop. -/
structure MathAt (w wr : World) (a b : Int) : Prop where
  pa : wr.cell? ⟨w.heap.size, 0, none⟩ = some (.int .i64 a)
  pb : wr.cell? ⟨w.heap.size + 1, 0, none⟩ = some (.int .i64 b)
  code : ∀ i, i < 8 → wr.cell? ⟨w.heap.size + 1 + 1, i, none⟩ = some (.int .u8 ((MathP.codes i : Nat) : Int))
  want : ∀ i, i < 8 → wr.cell? ⟨w.heap.size + 1 + 1 + 1, i, none⟩ = some (.int .i64 (MathP.want a b i))
  chg : Chg [] w wr
theorem MathAt.kept {w wr wr' : World} {a b : Int} (h : MathAt w wr a b) (hc : Chg [] wr wr') : MathAt w wr' a b :=
  ⟨hc.cell h.pa (by simp), hc.cell h.pb (by simp), fun i hi => hc.cell (h.code i hi) (by simp), fun i hi => hc.cell (h.want i hi) (by simp), h.chg.then0 hc⟩

theorem math_world (w : World) (a b : Int) (X : Array Value) (hX : ∀ i, i < 8 → X[i]? = some (.int .i64 (MathP.want a b i))) :
    MathAt w ((((w.alloc (.cells #[.int .i64 a] 3)).alloc (.cells #[.int .i64 b] 3)).alloc (.cells #[.int .u8 4, .int .u8 5, .int .u8 6, .int .u8 9, .int .u8 10, .int .u8 11, .int .u8 14, .int .u8 15] 5)).alloc (.cells X 3)) a b := by
  have o1 : (w.alloc (.cells #[.int .i64 a] 3)).heap[w.heap.size]? = _ := heap_alloc_new w _
  have o2 : ((w.alloc (.cells #[.int .i64 a] 3)).alloc (.cells #[.int .i64 b] 3)).heap[w.heap.size + 1]? = some (.cells #[.int .i64 b] 3 (0, 0)) := by
    have := heap_alloc_new (w.alloc (.cells #[.int .i64 a] 3)) (.cells #[.int .i64 b] 3)
    simpa using this
  generalize hw2 : (w.alloc (.cells #[.int .i64 a] 3)).alloc (.cells #[.int .i64 b] 3) = w2 at *
  have s2 : w2.heap.size = w.heap.size + 1 + 1 := by subst hw2; simp
  have c2 : Chg [] w w2 := by subst hw2; exact ((Chg.refl [] w).alloc _).alloc _
  have o1' : w2.heap[w.heap.size]? = some (.cells #[.int .i64 a] 3 (0, 0)) := by subst hw2; exact obj_alloc_old o1 _
  have o3 := heap_alloc_new w2 (.cells #[.int .u8 4, .int .u8 5, .int .u8 6, .int .u8 9, .int .u8 10, .int .u8 11, .int .u8 14, .int .u8 15] 5)
  generalize hw3 : w2.alloc (.cells #[.int .u8 4, .int .u8 5, .int .u8 6, .int .u8 9, .int .u8 10, .int .u8 11, .int .u8 14, .int .u8 15] 5) = w3 at *
  have s3 : w3.heap.size = w.heap.size + 1 + 1 + 1 := by subst hw3; simp [s2]
  have o4 := heap_alloc_new w3 (.cells X 3)
  have c3 : Chg [] w2 w3 := by subst hw3; exact (Chg.refl [] w2).alloc _
  have c4 : Chg [] w3 (w3.alloc (.cells X 3)) := (Chg.refl [] w3).alloc _
  rw [s2] at o3
  rw [s3] at o4
  have c24 := c3.then0 c4
  refine ⟨c24.cell (cell_of_obj o1' rfl) (by simp), c24.cell (cell_of_obj o2 rfl) (by simp), fun i hi => c4.cell (cell_of_obj o3 ?_) (by simp), fun i hi => cell_of_obj o4 (hX i hi), c2.then0 c24⟩
  match i, hi with
  | 0, _ | 1, _ | 2, _ | 3, _ | 4, _ | 5, _ | 6, _ | 7, _ => rfl
  | i + 8, h => exact absurd h (by omega)

set_option maxHeartbeats 4000000 in
set_option maxRecDepth 100000 in
theorem math_any (w : World) (a b : Int) (k : Nat) (ha : (Lit.int .i64 a).wf = true) (hb : (Lit.int .i64 b).wf = true) (hk : k < 256) :
    Calls Try.prog 7 #[.int .i64 a, .int .i64 b, .int .u8 k] w fun e w' => e = .returned (.bool true) ∧ Chg [] w w' := by
  have HA := Lib.hid ha
  have HB := Lib.hid hb
  have HDB := Lib.hid (MathP.div_back a b ha)
  have HK : Hid (bits .and .u8 (k : Int) 63 = ((k % 64 : Nat) : Int)) := Lib.hid (MathP.u8_and63 k hk)
  clear ha hb
  rcases Int.lt_trichotomy a b with hab | hab | hab
  rotate_left
  · subst hab
    go_enter Try.func7, Try.ntmps7
    go_wp2_with fail
    try rw [decide_eq_false (show ¬ a < a by omega)]
    try rw [show (a == a) = false by simp; omega]
    go_loopg [10] 8 (fun g vi wr => ∃ i : Nat, i + g = 8 ∧ vi = .int .i64 i ∧ MathAt w wr a a)
    case atStart =>
      refine ⟨0, by omega, rfl, math_world w _ _ _ ?_⟩
      intro i hi
      match i, hi with
      | 0, _ | 1, _ | 2, _ | 3, _ | 4, _ | 5, _ | 6, _ | 7, _ => (simp [MathP.want, List.getD]; try first | rfl | omega | (unfold wrap64; omega))
      | i + 8, h => exact absurd h (by omega)
    case round =>
      obtain ⟨i, hi, rfl, hm⟩ := hrel
      have HM := Lib.hid hm
      clear hm
      cases gk with
      | succ g =>
        have hi8 : i < 8 := by omega
        have hi8' : (i : Int) < 8 := by omega
        have kc := HM.out.code i hi8
        have kw := HM.out.want i hi8
        obtain ⟨q1, q2, q3, q4⟩ := MathP.codes_ok i hi8
        have hres := MathP.res_codes a a i hi8
        have HRES := Lib.hid hres
        clear hres
        go_wp2_with fail
        refine (math_fn _ _ _ a a HM.out.pa HM.out.pb HA.out HB.out (MathP.codes i) 1 2 0 q1 q2 q3 (by omega) (by omega) (by omega) q4 (Or.inl HRES.out.2)).mono ?_
        rintro e w2 ⟨rfl, hc2⟩
        rw [HRES.out.1]
        have kw2 := hc2.cell kw (by simp)
        have HM2 := Lib.hid (HM.out.kept hc2)
        clear hc2 HM kc kw HRES
        generalize MathP.want a a i = V at *
        go_wp2
        all_goals
          go_roundg g
          case measure => omega
          case rel => exact ⟨i + 1, by omega, by go_num, HM2.out⟩
      | zero =>
        obtain rfl : i = 8 := by omega
        have W12 : instrOk 2 12 1 0 k = true := (instrOk_want 12 1 0 k).2 (by simp [WantP])
        have W13 : instrOk 2 13 1 0 k = true := (instrOk_want 13 1 0 k).2 (by simp [WantP])
        have W21 : instrOk 2 21 1 0 k = true := (instrOk_want 21 1 0 k).2 (by simp [WantP])
        have W7 : instrOk 2 7 1 2 0 = true := by decide +kernel
        have W8 : instrOk 2 8 1 2 0 = true := by decide +kernel
        by_cases hb0 : a = 0
        · have HQ : Hid (MathP.res 7 1 2 0 a a = (a, 4) ∧ (Vm.op 7 1 2 0 (MathP.Mc 7 1 2 0 a a)).1 = 4) := Lib.hid (by subst hb0; exact ⟨rfl, rfl⟩)
          have HR : Hid (MathP.res 8 1 2 0 a a = (a, 4) ∧ (Vm.op 8 1 2 0 (MathP.Mc 8 1 2 0 a a)).1 = 4) := Lib.hid (by subst hb0; exact ⟨rfl, rfl⟩)
          have c4a := HM.out.pa
          have c4b := HM.out.pb
          go_wp2_with fail
          refine (math_fn _ _ _ a a HM.out.pa HM.out.pb HA.out HB.out 7 1 2 0 (by omega) (by omega) (by omega) (by omega) (by omega) (by omega) W7 (Or.inr HQ.out.2)).mono ?_
          rintro e w2 ⟨rfl, hc⟩
          rw [HQ.out.1]
          have HM2 := Lib.hid (HM.out.kept hc)
          clear hc HM c4a c4b
          have c4a := HM2.out.pa
          have c4b := HM2.out.pb
          go_wp2_with fail
          refine (math_fn _ _ _ a a HM2.out.pa HM2.out.pb HA.out HB.out 8 1 2 0 (by omega) (by omega) (by omega) (by omega) (by omega) (by omega) W8 (Or.inr HR.out.2)).mono ?_
          rintro e w3 ⟨rfl, hc⟩
          rw [HR.out.1]
          have HM3 := Lib.hid (HM2.out.kept hc)
          clear hc HM2 c4a c4b
          have c4a := HM3.out.pa
          have c4b := HM3.out.pb
          go_wp2_with fail
          refine (math_fn _ _ _ a a HM3.out.pa HM3.out.pb HA.out HB.out 12 1 0 k (by omega) (by omega) (by omega) (by omega) (by omega) (by omega) W12 (Or.inl rfl)).mono ?_
          rintro e w4 ⟨rfl, hc⟩
          rw [MathP.res_shl]
          have HM4 := Lib.hid (HM3.out.kept hc)
          clear hc HM3 c4a c4b
          have c4a := HM4.out.pa
          have c4b := HM4.out.pb
          go_wp2_with fail
          refine (math_fn _ _ _ a a HM4.out.pa HM4.out.pb HA.out HB.out 13 1 0 k (by omega) (by omega) (by omega) (by omega) (by omega) (by omega) W13 (Or.inl rfl)).mono ?_
          rintro e w5 ⟨rfl, hc⟩
          rw [MathP.res_shr]
          have HM5 := Lib.hid (HM4.out.kept hc)
          clear hc HM4 c4a c4b
          have c4a := HM5.out.pa
          have c4b := HM5.out.pb
          go_wp2_with fail
          refine (math_fn _ _ _ a a HM5.out.pa HM5.out.pb HA.out HB.out 21 1 0 k (by omega) (by omega) (by omega) (by omega) (by omega) (by omega) W21 (Or.inl rfl)).mono ?_
          rintro e w6 ⟨rfl, hc⟩
          rw [MathP.res_low]
          have HM6 := Lib.hid (HM5.out.kept hc)
          clear hc HM5 c4a c4b
          have c4a := HM6.out.pa
          have c4b := HM6.out.pb
          go_wp2_with (go_at_call 16; refine (awake_any _).mono ?_; rintro e w9 ⟨rfl, h9⟩)
          all_goals
            go_ret
            exact ⟨rfl, HM6.out.chg.then0 h9⟩
        · have HQ : Hid (MathP.res 7 1 2 0 a a = (wrap64 (a.tdiv a), 2) ∧ (Vm.op 7 1 2 0 (MathP.Mc 7 1 2 0 a a)).1 = 0) := Lib.hid ⟨MathP.res_quo a a hb0, by rw [MathP.op7 a a hb0]⟩
          have HR : Hid (MathP.res 8 1 2 0 a a = (a.tmod a, 2) ∧ (Vm.op 8 1 2 0 (MathP.Mc 8 1 2 0 a a)).1 = 0) := Lib.hid ⟨MathP.res_rem a a hb0, by rw [MathP.op8 a a hb0]⟩
          have c4a := HM.out.pa
          have c4b := HM.out.pb
          go_wp2_with fail
          refine (math_fn _ _ _ a a HM.out.pa HM.out.pb HA.out HB.out 7 1 2 0 (by omega) (by omega) (by omega) (by omega) (by omega) (by omega) W7 (Or.inl HQ.out.2)).mono ?_
          rintro e w2 ⟨rfl, hc⟩
          rw [HQ.out.1]
          have HM2 := Lib.hid (HM.out.kept hc)
          clear hc HM c4a c4b
          have c4a := HM2.out.pa
          have c4b := HM2.out.pb
          go_wp2_with fail
          refine (math_fn _ _ _ a a HM2.out.pa HM2.out.pb HA.out HB.out 8 1 2 0 (by omega) (by omega) (by omega) (by omega) (by omega) (by omega) W8 (Or.inl HR.out.2)).mono ?_
          rintro e w3 ⟨rfl, hc⟩
          rw [HR.out.1]
          have HM3 := Lib.hid (HM2.out.kept hc)
          clear hc HM2 c4a c4b
          have c4a := HM3.out.pa
          have c4b := HM3.out.pb
          go_wp2_with fail
          refine (math_fn _ _ _ a a HM3.out.pa HM3.out.pb HA.out HB.out 12 1 0 k (by omega) (by omega) (by omega) (by omega) (by omega) (by omega) W12 (Or.inl rfl)).mono ?_
          rintro e w4 ⟨rfl, hc⟩
          rw [MathP.res_shl]
          have HM4 := Lib.hid (HM3.out.kept hc)
          clear hc HM3 c4a c4b
          have c4a := HM4.out.pa
          have c4b := HM4.out.pb
          go_wp2_with fail
          refine (math_fn _ _ _ a a HM4.out.pa HM4.out.pb HA.out HB.out 13 1 0 k (by omega) (by omega) (by omega) (by omega) (by omega) (by omega) W13 (Or.inl rfl)).mono ?_
          rintro e w5 ⟨rfl, hc⟩
          rw [MathP.res_shr]
          have HM5 := Lib.hid (HM4.out.kept hc)
          clear hc HM4 c4a c4b
          have c4a := HM5.out.pa
          have c4b := HM5.out.pb
          go_wp2_with fail
          refine (math_fn _ _ _ a a HM5.out.pa HM5.out.pb HA.out HB.out 21 1 0 k (by omega) (by omega) (by omega) (by omega) (by omega) (by omega) W21 (Or.inl rfl)).mono ?_
          rintro e w6 ⟨rfl, hc⟩
          rw [MathP.res_low]
          have HM6 := Lib.hid (HM5.out.kept hc)
          clear hc HM5 c4a c4b
          have c4a := HM6.out.pa
          have c4b := HM6.out.pb
          obtain ⟨Q, hQ⟩ : ∃ Q, wrap64 (a.tdiv a) = Q := ⟨_, rfl⟩
          obtain ⟨R, hR⟩ : ∃ R, a.tmod a = R := ⟨_, rfl⟩
          have hdb := HDB.out
          rw [hQ, hR] at hdb
          rw [hQ] at *
          rw [hR] at *
          have hk63 := HK.out
          have hz : (k % 64 : Nat) < 64 := by omega
          go_wp2_with (go_at_call 16; refine (awake_any _).mono ?_; rintro e w9 ⟨rfl, h9⟩)
          all_goals
            go_ret
            first
            | exact ⟨rfl, HM6.out.chg.then0 h9⟩
            | (exfalso; exact absurd (MathP.self_back a HA.out) ‹¬ wrap64 (wrap64 (wrap64 1 * a)) = a›)
  all_goals
    go_enter Try.func7, Try.ntmps7
    go_wp2_with fail
    try rw [decide_eq_false (show ¬ a < b by omega)]
    try rw [show (a == b) = false by simp; omega]
    go_loopg [10] 8 (fun g vi wr => ∃ i : Nat, i + g = 8 ∧ vi = .int .i64 i ∧ MathAt w wr a b)
    case atStart =>
      refine ⟨0, by omega, rfl, math_world w _ _ _ ?_⟩
      intro i hi
      match i, hi with
      | 0, _ | 1, _ | 2, _ | 3, _ | 4, _ | 5, _ | 6, _ | 7, _ => (simp [MathP.want, List.getD]; try first | rfl | omega | (unfold wrap64; omega))
      | i + 8, h => exact absurd h (by omega)
    case round =>
      obtain ⟨i, hi, rfl, hm⟩ := hrel
      have HM := Lib.hid hm
      clear hm
      cases gk with
      | succ g =>
        have hi8 : i < 8 := by omega
        have hi8' : (i : Int) < 8 := by omega
        have kc := HM.out.code i hi8
        have kw := HM.out.want i hi8
        obtain ⟨q1, q2, q3, q4⟩ := MathP.codes_ok i hi8
        have hres := MathP.res_codes a b i hi8
        have HRES := Lib.hid hres
        clear hres
        go_wp2_with fail
        refine (math_fn _ _ _ a b HM.out.pa HM.out.pb HA.out HB.out (MathP.codes i) 1 2 0 q1 q2 q3 (by omega) (by omega) (by omega) q4 (Or.inl HRES.out.2)).mono ?_
        rintro e w2 ⟨rfl, hc2⟩
        rw [HRES.out.1]
        have kw2 := hc2.cell kw (by simp)
        have HM2 := Lib.hid (HM.out.kept hc2)
        clear hc2 HM kc kw HRES
        generalize MathP.want a b i = V at *
        go_wp2
        all_goals
          go_roundg g
          case measure => omega
          case rel => exact ⟨i + 1, by omega, by go_num, HM2.out⟩
      | zero =>
        obtain rfl : i = 8 := by omega
        have W12 : instrOk 2 12 1 0 k = true := (instrOk_want 12 1 0 k).2 (by simp [WantP])
        have W13 : instrOk 2 13 1 0 k = true := (instrOk_want 13 1 0 k).2 (by simp [WantP])
        have W21 : instrOk 2 21 1 0 k = true := (instrOk_want 21 1 0 k).2 (by simp [WantP])
        have W7 : instrOk 2 7 1 2 0 = true := by decide +kernel
        have W8 : instrOk 2 8 1 2 0 = true := by decide +kernel
        by_cases hb0 : b = 0
        · have HQ : Hid (MathP.res 7 1 2 0 a b = (a, 4) ∧ (Vm.op 7 1 2 0 (MathP.Mc 7 1 2 0 a b)).1 = 4) := Lib.hid (by rw [hb0]; exact ⟨rfl, rfl⟩)
          have HR : Hid (MathP.res 8 1 2 0 a b = (a, 4) ∧ (Vm.op 8 1 2 0 (MathP.Mc 8 1 2 0 a b)).1 = 4) := Lib.hid (by rw [hb0]; exact ⟨rfl, rfl⟩)
          have c4a := HM.out.pa
          have c4b := HM.out.pb
          go_wp2_with fail
          refine (math_fn _ _ _ a b HM.out.pa HM.out.pb HA.out HB.out 7 1 2 0 (by omega) (by omega) (by omega) (by omega) (by omega) (by omega) W7 (Or.inr HQ.out.2)).mono ?_
          rintro e w2 ⟨rfl, hc⟩
          rw [HQ.out.1]
          have HM2 := Lib.hid (HM.out.kept hc)
          clear hc HM c4a c4b
          have c4a := HM2.out.pa
          have c4b := HM2.out.pb
          go_wp2_with fail
          refine (math_fn _ _ _ a b HM2.out.pa HM2.out.pb HA.out HB.out 8 1 2 0 (by omega) (by omega) (by omega) (by omega) (by omega) (by omega) W8 (Or.inr HR.out.2)).mono ?_
          rintro e w3 ⟨rfl, hc⟩
          rw [HR.out.1]
          have HM3 := Lib.hid (HM2.out.kept hc)
          clear hc HM2 c4a c4b
          have c4a := HM3.out.pa
          have c4b := HM3.out.pb
          go_wp2_with fail
          refine (math_fn _ _ _ a b HM3.out.pa HM3.out.pb HA.out HB.out 12 1 0 k (by omega) (by omega) (by omega) (by omega) (by omega) (by omega) W12 (Or.inl rfl)).mono ?_
          rintro e w4 ⟨rfl, hc⟩
          rw [MathP.res_shl]
          have HM4 := Lib.hid (HM3.out.kept hc)
          clear hc HM3 c4a c4b
          have c4a := HM4.out.pa
          have c4b := HM4.out.pb
          go_wp2_with fail
          refine (math_fn _ _ _ a b HM4.out.pa HM4.out.pb HA.out HB.out 13 1 0 k (by omega) (by omega) (by omega) (by omega) (by omega) (by omega) W13 (Or.inl rfl)).mono ?_
          rintro e w5 ⟨rfl, hc⟩
          rw [MathP.res_shr]
          have HM5 := Lib.hid (HM4.out.kept hc)
          clear hc HM4 c4a c4b
          have c4a := HM5.out.pa
          have c4b := HM5.out.pb
          go_wp2_with fail
          refine (math_fn _ _ _ a b HM5.out.pa HM5.out.pb HA.out HB.out 21 1 0 k (by omega) (by omega) (by omega) (by omega) (by omega) (by omega) W21 (Or.inl rfl)).mono ?_
          rintro e w6 ⟨rfl, hc⟩
          rw [MathP.res_low]
          have HM6 := Lib.hid (HM5.out.kept hc)
          clear hc HM5 c4a c4b
          have c4a := HM6.out.pa
          have c4b := HM6.out.pb
          go_wp2_with (go_at_call 16; refine (awake_any _).mono ?_; rintro e w9 ⟨rfl, h9⟩)
          all_goals
            go_ret
            exact ⟨rfl, HM6.out.chg.then0 h9⟩
        · have HQ : Hid (MathP.res 7 1 2 0 a b = (wrap64 (a.tdiv b), 2) ∧ (Vm.op 7 1 2 0 (MathP.Mc 7 1 2 0 a b)).1 = 0) := Lib.hid ⟨MathP.res_quo a b hb0, by rw [MathP.op7 a b hb0]⟩
          have HR : Hid (MathP.res 8 1 2 0 a b = (a.tmod b, 2) ∧ (Vm.op 8 1 2 0 (MathP.Mc 8 1 2 0 a b)).1 = 0) := Lib.hid ⟨MathP.res_rem a b hb0, by rw [MathP.op8 a b hb0]⟩
          have c4a := HM.out.pa
          have c4b := HM.out.pb
          go_wp2_with fail
          refine (math_fn _ _ _ a b HM.out.pa HM.out.pb HA.out HB.out 7 1 2 0 (by omega) (by omega) (by omega) (by omega) (by omega) (by omega) W7 (Or.inl HQ.out.2)).mono ?_
          rintro e w2 ⟨rfl, hc⟩
          rw [HQ.out.1]
          have HM2 := Lib.hid (HM.out.kept hc)
          clear hc HM c4a c4b
          have c4a := HM2.out.pa
          have c4b := HM2.out.pb
          go_wp2_with fail
          refine (math_fn _ _ _ a b HM2.out.pa HM2.out.pb HA.out HB.out 8 1 2 0 (by omega) (by omega) (by omega) (by omega) (by omega) (by omega) W8 (Or.inl HR.out.2)).mono ?_
          rintro e w3 ⟨rfl, hc⟩
          rw [HR.out.1]
          have HM3 := Lib.hid (HM2.out.kept hc)
          clear hc HM2 c4a c4b
          have c4a := HM3.out.pa
          have c4b := HM3.out.pb
          go_wp2_with fail
          refine (math_fn _ _ _ a b HM3.out.pa HM3.out.pb HA.out HB.out 12 1 0 k (by omega) (by omega) (by omega) (by omega) (by omega) (by omega) W12 (Or.inl rfl)).mono ?_
          rintro e w4 ⟨rfl, hc⟩
          rw [MathP.res_shl]
          have HM4 := Lib.hid (HM3.out.kept hc)
          clear hc HM3 c4a c4b
          have c4a := HM4.out.pa
          have c4b := HM4.out.pb
          go_wp2_with fail
          refine (math_fn _ _ _ a b HM4.out.pa HM4.out.pb HA.out HB.out 13 1 0 k (by omega) (by omega) (by omega) (by omega) (by omega) (by omega) W13 (Or.inl rfl)).mono ?_
          rintro e w5 ⟨rfl, hc⟩
          rw [MathP.res_shr]
          have HM5 := Lib.hid (HM4.out.kept hc)
          clear hc HM4 c4a c4b
          have c4a := HM5.out.pa
          have c4b := HM5.out.pb
          go_wp2_with fail
          refine (math_fn _ _ _ a b HM5.out.pa HM5.out.pb HA.out HB.out 21 1 0 k (by omega) (by omega) (by omega) (by omega) (by omega) (by omega) W21 (Or.inl rfl)).mono ?_
          rintro e w6 ⟨rfl, hc⟩
          rw [MathP.res_low]
          have HM6 := Lib.hid (HM5.out.kept hc)
          clear hc HM5 c4a c4b
          have c4a := HM6.out.pa
          have c4b := HM6.out.pb
          obtain ⟨Q, hQ⟩ : ∃ Q, wrap64 (a.tdiv b) = Q := ⟨_, rfl⟩
          obtain ⟨R, hR⟩ : ∃ R, a.tmod b = R := ⟨_, rfl⟩
          have hdb := HDB.out
          rw [hQ, hR] at hdb
          rw [hQ] at *
          rw [hR] at *
          have hk63 := HK.out
          have hz : (k % 64 : Nat) < 64 := by omega
          go_wp2_with (go_at_call 16; refine (awake_any _).mono ?_; rintro e w9 ⟨rfl, h9⟩)
          all_goals
            go_ret
            first
            | exact ⟨rfl, HM6.out.chg.then0 h9⟩
            | (exfalso; exact absurd (MathP.self_back a HA.out) ‹¬ wrap64 (wrap64 (wrap64 1 * a)) = a›)

end Go.Proofs.Ytocjdbenelikpaa
