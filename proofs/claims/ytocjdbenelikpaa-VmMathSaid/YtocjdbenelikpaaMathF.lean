/-
  VmMath's own run, walked.
-/
import Derived.Test.YtocjdbenelikpaaMathP
import Derived.Test.YtocjdbenelikpaaAwake
namespace Go.Proofs.Ytocjdbenelikpaa
open Go.RowKit
set_option linter.unusedVariables false
set_option linter.unusedSimpArgs false

set_option maxHeartbeats 4000000 in
set_option maxRecDepth 100000 in
theorem math_fn (w : World) (A B : Nat) (a b : Int) (hA : w.cell? ⟨A, 0, none⟩ = some (.int .i64 a)) (hB : w.cell? ⟨B, 0, none⟩ = some (.int .i64 b)) (ha : (Lit.int .i64 a).wf = true) (hb : (Lit.int .i64 b).wf = true)
    (c x y k : Nat) (h0 : 2 ≤ c) (hj : ¬ (16 ≤ c ∧ c ≤ 18)) (hc : c < 256) (hx : x < 256) (hy : y < 256) (hk : k < 256) (hok : instrOk 2 c x y k = true)
    (h4 : (Vm.op c x y k (MathP.Mc c x y k a b)).1 = 0 ∨ (Vm.op c x y k (MathP.Mc c x y k a b)).1 = 4) :
    Calls Try.prog 20 #[.int .u8 c, .int .u8 x, .int .u8 y, .int .u8 k, .pointer (some ⟨A, 0, none⟩), .pointer (some ⟨B, 0, none⟩)] w fun e w' =>
      e = .returned (.tuple #[.int .i64 (MathP.res c x y k a b).1, .int .i64 (MathP.res c x y k a b).2]) ∧ Chg [] w w' := by
  have hbs : Bytes (w.alloc (.cells #[.int .u8 76, .int .u8 90, .int .u8 0, .int .u8 2, .int .u8 0, .int .u8 0, .int .u8 c, .int .u8 x, .int .u8 y, .int .u8 k, .int .u8 0, .int .u8 0, .int .u8 0, .int .u8 0] 5)) (some ⟨w.heap.size, 0, none⟩) 14 14 (MathP.img c x y k) :=
    ⟨rfl, by unfold maxLen; omega, fun _ => ⟨_, 0, rfl, fun j u hj => cells_of_take (k := 14) (heap_alloc_new w _) rfl (by
      rw [Nat.zero_add]
      unfold MathP.img byteV at hj
      simp only [List.map_cons, List.map_nil, MathP.q256 hc, MathP.q256 hx, MathP.q256 hy, MathP.q256 hk] at hj
      exact hj)⟩⟩
  have HB := Lib.hid hbs
  have HV := Lib.hid (MathP.img_valid c x y k hc hx hy hk hok)
  have HR := Lib.hid (MathP.res_ok c x y k a b h0 hj hc hx hy hk h4)
  clear hbs hok h4
  go_enter Try.func20, Try.ntmps20
  go_wp2_with fail
  refine (new_good _ _ 14 14 _ HB.out HV.out).mono ?_
  rintro e w2 ⟨mb, cb, co, cc, rfl, hm, hg, hc2, hmb, -⟩
  have hC : Chg [] w w2 := ((Chg.refl [] w).alloc _).then0 hc2
  have hA2 := hC.cell hA (by simp)
  have hB2 := hC.cell hB (by simp)
  have hmb2 : w.heap.size ≤ mb := by simp at hmb; omega
  have hAl : A < w.heap.size := World.block_lt_of_cell? w _ hA
  have hBl : B < w.heap.size := World.block_lt_of_cell? w _ hB
  have HM := Lib.hid hm
  have HG := Lib.hid hg
  have HC := Lib.hid hC
  clear hm hg hc2 hC hmb HB
  go_wp2_with fail
  refine (setReg_in w2 mb cb co cc _ HM.out 1 (by omega) a ha).mono ?_
  rintro e w3 ⟨rfl, hm3, hc3⟩
  have hB3 := hc3.cell hB2 (by simp; omega)
  have HM3 := Lib.hid hm3
  have HC3 : Hid (Chg [] w w3) := Lib.hid (HC.out.trans hc3 (fun z hz => .inr (by simp at hz; omega)))
  clear hm3 hc3 HM HC
  go_wp2_with fail
  refine (setReg_in w3 mb cb co cc _ HM3.out 2 (by omega) b hb).mono ?_
  rintro e w4 ⟨rfl, hm4, hc4⟩
  rw [MathP.img_start] at hm4
  have HM4 := Lib.hid hm4
  have HC4 : Hid (Chg [] w w4) := Lib.hid (HC3.out.trans hc4 (fun z hz => .inr (by simp at hz; omega)))
  have HG4 : Hid (Vm.Good (MathP.Mc c x y k a b)) := Lib.hid (by
    have := MathP.img_start c x y k a b
    rw [← this]
    exact ⟨HG.out.code, HG.out.pc⟩)
  clear hm4 hc4 HM3 HC3 HG
  go_wp2_with fail
  refine (run_any w4 mb cb co cc _ HM4.out HG4.out rfl 9 (by omega)).mono ?_
  rintro e w5 ⟨rfl, hm5, hc5⟩
  obtain ⟨r1, r2⟩ := HR.out
  generalize Vm.fin (Vm.go 9 (MathP.Mc c x y k a b)) = q at *
  rw [r2]
  have HM5 := Lib.hid hm5
  have HC5 : Hid (Chg [] w w5) := Lib.hid (HC4.out.trans hc5 (fun z hz => .inr (by simp at hz; omega)))
  have R1 := Lib.hid r1
  clear hm5 hc5 HM4 HC4 HG4 HR r1 r2
  go_wp2_with fail
  refine (reg_in w5 mb cb co cc _ HM5.out 1 (by omega)).mono ?_
  rintro e w6 ⟨rfl, rfl⟩
  rw [R1.out]
  go_wp2
  go_ret2
  exact ⟨rfl, HC5.out⟩

end Go.Proofs.Ytocjdbenelikpaa
