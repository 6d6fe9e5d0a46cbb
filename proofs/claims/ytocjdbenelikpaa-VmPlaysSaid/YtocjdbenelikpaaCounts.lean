/-
  VmCounts, walked.
-/
import Derived.Test.YtocjdbenelikpaaCountsP
import Derived.Test.YtocjdbenelikpaaAwake
namespace Go.Proofs.Ytocjdbenelikpaa
open Go.RowKit
set_option linter.unusedVariables false
set_option linter.unusedSimpArgs false

/-- a machine and what a run of it from the start leaves, in one. -/
theorem run_from (w : World) (mb cb co cc : Nat) (m : Vm.M) (h : MachAt w mb cb co cc m) (hg : Vm.Good m) (hs : m.stopped = 0) (F : Nat) (hF : F < 9223372036854775808) (u : Nat) (s : Int) (m' : Vm.M) (hq : Vm.fin (Vm.go F m) = (u, s, m')) :
    Calls Try.prog 14 #[.pointer (some ⟨mb, 0, none⟩), .int .i64 (F : Int)] w fun e w' => e = .returned (.tuple #[.int .i64 (u : Int), .int .i64 s]) ∧ MachAt w' mb cb co cc m' ∧ Chg [mb] w w' := by
  have := run_any w mb cb co cc m h hg hs F hF
  rw [hq] at this
  exact this

set_option maxHeartbeats 4000000 in
set_option maxRecDepth 100000 in
theorem counts_any (w : World) (n0 f0 : Int) :
    Calls Try.prog 3 #[.int .i64 n0, .int .i64 f0] w fun e w' => e = .returned (.bool true) ∧ Chg [] w w' := by
  obtain ⟨n, hn⟩ : ∃ n : Nat, n0 % 256 = (n : Int) := ⟨(n0 % 256).toNat, by omega⟩
  obtain ⟨F, hF⟩ : ∃ F : Nat, f0 % 2048 = (F : Int) := ⟨(f0 % 2048).toNat, by omega⟩
  have hn2 : n < 256 := by omega
  have hF2 : F < 2048 := by omega
  have b1 : bits .and .i64 n0 255 = (n : Int) := by rw [i64_and255, hn]
  have b2 : bits .and .i64 f0 2047 = (F : Int) := by rw [i64_and2047, hF]
  clear hn hF
  have hb : Bytes (w.alloc (.cells #[.int .u8 2, .int .u8 0, .int .u8 0, .int .u8 n, .int .u8 2, .int .u8 1, .int .u8 0, .int .u8 1, .int .u8 17, .int .u8 0, .int .u8 0, .int .u8 6, .int .u8 5, .int .u8 0, .int .u8 1, .int .u8 0, .int .u8 4, .int .u8 2, .int .u8 1, .int .u8 0, .int .u8 16, .int .u8 0, .int .u8 0, .int .u8 2, .int .u8 0, .int .u8 0, .int .u8 0, .int .u8 0] 5)) (some ⟨w.heap.size, 0, none⟩) 28 28 (Counts.code n) :=
    ⟨rfl, by unfold maxLen; omega, fun _ => ⟨_, 0, rfl, fun j u hj => cells_of_take (k := 28) (heap_alloc_new w _) rfl (by
      rw [Nat.zero_add]
      have q : byteV (UInt8.ofNat n) = .int .u8 n := by unfold byteV; simp; omega
      unfold Counts.code at hj
      simp only [List.map_cons, List.map_nil, q] at hj
      exact hj)⟩⟩
  have hnil : ∀ w : World, Bytes w none 0 0 [] := fun w => ⟨rfl, by simp, fun h => absurd rfl h⟩
  have HB := Lib.hid hb
  clear hb
  obtain ⟨hall, hpart⟩ := Counts.all n hn2 F
  have HA := Lib.hid hall
  have HP := Lib.hid hpart
  clear hall hpart
  go_enter Try.func3, Try.ntmps3
  go_wp2_with fail
  refine (build_any _ _ 28 28 _ HB.out none 0 0 [] (hnil _) (by omega) (by omega)).mono ?_
  rintro e w1 ⟨a, len, cap, rfl, hb1, hc1⟩
  have HB1 : Hid (Bytes w1 a len cap (Counts.img n)) := Lib.hid hb1
  have HC1 := Lib.hid (((Chg.refl [] w).alloc _).then0 hc1)
  clear hb1 hc1 HB
  go_wp2_with fail
  refine (new_good w1 a len cap _ HB1.out (Counts.img_valid n)).mono ?_
  rintro e w2 ⟨mb, cb, co, cc, rfl, hm, hg, hc, hmb, -⟩
  have HM := Lib.hid hm
  have HC2 := Lib.hid (HC1.out.then0 hc)
  have HMB : Hid (w.heap.size ≤ mb) := Lib.hid (by have := HC1.out.size; omega)
  have HG := Lib.hid hg
  clear hm hc hmb HB1 HC1 hnil b1 b2 hg
  go_wp2_with fail
  by_cases hf : 4 * n + 4 ≤ F
  · have hq : Vm.fin (Vm.go F (Vm.ofImage (Counts.img n))) = (4 * n + 4, 2, { Counts.St n 0 1 n 6 with stopped := 2 }) := by rw [HA.out hf]; rfl
    refine (run_from w2 mb cb co cc _ HM.out HG.out rfl F (by omega) _ _ _ hq).mono ?_
    rintro e w3 ⟨rfl, hm3, hc3⟩
    have HM3 := Lib.hid hm3
    have HC3 : Hid (Chg [] w w3) := Lib.hid (HC2.out.trans hc3 (fun x hx => .inr (by have := HMB.out; simp at hx; omega)))
    clear hm3 hc3 hq HM HA HP HC2 HG
    have hfi : 4 * (n : Int) + 4 ≤ (F : Int) := by omega
    go_wp2_with fail
    refine (run_still w3 mb cb co cc _ HM3.out (show (2 : Int) ≠ 0 by decide) 50).mono ?_
    rintro e w4 ⟨rfl, hc4⟩
    have HM4 := Lib.hid (HM3.out.kept0 hc4)
    have HC4 := Lib.hid (HC3.out.then0 hc4)
    clear hc4 HM3 HC3
    go_wp2_with fail
    refine (reg_in w4 mb cb co cc _ HM4.out 2 (by omega)).mono ?_
    rintro e w5 ⟨rfl, rfl⟩
    rw [show Vm.reg { Counts.St n 0 1 n 6 with stopped := 2 } 2 = (n : Int) from rfl]
    go_wp2_with fail
    refine (reg_in w4 mb cb co cc _ HM4.out 0 (by omega)).mono ?_
    rintro e w5 ⟨rfl, rfl⟩
    rw [show Vm.reg { Counts.St n 0 1 n 6 with stopped := 2 } 0 = 0 from rfl]
    go_wp2_with (go_at_call 16; refine (awake_any _).mono ?_; rintro e w9 ⟨rfl, h9⟩)
    all_goals
      go_ret
      exact ⟨rfl, HC4.out.then0 h9⟩
  · obtain ⟨p1, p2, p3, p4, p5, p6⟩ := HP.out (by omega)
    generalize hq0 : Vm.go F (Vm.ofImage (Counts.img n)) = q at *
    obtain ⟨u, s, m'⟩ := q
    dsimp only at p1 p2 p3 p4 p5 p6
    subst p1; subst p2
    have hq : Vm.fin (Vm.go u (Vm.ofImage (Counts.img n))) = (u, 1, m') := by rw [hq0]; rfl
    refine (run_from w2 mb cb co cc _ HM.out HG.out rfl u (by omega) _ _ _ hq).mono ?_
    rintro e w3 ⟨rfl, hm3, hc3⟩
    have HM3 := Lib.hid hm3
    have HC3 : Hid (Chg [] w w3) := Lib.hid (HC2.out.trans hc3 (fun x hx => .inr (by have := HMB.out; simp at hx; omega)))
    clear hm3 hc3 hq HM HA HP HC2 HG hq0
    have hfi : ¬ (2 + 4 * (n : Int) + 2 ≤ (u : Int)) := by omega
    obtain ⟨r0, h0⟩ : ∃ r, Vm.reg m' 0 = r := ⟨_, rfl⟩
    obtain ⟨r2, h2⟩ : ∃ r, Vm.reg m' 2 = r := ⟨_, rfl⟩
    rw [h0] at p3 p6
    rw [h2] at p4 p5 p6
    go_wp2_with fail
    refine (reg_in w3 mb cb co cc _ HM3.out 2 (by omega)).mono ?_
    rintro e w5 ⟨rfl, rfl⟩
    rw [h2]
    go_wp2_with fail
    refine (reg_in w3 mb cb co cc _ HM3.out 0 (by omega)).mono ?_
    rintro e w5 ⟨rfl, rfl⟩
    rw [h0]
    go_wp2_with fail
    refine (reg_in w3 mb cb co cc _ HM3.out 2 (by omega)).mono ?_
    rintro e w5 ⟨rfl, rfl⟩
    rw [h2]
    go_wp2_with (go_at_call 16; refine (awake_any _).mono ?_; rintro e w9 ⟨rfl, h9⟩)
    all_goals
      go_ret
      exact ⟨rfl, HC3.out.then0 h9⟩

end Go.Proofs.Ytocjdbenelikpaa
