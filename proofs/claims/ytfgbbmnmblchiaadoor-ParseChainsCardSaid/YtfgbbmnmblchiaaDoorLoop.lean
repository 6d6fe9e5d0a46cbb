/-
  A loop: walked.
-/
import Derived.Test.YtfgbbmnmblchiaaDoorGroup
namespace Go.Proofs.YtfgbbmnmblchiaaDoor
open Go.RowKit
set_option linter.unusedVariables false

section
variable {ts : List Lx.Tok} {cmd : Nat → Ps.Res Ps.Node} {p q r : Nat} {e : Int} {n m : Ps.Node}
theorem loopP_bad (h : Ps.listP ts cmd true p = .bad e q) : Ps.loopP ts cmd p = .bad e q := by simp [Ps.loopP, h]
theorem loopP_bad2 (h : Ps.listP ts cmd true p = .ok n q) (h2 : Ps.bodyP ts cmd q = .bad e r) : Ps.loopP ts cmd p = .bad e r := by simp [Ps.loopP, h, h2]
theorem loopP_ok (h : Ps.listP ts cmd true p = .ok n q) (h2 : Ps.bodyP ts cmd q = .ok m r) : Ps.loopP ts cmd p = .ok (Ps.node 7 [n, m]) r := by simp [Ps.loopP, h, h2]
end

set_option maxHeartbeats 8000000 in
set_option maxRecDepth 10000 in
theorem loop_any (pb : Nat) (a : Option Addr) (c : Nat) (ts : List Lx.Tok) (vs : List Value) (p deep : Nat) (cmd : Nat → Ps.Res Ps.Node) (hli : ListOk pb a c ts vs deep cmd) (w : World) (h : PS w pb a c ts vs p deep 0) :
    Calls Tryd.prog 80 #[.pointer (some ⟨pb, 0, none⟩)] w fun e w' => RdPost w pb a c ts vs deep (Ps.loopP ts cmd p) e w' := by
  have HB0 := Lib.hid (Base.start h)
  have HLI := Lib.hid hli
  clear h hli
  obtain ⟨C, hC⟩ : ∃ C, Ps.listP ts cmd true p = C := ⟨_, rfl⟩
  go_enter Tryd.func80, Tryd.ntmps80
  go_wp2_with fail
  refine (HLI.out true p _ HB0.out.ps).mono ?_
  rw [hC]
  cases C with
  | bad er q1 =>
    rintro e w1 ⟨cs, ⟨k1, s1, ka, wa, sa, ra, kn, kc, wn, wc, sn, sc, rn, rc, rfl⟩, rfl, hP, hC1⟩
    have HR := Lib.hid (loopP_bad hC)
    have HBD := Lib.hid (HB0.out.bad hC1 hP)
    obtain ⟨r0, r1, r2, r3, r4, r5, rf⟩ := node_cells_alloc HBD.out.rs
    clear hP hC1 hC
    go_wp2_with fail
    refine bodyPost_ret (v := .tuple #[.agg (nodeC 0 (.slice none 0 0)), .bool false]) (by simp [results, Tryd.results80, go_sem, nodeC, r0, r1, r2, r3, r4, r5]) rfl ?_
    rw [HR.out]
    refine HBD.out.fin ?_
    first | exact ((Chg.refl _ _).alloc _).six _ _ _ _ _ _ _ (.inl (by simp)) | exact ((Chg.refl _ _).six _ _ _ _ _ _ _ (.inl (by simp))).alloc _
  | ok n q1 =>
    rintro e w1 ⟨cs, hN, rfl, hP, hC1⟩
    obtain ⟨k1, s1, ka, wa, sa, ra, kn, kc, wn, wc, sn, sc, rn, rc, rfl⟩ := hN.Six
    have HB1 := Lib.hid (HB0.out.call hC1 hP)
    have hs1 := hC1.size
    have hs0 : (w.alloc (.cells (nodeC 0 (.slice none 0 0)) 30)).heap.size = w.heap.size + 1 := by simp
    have HN := Lib.hid (Sn.up hN (Nat.le_of_eq hs0.symm) (Nat.le_refl _))
    have HLE := Lib.hid (show w.heap.size + 1 ≤ w1.heap.size from by omega)
    clear hN hP hC1 hs1 hs0
    go_wp2_with fail
    have hal : Chg [] w1 (w1.alloc (.cells #[.int .i64 k1, .slice ka kn kc, .string (Lx.strB s1), .slice wa wn wc, .slice sa sn sc, .slice ra rn rc] 30)) := (Chg.refl [] w1).alloc _
    have hot := obj_alloc_new w1 (.cells #[.int .i64 k1, .slice ka kn kc, .string (Lx.strB s1), .slice wa wn wc, .slice sa sn sc, .slice ra rn rc] 30)
    have HB2 := Lib.hid (HB1.out.kept0 hal)
    have HN2 := Lib.hid (Sn.up (hold0 HN.out hal) (Nat.le_refl _) hal.size)
    have HT := Lib.hid (show w1.heap.size ≠ pb from by have := HB1.out.old.1; have := HLE.out; omega)
    have HLE2 := Lib.hid (Nat.le_trans HLE.out hal.size)
    clear hal
    generalize w1.alloc (.cells #[.int .i64 k1, .slice ka kn kc, .string (Lx.strB s1), .slice wa wn wc, .slice sa sn sc, .slice ra rn rc] 30) = w2 at *
    generalize w1.heap.size = tb at *
    refine (body_any pb a c ts vs q1 deep cmd HLI.out _ HB2.out.ps).mono ?_
    obtain ⟨D, hD⟩ : ∃ D, Ps.bodyP ts cmd q1 = D := ⟨_, rfl⟩
    rw [hD]
    cases D with
    | bad er q2 =>
      rintro e w3 ⟨cs2, ⟨k2, s2, ka2, wa2, sa2, ra2, kn2, kc2, wn2, wc2, sn2, sc2, rn2, rc2, rfl⟩, rfl, hP3, hC3⟩
      have HR := Lib.hid (loopP_bad2 hC hD)
      have HBD := Lib.hid ((HB2.out.bad hC3 hP3).kept0 ((Chg.refl [] w3).alloc (.cells #[.int .i64 k2, .slice ka2 kn2 kc2, .string (Lx.strB s2), .slice wa2 wn2 wc2, .slice sa2 sn2 sc2, .slice ra2 rn2 rc2] 30)))
      have hot2 := obj_alloc_new w3 (.cells #[.int .i64 k2, .slice ka2 kn2 kc2, .string (Lx.strB s2), .slice wa2 wn2 wc2, .slice sa2 sn2 sc2, .slice ra2 rn2 rc2] 30)
      have hot1 := obj_alloc_old (hC3.obj hot (by simpa using HT.out)) (.cells #[.int .i64 k2, .slice ka2 kn2 kc2, .string (Lx.strB s2), .slice wa2 wn2 wc2, .slice sa2 sn2 sc2, .slice ra2 rn2 rc2] 30)
      clear hP3 hC3 hC hD hot
      go_upto_region 5 with (fail)
      generalize w3.alloc (.cells #[.int .i64 k2, .slice ka2 kn2 kc2, .string (Lx.strB s2), .slice wa2 wn2 wc2, .slice sa2 sn2 sc2, .slice ra2 rn2 rc2] 30) = w4 at *
      obtain ⟨t0, t1, t2, t3, t4, t5, tf⟩ := six_cells hot1
      obtain ⟨u0, u1, u2, u3, u4, u5, uf⟩ := six_cells hot2
      obtain ⟨r0, r1, r2, r3, r4, r5, rf⟩ := node_cells_alloc HBD.out.rs
      clear hot1 hot2
      go_wp2_with fail
      refine bodyPost_ret (v := .tuple #[.agg (nodeC 7 (.slice (some ⟨w4.heap.size, 0, none⟩) 2 2)), .bool false]) (by simp [results, Tryd.results80, go_sem, nodeC, r0, r1, r2, r3, r4, r5]) rfl ?_
      rw [HR.out]
      refine HBD.out.fin6 ⟨7, [], _, none, none, none, _, _, 0, 0, 0, 0, 0, 0, rfl⟩ ?_
      exact ((Chg.refl _ _).alloc _).six _ _ _ _ _ _ _ (.inl (by simp))
    | ok m q2 =>
      rintro e w3 ⟨cs2, hM, rfl, hP3, hC3⟩
      obtain ⟨k2, s2, ka2, wa2, sa2, ra2, kn2, kc2, wn2, wc2, sn2, sc2, rn2, rc2, rfl⟩ := hM.Six
      have HR := Lib.hid (loopP_ok hC hD)
      have hal : Chg [] w3 (w3.alloc (.cells #[.int .i64 k2, .slice ka2 kn2 kc2, .string (Lx.strB s2), .slice wa2 wn2 wc2, .slice sa2 sn2 sc2, .slice ra2 rn2 rc2] 30)) := (Chg.refl [] w3).alloc _
      have HB4 := Lib.hid ((HB2.out.call hC3 hP3).kept0 hal)
      have hs3 := hC3.size
      have HN4 := Lib.hid (Sn.up (hold0 (HB2.out.hold (Nat.le_succ _) HN2.out hC3) hal) (Nat.le_refl _) (Nat.le_trans hs3 hal.size))
      have HM4 := Lib.hid (Sn.up (lo' := w.heap.size + 1) (hold0 hM hal) HLE2.out hal.size)
      have HLE4 := Lib.hid (Nat.le_trans HLE2.out (Nat.le_trans hs3 hal.size))
      have hot2 := obj_alloc_new w3 (.cells #[.int .i64 k2, .slice ka2 kn2 kc2, .string (Lx.strB s2), .slice wa2 wn2 wc2, .slice sa2 sn2 sc2, .slice ra2 rn2 rc2] 30)
      have hot1 := obj_alloc_old (hC3.obj hot (by simpa using HT.out)) (.cells #[.int .i64 k2, .slice ka2 kn2 kc2, .string (Lx.strB s2), .slice wa2 wn2 wc2, .slice sa2 sn2 sc2, .slice ra2 rn2 rc2] 30)
      clear hP3 hC3 hC hD hot hM hal hs3
      go_upto_region 5 with (fail)
      generalize w3.alloc (.cells #[.int .i64 k2, .slice ka2 kn2 kc2, .string (Lx.strB s2), .slice wa2 wn2 wc2, .slice sa2 sn2 sc2, .slice ra2 rn2 rc2] 30) = w4 at *
      obtain ⟨t0, t1, t2, t3, t4, t5, tf⟩ := six_cells hot1
      obtain ⟨u0, u1, u2, u3, u4, u5, uf⟩ := six_cells hot2
      obtain ⟨r0, r1, r2, r3, r4, r5, rf⟩ := node_cells_alloc HB4.out.rs
      have HW := Lib.hid (Chg.six ((Chg.refl [w.heap.size] w4).alloc (.cells #[.int .i64 k1, .slice ka kn kc, .string (Lx.strB s1), .slice wa wn wc, .slice sa sn sc, .slice ra rn rc, .int .i64 k2, .slice ka2 kn2 kc2, .string (Lx.strB s2), .slice wa2 wn2 wc2, .slice sa2 sn2 sc2, .slice ra2 rn2 rc2] 30)) w.heap.size (.int .i64 7) (.slice (some ⟨w4.heap.size, 0, none⟩) 2 2) (.string ⟨#[]⟩) (.slice none 0 0) (.slice none 0 0) (.slice none 0 0) (.inl (by simp)))
      have HKB2 := Lib.hid ((Chg.six (Chg.refl [w.heap.size] (w4.alloc (.cells #[.int .i64 k1, .slice ka kn kc, .string (Lx.strB s1), .slice wa wn wc, .slice sa sn sc, .slice ra rn rc, .int .i64 k2, .slice ka2 kn2 kc2, .string (Lx.strB s2), .slice wa2 wn2 wc2, .slice sa2 sn2 sc2, .slice ra2 rn2 rc2] 30))) w.heap.size (.int .i64 7) (.slice (some ⟨w4.heap.size, 0, none⟩) 2 2) (.string ⟨#[]⟩) (.slice none 0 0) (.slice none 0 0) (.slice none 0 0) (.inl (by simp))).obj (obj_alloc_new w4 _) (by have := HLE4.out; simp; omega))
      clear hot1 hot2
      go_wp2_with fail
      refine bodyPost_ret (v := .tuple #[.agg (nodeC 7 (.slice (some ⟨w4.heap.size, 0, none⟩) 2 2)), .bool true]) (by simp [results, Tryd.results80, go_sem, nodeC, r0, r1, r2, r3, r4, r5]) rfl ?_
      rw [HR.out]
      exact HB4.out.fin (ns := [n, m]) (m := 2) rfl (by decide) (by decide) (NodesAt.two HN4.out HM4.out) HW.out (by have := HLE4.out; omega) HKB2.out

end Go.Proofs.YtfgbbmnmblchiaaDoor
