/-
  A group; a loop's body: walked.
-/
import Derived.Test.YtfgbbmnmblchiaaDoorBase
namespace Go.Proofs.YtfgbbmnmblchiaaDoor
open Go.RowKit
set_option linter.unusedVariables false

/-- what a walk of 'list' says. -/
def ListOk (pb : Nat) (a : Option Addr) (c : Nat) (ts : List Lx.Tok) (vs : List Value) (deep : Nat) (cmd : Nat → Ps.Res Ps.Node) : Prop :=
  ∀ (sm : Bool) (p : Nat) (w : World), PS w pb a c ts vs p deep 0 → Calls Tryd.prog 13 #[.pointer (some ⟨pb, 0, none⟩), .bool sm] w fun e w' => RdPost w pb a c ts vs deep (Ps.listP ts cmd sm p) e w'

section
variable {ts : List Lx.Tok} {cmd : Nat → Ps.Res Ps.Node} {p q r : Nat} {e : Int} {n : Ps.Node}
theorem groupP_bad (h : Ps.listP ts cmd true p = .bad e q) : Ps.groupP ts cmd p = .bad e q := by simp [Ps.groupP, h]
theorem groupP_bad2 (h : Ps.listP ts cmd true p = .ok n q) (h2 : Ps.wantP ts q 2 [41] = .bad e r) : Ps.groupP ts cmd p = .bad e r := by simp [Ps.groupP, h, h2]
theorem groupP_ok {u : Unit} (h : Ps.listP ts cmd true p = .ok n q) (h2 : Ps.wantP ts q 2 [41] = .ok u r) : Ps.groupP ts cmd p = .ok (Ps.node 9 [n]) r := by simp [Ps.groupP, h, h2]
theorem bodyP_bad (h : Ps.wantP ts p 1 Ps.kwDo = .bad e q) : Ps.bodyP ts cmd p = .bad e q := by simp [Ps.bodyP, h]
theorem bodyP_bad2 {u : Unit} (h : Ps.wantP ts p 1 Ps.kwDo = .ok u q) (h2 : Ps.listP ts cmd true q = .bad e r) : Ps.bodyP ts cmd p = .bad e r := by simp [Ps.bodyP, h, h2]
theorem bodyP_bad3 {u : Unit} {s : Nat} (h : Ps.wantP ts p 1 Ps.kwDo = .ok u q) (h2 : Ps.listP ts cmd true q = .ok n r) (h3 : Ps.wantP ts r 1 Ps.kwDone = .bad e s) : Ps.bodyP ts cmd p = .bad e s := by simp [Ps.bodyP, h, h2, h3]
theorem bodyP_ok {u v : Unit} {s : Nat} (h : Ps.wantP ts p 1 Ps.kwDo = .ok u q) (h2 : Ps.listP ts cmd true q = .ok n r) (h3 : Ps.wantP ts r 1 Ps.kwDone = .ok v s) : Ps.bodyP ts cmd p = .ok n s := by simp [Ps.bodyP, h, h2, h3]
end

set_option maxHeartbeats 8000000 in
set_option maxRecDepth 10000 in
theorem group_any (pb : Nat) (a : Option Addr) (c : Nat) (ts : List Lx.Tok) (vs : List Value) (p deep : Nat) (cmd : Nat → Ps.Res Ps.Node) (hli : ListOk pb a c ts vs deep cmd) (w : World) (h : PS w pb a c ts vs p deep 0) :
    Calls Tryd.prog 78 #[.pointer (some ⟨pb, 0, none⟩)] w fun e w' => RdPost w pb a c ts vs deep (Ps.groupP ts cmd p) e w' := by
  have HB0 := Lib.hid (Base.start h)
  have HLI := Lib.hid hli
  clear h hli
  obtain ⟨C, hC⟩ : ∃ C, Ps.listP ts cmd true p = C := ⟨_, rfl⟩
  go_enter Tryd.func78, Tryd.ntmps78
  go_wp2_with fail
  refine (HLI.out true p _ HB0.out.ps).mono ?_
  rw [hC]
  cases C with
  | bad er q1 =>
    rintro e w1 ⟨cs, ⟨k1, s1, ka, wa, sa, ra, kn, kc, wn, wc, sn, sc, rn, rc, rfl⟩, rfl, hP, hC1⟩
    have HR := Lib.hid (groupP_bad hC)
    have HBD := Lib.hid (HB0.out.bad hC1 hP)
    obtain ⟨r0, r1, r2, r3, r4, r5, rf⟩ := node_cells_alloc HBD.out.rs
    clear hP hC1 hC
    go_wp2_with fail
    refine bodyPost_ret (v := .tuple #[.agg (nodeC 0 (.slice none 0 0)), .bool false]) (by simp [results, Tryd.results78, go_sem, nodeC, r0, r1, r2, r3, r4, r5]) rfl ?_
    rw [HR.out]
    refine HBD.out.fin ?_
    first | exact ((Chg.refl _ _).alloc _).six _ _ _ _ _ _ _ (.inl (by simp)) | exact ((Chg.refl _ _).six _ _ _ _ _ _ _ (.inl (by simp))).alloc _
  | ok n q1 =>
    rintro e w1 ⟨cs, hN, rfl, hP, hC1⟩
    obtain ⟨k1, s1, ka, wa, sa, ra, kn, kc, wn, wc, sn, sc, rn, rc, rfl⟩ := hN.Six
    have HB1 := Lib.hid (HB0.out.call hC1 hP)
    have hs1 := hC1.size
    have hs0 : (w.alloc (.cells (nodeC 0 (.slice none 0 0)) 30)).heap.size = w.heap.size + 1 := by simp
    have HN := Lib.hid (Sn.up hN (Nat.le_of_eq hs0.symm) (Nat.le_refl _))
    have HLE := Lib.hid (show w.heap.size + 1 ≤ w1.heap.size from by omega)
    clear hN hP hC1 hs1 hs0
    go_wp2_with fail
    have HB2 := Lib.hid (HB1.out.kept0 ((Chg.refl [] w1).alloc (.cells #[.int .i64 k1, .slice ka kn kc, .string (Lx.strB s1), .slice wa wn wc, .slice sa sn sc, .slice ra rn rc] 30)))
    refine (want_any pb a c ts vs q1 deep 2 [41] _ HB2.out.ps).mono ?_
    obtain ⟨D, hD⟩ : ∃ D, Ps.wantP ts q1 2 [41] = D := ⟨_, rfl⟩
    rw [hD]
    cases D with
    | bad er q2 =>
      rintro e w3 ⟨rfl, hP3, hC3⟩
      have HR := Lib.hid (groupP_bad2 hC hD)
      have HBD := Lib.hid (HB2.out.bad hC3 hP3)
      obtain ⟨r0, r1, r2, r3, r4, r5, rf⟩ := node_cells HBD.out.rs
      clear hP3 hC3 hC hD
      go_wp2_with fail
      refine bodyPost_ret (v := .tuple #[.agg (nodeC 0 (.slice none 0 0)), .bool false]) (by simp [results, Tryd.results78, go_sem, nodeC, r0, r1, r2, r3, r4, r5]) rfl ?_
      rw [HR.out]
      refine HBD.out.fin ?_
      exact (Chg.refl _ _).six _ _ _ _ _ _ _ (.inl (by simp))
    | ok u q2 =>
      rintro e w3 ⟨rfl, hP3, hC3⟩
      have HR := Lib.hid (groupP_ok hC hD)
      have HB3 := Lib.hid (HB2.out.call hC3 hP3)
      have hob := hC3.obj (obj_alloc_new w1 _) (by have := HB1.out.old.1; have := HLE.out; simp; omega)
      obtain ⟨t0, t1, t2, t3, t4, t5, tf⟩ := six_cells hob
      obtain ⟨r0, r1, r2, r3, r4, r5, rf⟩ := node_cells_alloc HB3.out.rs
      have hN3 := HB2.out.hold (lo := w.heap.size + 1) (by omega) (hold0 HN.out ((Chg.refl [] w1).alloc _)) hC3
      have hsz : w1.heap.size ≤ w3.heap.size := by have := hC3.size; simp at this; omega
      have HN3 := Lib.hid (Sn.up hN3 (Nat.le_refl _) hsz)
      have HKB := Lib.hid (show w.heap.size < w3.heap.size from by have := HLE.out; omega)
      have HW := Lib.hid (Chg.six ((Chg.refl [w.heap.size] w3).alloc (.cells #[.int .i64 k1, .slice ka kn kc, .string (Lx.strB s1), .slice wa wn wc, .slice sa sn sc, .slice ra rn rc] 30)) w.heap.size (.int .i64 9) (.slice (some ⟨w3.heap.size, 0, none⟩) 1 1) (.string ⟨#[]⟩) (.slice none 0 0) (.slice none 0 0) (.slice none 0 0) (.inl (by simp)))
      have HKB2 := Lib.hid ((Chg.six (Chg.refl [w.heap.size] (w3.alloc (.cells #[.int .i64 k1, .slice ka kn kc, .string (Lx.strB s1), .slice wa wn wc, .slice sa sn sc, .slice ra rn rc] 30))) w.heap.size (.int .i64 9) (.slice (some ⟨w3.heap.size, 0, none⟩) 1 1) (.string ⟨#[]⟩) (.slice none 0 0) (.slice none 0 0) (.slice none 0 0) (.inl (by simp))).obj (obj_alloc_new w3 _) (by have := HKB.out; simp; omega))
      clear hP3 hC3 hC hD hN3 hsz hob
      go_wp2_with fail
      refine bodyPost_ret (v := .tuple #[.agg (nodeC 9 (.slice (some ⟨w3.heap.size, 0, none⟩) 1 1)), .bool true]) (by simp [results, Tryd.results78, go_sem, nodeC, r0, r1, r2, r3, r4, r5]) rfl ?_
      rw [HR.out]
      exact HB3.out.fin (ns := [n]) (m := 1) rfl (by decide) (by decide) (NodesAt.of1 HN3.out) HW.out (Nat.le_of_lt HKB.out) HKB2.out

set_option maxHeartbeats 8000000 in
set_option maxRecDepth 10000 in
theorem body_any (pb : Nat) (a : Option Addr) (c : Nat) (ts : List Lx.Tok) (vs : List Value) (p deep : Nat) (cmd : Nat → Ps.Res Ps.Node) (hli : ListOk pb a c ts vs deep cmd) (w : World) (h : PS w pb a c ts vs p deep 0) :
    Calls Tryd.prog 89 #[.pointer (some ⟨pb, 0, none⟩)] w fun e w' => RdPost w pb a c ts vs deep (Ps.bodyP ts cmd p) e w' := by
  have HB0 := Lib.hid (Base.start h)
  have HLI := Lib.hid hli
  clear h hli
  obtain ⟨C, hC⟩ : ∃ C, Ps.wantP ts p 1 Ps.kwDo = C := ⟨_, rfl⟩
  go_enter Tryd.func89, Tryd.ntmps89
  go_wp2_with fail
  refine (want_any pb a c ts vs p deep 1 Ps.kwDo _ HB0.out.ps).mono ?_
  rw [hC]
  cases C with
  | bad er q1 =>
    rintro e w1 ⟨rfl, hP, hC1⟩
    have HR := Lib.hid (bodyP_bad (cmd := cmd) hC)
    have HBD := Lib.hid (HB0.out.bad hC1 hP)
    obtain ⟨r0, r1, r2, r3, r4, r5, rf⟩ := node_cells HBD.out.rs
    clear hP hC1 hC
    go_wp2_with fail
    refine bodyPost_ret (v := .tuple #[.agg (nodeC 0 (.slice none 0 0)), .bool false]) (by simp [results, Tryd.results89, go_sem, nodeC, r0, r1, r2, r3, r4, r5]) rfl ?_
    rw [HR.out]
    refine HBD.out.fin ?_
    exact (Chg.refl _ _).six _ _ _ _ _ _ _ (.inl (by simp))
  | ok u q1 =>
    rintro e w1 ⟨rfl, hP, hC1⟩
    have HB1 := Lib.hid (HB0.out.call hC1 hP)
    have HS1 := Lib.hid (show w.heap.size + 1 ≤ w1.heap.size from by have := hC1.size; simpa using this)
    obtain ⟨D, hD⟩ : ∃ D, Ps.listP ts cmd true q1 = D := ⟨_, rfl⟩
    clear hP hC1
    go_wp2_with fail
    refine (HLI.out true q1 _ HB1.out.ps).mono ?_
    rw [hD]
    cases D with
    | bad er q2 =>
      rintro e w3 ⟨cs, ⟨k1, s1, ka, wa, sa, ra, kn, kc, wn, wc, sn, sc, rn, rc, rfl⟩, rfl, hP3, hC3⟩
      have HR := Lib.hid (bodyP_bad2 hC hD)
      have HBD := Lib.hid ((HB1.out.bad hC3 hP3).kept0 ((Chg.refl [] w3).alloc (.cells #[.int .i64 k1, .slice ka kn kc, .string (Lx.strB s1), .slice wa wn wc, .slice sa sn sc, .slice ra rn rc] 30)))
      obtain ⟨r0, r1, r2, r3, r4, r5, rf⟩ := node_cells HBD.out.rs
      have hot := obj_alloc_new w3 (.cells #[.int .i64 k1, .slice ka kn kc, .string (Lx.strB s1), .slice wa wn wc, .slice sa sn sc, .slice ra rn rc] 30)
      obtain ⟨t0, t1, t2, t3, t4, t5, tf⟩ := six_cells hot
      clear hP3 hC3 hC hD
      go_upto_region 4 with (fail)
      generalize w3.alloc (.cells #[.int .i64 k1, .slice ka kn kc, .string (Lx.strB s1), .slice wa wn wc, .slice sa sn sc, .slice ra rn rc] 30) = w4 at *
      go_region
      all_goals
        go_wp2
        refine bodyPost_ret (v := .tuple #[.agg #[.int .i64 k1, .slice ka kn kc, .string (Lx.strB s1), .slice wa wn wc, .slice sa sn sc, .slice ra rn rc], .bool false]) (by simp [results, Tryd.results89, go_sem, r0, r1, r2, r3, r4, r5]) rfl ?_
        rw [HR.out]
        refine HBD.out.fin6 ⟨_, _, _, _, _, _, _, _, _, _, _, _, _, _, rfl⟩ ?_
        exact ((Chg.refl _ _).six _ _ _ _ _ _ _ (.inl (by simp))).drew
    | ok n q2 =>
      rintro e w3 ⟨cs, hN, rfl, hP3, hC3⟩
      obtain ⟨k1, s1, ka, wa, sa, ra, kn, kc, wn, wc, sn, sc, rn, rc, rfl⟩ := hN.Six
      have HB3 := Lib.hid (HB1.out.call hC3 hP3)
      have HS3 := Lib.hid (show w1.heap.size ≤ w3.heap.size from hC3.size)
      have HN3 := Lib.hid (Sn.up (lo' := w.heap.size + 1) hN HS1.out (Nat.le_refl _))
      obtain ⟨E, hE⟩ : ∃ E, Ps.wantP ts q2 1 Ps.kwDone = E := ⟨_, rfl⟩
      have hot := obj_alloc_new w3 (.cells #[.int .i64 k1, .slice ka kn kc, .string (Lx.strB s1), .slice wa wn wc, .slice sa sn sc, .slice ra rn rc] 30)
      obtain ⟨t0, t1, t2, t3, t4, t5, tf⟩ := six_cells hot
      have HB4 := Lib.hid (HB3.out.kept0 ((Chg.refl [] w3).alloc (.cells #[.int .i64 k1, .slice ka kn kc, .string (Lx.strB s1), .slice wa wn wc, .slice sa sn sc, .slice ra rn rc] 30)))
      have HN4 := Lib.hid (Sn.up (hold0 HN3.out ((Chg.refl [] w3).alloc (.cells #[.int .i64 k1, .slice ka kn kc, .string (Lx.strB s1), .slice wa wn wc, .slice sa sn sc, .slice ra rn rc] 30))) (Nat.le_refl _) (((Chg.refl [] w3).alloc (.cells #[.int .i64 k1, .slice ka kn kc, .string (Lx.strB s1), .slice wa wn wc, .slice sa sn sc, .slice ra rn rc] 30)).size))
      have HT := Lib.hid (show w3.heap.size ≠ pb from by have := HB3.out.old.1; have := HS1.out; have := HS3.out; omega)
      obtain ⟨r0, r1, r2, r3, r4, r5, rf⟩ := node_cells HB4.out.rs
      have HWN := Lib.hid (fun (W : World) (h : PS W pb a c ts vs q2 deep 0) => want_any pb a c ts vs q2 deep 1 Ps.kwDone W h)
      rw [hE] at HWN
      clear hN hP3 hC3 hot
      go_upto_region 4 with (fail)
      generalize w3.alloc (.cells #[.int .i64 k1, .slice ka kn kc, .string (Lx.strB s1), .slice wa wn wc, .slice sa sn sc, .slice ra rn rc] 30) = w4 at *
      generalize w3.heap.size = tb at *
      cases E with
      | bad er q4 =>
        have HR := Lib.hid (bodyP_bad3 hC hD hE)
        clear hC hD hE
        go_region_law ((first | (go_simp; refine (HWN.out _ (HB4.out.ps.chg0 (Chg.refl [] _).drew)).mono ?_; rintro e w5 ⟨rfl, hP5, hC5⟩; have u0 := hC5.cell t0 (by simpa using HT.out); have u1 := hC5.cell t1 (by simpa using HT.out); have u2 := hC5.cell t2 (by simpa using HT.out); have u3 := hC5.cell t3 (by simpa using HT.out); have u4 := hC5.cell t4 (by simpa using HT.out); have u5 := hC5.cell t5 (by simpa using HT.out); have HBD := Lib.hid (HB4.out.bad hC5.drew0 hP5); obtain ⟨y0, y1, y2, y3, y4, y5, yf⟩ := node_cells HBD.out.rs; clear hP5 hC5)))
        all_goals
          go_wp2
          refine bodyPost_ret (v := .tuple #[.agg #[.int .i64 k1, .slice ka kn kc, .string (Lx.strB s1), .slice wa wn wc, .slice sa sn sc, .slice ra rn rc], .bool false]) (by simp [results, Tryd.results89, go_sem, y0, y1, y2, y3, y4, y5]) rfl ?_
          rw [HR.out]
          refine HBD.out.fin6 ⟨_, _, _, _, _, _, _, _, _, _, _, _, _, _, rfl⟩ ?_
          first | exact (Chg.refl _ _).six _ _ _ _ _ _ _ (.inl (by simp)) | exact ((Chg.refl _ _).six _ _ _ _ _ _ _ (.inl (by simp))).drew
      | ok u4 q4 =>
        have HR := Lib.hid (bodyP_ok hC hD hE)
        clear hC hD hE
        go_region_law ((first | (go_simp; refine (HWN.out _ (HB4.out.ps.chg0 (Chg.refl [] _).drew)).mono ?_; rintro e w5 ⟨rfl, hP5, hC5⟩; have u0 := hC5.cell t0 (by simpa using HT.out); have u1 := hC5.cell t1 (by simpa using HT.out); have u2 := hC5.cell t2 (by simpa using HT.out); have u3 := hC5.cell t3 (by simpa using HT.out); have u4 := hC5.cell t4 (by simpa using HT.out); have u5 := hC5.cell t5 (by simpa using HT.out); have HB5 := Lib.hid (HB4.out.call hC5.drew0 hP5); have HN5 := Lib.hid (Sn.up (HB4.out.hold (Nat.le_succ _) HN4.out hC5.drew0) (Nat.le_refl _) hC5.drew0.size); obtain ⟨y0, y1, y2, y3, y4, y5, yf⟩ := node_cells HB5.out.rs; clear hP5 hC5)))
        all_goals
          go_wp2
          refine bodyPost_ret (v := .tuple #[.agg #[.int .i64 k1, .slice ka kn kc, .string (Lx.strB s1), .slice wa wn wc, .slice sa sn sc, .slice ra rn rc], .bool true]) (by simp [results, Tryd.results89, go_sem, y0, y1, y2, y3, y4, y5]) rfl ?_
          rw [HR.out]
          refine HB5.out.finT HN5.out ?_
          first | exact (Chg.refl _ _).six _ _ _ _ _ _ _ (.inl (by simp)) | exact ((Chg.refl _ _).six _ _ _ _ _ _ _ (.inl (by simp))).drew

end Go.Proofs.YtfgbbmnmblchiaaDoor
