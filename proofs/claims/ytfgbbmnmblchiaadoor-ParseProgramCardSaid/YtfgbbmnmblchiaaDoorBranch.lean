/-
  An if: walked.
-/
import Derived.Test.YtfgbbmnmblchiaaDoorPm05
namespace Go.Proofs.YtfgbbmnmblchiaaDoor
open Go.RowKit
set_option linter.unusedVariables false

section
variable {ts : List Lx.Tok} {cmd : Nat → Ps.Res Ps.Node} {p q r s t u : Nat} {e : Int} {x y z : Ps.Node} {v v2 : Unit}
theorem branchP_1 (h : Ps.listP ts cmd true p = .bad e q) : Ps.branchP ts cmd p = .bad e q := by simp [Ps.branchP, h]
theorem branchP_2 (h : Ps.listP ts cmd true p = .ok x q) (h2 : Ps.wantP ts q 1 Ps.kwThen = .bad e r) : Ps.branchP ts cmd p = .bad e r := by simp [Ps.branchP, h, h2]
theorem branchP_3 (h : Ps.listP ts cmd true p = .ok x q) (h2 : Ps.wantP ts q 1 Ps.kwThen = .ok v r) (h3 : Ps.listP ts cmd true r = .bad e s) : Ps.branchP ts cmd p = .bad e s := by simp [Ps.branchP, h, h2, h3]
theorem branchP_4 (h : Ps.listP ts cmd true p = .ok x q) (h2 : Ps.wantP ts q 1 Ps.kwThen = .ok v r) (h3 : Ps.listP ts cmd true r = .ok y s) (h4 : Ps.isT ts s 1 Ps.kwElse = true) (h5 : Ps.listP ts cmd true (s + 1) = .bad e t) : Ps.branchP ts cmd p = .bad e t := by simp [Ps.branchP, h, h2, h3, h4, h5]
theorem branchP_5 (h : Ps.listP ts cmd true p = .ok x q) (h2 : Ps.wantP ts q 1 Ps.kwThen = .ok v r) (h3 : Ps.listP ts cmd true r = .ok y s) (h4 : Ps.isT ts s 1 Ps.kwElse = true) (h5 : Ps.listP ts cmd true (s + 1) = .ok z t) (h6 : Ps.wantP ts t 1 Ps.kwFi = .bad e u) : Ps.branchP ts cmd p = .bad e u := by simp [Ps.branchP, h, h2, h3, h4, h5, h6]
theorem branchP_6 (h : Ps.listP ts cmd true p = .ok x q) (h2 : Ps.wantP ts q 1 Ps.kwThen = .ok v r) (h3 : Ps.listP ts cmd true r = .ok y s) (h4 : Ps.isT ts s 1 Ps.kwElse = true) (h5 : Ps.listP ts cmd true (s + 1) = .ok z t) (h6 : Ps.wantP ts t 1 Ps.kwFi = .ok v2 u) : Ps.branchP ts cmd p = .ok (Ps.node 6 [x, y, z]) u := by simp [Ps.branchP, h, h2, h3, h4, h5, h6]
theorem branchP_7 (h : Ps.listP ts cmd true p = .ok x q) (h2 : Ps.wantP ts q 1 Ps.kwThen = .ok v r) (h3 : Ps.listP ts cmd true r = .ok y s) (h4 : Ps.isT ts s 1 Ps.kwElse = false) (h6 : Ps.wantP ts s 1 Ps.kwFi = .bad e u) : Ps.branchP ts cmd p = .bad e u := by simp [Ps.branchP, h, h2, h3, h4, h6]
theorem branchP_8 (h : Ps.listP ts cmd true p = .ok x q) (h2 : Ps.wantP ts q 1 Ps.kwThen = .ok v r) (h3 : Ps.listP ts cmd true r = .ok y s) (h4 : Ps.isT ts s 1 Ps.kwElse = false) (h6 : Ps.wantP ts s 1 Ps.kwFi = .ok v2 u) : Ps.branchP ts cmd p = .ok (Ps.node 6 [x, y]) u := by simp [Ps.branchP, h, h2, h3, h4, h6]
end

theorem Base.holdF {w wr w' : World} {pb : Nat} {a : Option Addr} {c : Nat} {ts : List Lx.Tok} {vs : List Value} {q deep : Nat} {n : Ps.Node} {cs : List Value} (h : Base w pb a c ts vs q deep wr) {lo hi b : Nat} (hn : NodeAt wr (Sn (.slice a ts.length c) vs lo hi) n cs) (hc : Chg [b] wr w') (hb : w.heap.size ≤ b) (hb2 : b < lo ∨ hi ≤ b) : NodeAt w' (Sn (.slice a ts.length c) vs lo hi) n cs :=
  NodeAt.kept hc (fun j hj hS => by
    simp at hj; subst hj
    rcases hS with h1 | h1
    · have := h.old.2 _ h1; omega
    · omega) _ _ hn

theorem Base.turn {w wr w' : World} {pb : Nat} {a : Option Addr} {c : Nat} {ts : List Lx.Tok} {vs : List Value} {q deep : Nat} (h : Base w pb a c ts vs q deep wr) {b : Nat} (hc : Chg [b] wr w') (hb : w.heap.size < b) : Base w pb a c ts vs q deep w' :=
  { h with
    ps := h.ps.chg hc (fun j hj => by simp at hj; subst hj; exact ⟨by have := h.old.1; omega, fun ht => by have := h.old.2 _ ht; omega⟩)
    rs := hc.obj h.rs (by simp; omega)
    chg := h.chg.trans hc (fun x hx => .inr (by simp at hx; omega)) }

/-- the end of an if: the node in its block, 'fi', both handed back. -/
def BranchEnd (w : World) (pb : Nat) (a : Option Addr) (c : Nat) (ts : List Lx.Tok) (vs : List Value) (deep : Nat) (cmd : Nat → Ps.Res Ps.Node) (p : Nat) : Prop := True

set_option maxHeartbeats 8000000 in
set_option maxRecDepth 10000 in
theorem branch_any (pb : Nat) (a : Option Addr) (c : Nat) (ts : List Lx.Tok) (vs : List Value) (p deep : Nat) (cmd : Nat → Ps.Res Ps.Node) (hli : ListOk pb a c ts vs deep cmd) (w : World) (h : PS w pb a c ts vs p deep 0) :
    Calls Tryd.prog 79 #[.pointer (some ⟨pb, 0, none⟩)] w fun e w' => RdPost w pb a c ts vs deep (Ps.branchP ts cmd p) e w' := by
  have HB0 := Lib.hid (Base.start h)
  have HLI := Lib.hid hli
  clear h hli
  obtain ⟨C, hC⟩ : ∃ C, Ps.listP ts cmd true p = C := ⟨_, rfl⟩
  go_enter Tryd.func79, Tryd.ntmps79
  go_wp2_with fail
  refine (HLI.out true p _ HB0.out.ps).mono ?_
  rw [hC]
  cases C with
  | bad er q1 =>
    rintro e w1 ⟨cs, ⟨k1, s1, ka1, wa1, sa1, ra1, kn1, kc1, wn1, wc1, sn1, sc1, rn1, rc1, rfl⟩, rfl, hP, hC1⟩
    have HR := Lib.hid (branchP_1 hC)
    have HBD := Lib.hid (HB0.out.bad hC1 hP)
    obtain ⟨r0, r1, r2, r3, r4, r5, rf⟩ := node_cells_alloc HBD.out.rs
    clear hP hC1 hC
    go_wp2_with fail
    refine bodyPost_ret (v := .tuple #[.agg (nodeC 0 (.slice none 0 0)), .bool false]) (by simp [results, Tryd.results79, go_sem, nodeC, r0, r1, r2, r3, r4, r5]) rfl ?_
    rw [HR.out]
    refine HBD.out.fin ?_
    exact ((Chg.refl _ _).alloc _).six _ _ _ _ _ _ _ (.inl (by simp))
  | ok x q1 =>
    rintro e w1 ⟨cs, hN, rfl, hP, hC1⟩
    obtain ⟨k1, s1, ka1, wa1, sa1, ra1, kn1, kc1, wn1, wc1, sn1, sc1, rn1, rc1, rfl⟩ := hN.Six
    have hs0 : (w.alloc (.cells (nodeC 0 (.slice none 0 0)) 30)).heap.size = w.heap.size + 1 := by simp
    have hal : Chg [] w1 (w1.alloc (.cells #[.int .i64 k1, .slice ka1 kn1 kc1, .string (Lx.strB s1), .slice wa1 wn1 wc1, .slice sa1 sn1 sc1, .slice ra1 rn1 rc1] 30)) := (Chg.refl [] w1).alloc _
    have HB2 := Lib.hid ((HB0.out.call hC1 hP).kept0 hal)
    have HLE := Lib.hid (show w.heap.size + 1 ≤ w1.heap.size from by have := hC1.size; omega)
    have HLE2 := Lib.hid (Nat.le_trans HLE.out hal.size)
    have HX2 := Lib.hid (Sn.up (hold0 (Sn.up hN (Nat.le_of_eq hs0.symm) (Nat.le_refl _)) hal) (Nat.le_refl _) hal.size)
    have hot := obj_alloc_new w1 (.cells #[.int .i64 k1, .slice ka1 kn1 kc1, .string (Lx.strB s1), .slice wa1 wn1 wc1, .slice sa1 sn1 sc1, .slice ra1 rn1 rc1] 30)
    have HT := Lib.hid (show w1.heap.size ≠ pb from by have := HB2.out.old.1; have := HLE.out; omega)
    have HT2 := Lib.hid (show w.heap.size + 1 ≤ w1.heap.size from HLE.out)
    clear hN hP hC1 hs0 hal HLE
    go_wp2_with fail
    generalize w1.alloc (.cells #[.int .i64 k1, .slice ka1 kn1 kc1, .string (Lx.strB s1), .slice wa1 wn1 wc1, .slice sa1 sn1 sc1, .slice ra1 rn1 rc1] 30) = w2 at *
    generalize w1.heap.size = tb at *
    refine (want_any pb a c ts vs q1 deep 1 Ps.kwThen _ HB2.out.ps).mono ?_
    obtain ⟨D, hD⟩ : ∃ D, Ps.wantP ts q1 1 Ps.kwThen = D := ⟨_, rfl⟩
    rw [hD]
    cases D with
    | bad er q2 =>
      rintro e w3 ⟨rfl, hP3, hC3⟩
      have HR := Lib.hid (branchP_2 hC hD)
      have HBD := Lib.hid (HB2.out.bad hC3 hP3)
      obtain ⟨r0, r1, r2, r3, r4, r5, rf⟩ := node_cells HBD.out.rs
      clear hP3 hC3 hC hD
      go_wp2_with fail
      refine bodyPost_ret (v := .tuple #[.agg (nodeC 0 (.slice none 0 0)), .bool false]) (by simp [results, Tryd.results79, go_sem, nodeC, r0, r1, r2, r3, r4, r5]) rfl ?_
      rw [HR.out]
      refine HBD.out.fin ?_
      exact (Chg.refl _ _).six _ _ _ _ _ _ _ (.inl (by simp))
    | ok u q2 =>
      rintro e w3 ⟨rfl, hP3, hC3⟩
      have HB3 := Lib.hid (HB2.out.call hC3 hP3)
      have HX3 := Lib.hid (Sn.up (HB2.out.hold (Nat.le_succ _) HX2.out hC3) (Nat.le_refl _) hC3.size)
      have HLE3 := Lib.hid (Nat.le_trans HLE2.out hC3.size)
      have hot3 := hC3.obj hot (by simpa using HT.out)
      obtain ⟨E, hE⟩ : ∃ E, Ps.listP ts cmd true q2 = E := ⟨_, rfl⟩
      clear hP3 hC3 hot
      go_wp2_with fail
      refine (HLI.out true q2 _ HB3.out.ps).mono ?_
      rw [hE]
      cases E with
      | bad er q3 =>
        rintro e w4 ⟨cs2, ⟨k2, s2, ka2, wa2, sa2, ra2, kn2, kc2, wn2, wc2, sn2, sc2, rn2, rc2, rfl⟩, rfl, hP4, hC4⟩
        have HR := Lib.hid (branchP_3 hC hD hE)
        have HBD := Lib.hid (HB3.out.bad hC4 hP4)
        obtain ⟨r0, r1, r2, r3, r4, r5, rf⟩ := node_cells_alloc HBD.out.rs
        clear hP4 hC4 hC hD hE
        go_wp2_with fail
        refine bodyPost_ret (v := .tuple #[.agg (nodeC 0 (.slice none 0 0)), .bool false]) (by simp [results, Tryd.results79, go_sem, nodeC, r0, r1, r2, r3, r4, r5]) rfl ?_
        rw [HR.out]
        refine HBD.out.fin ?_
        exact ((Chg.refl _ _).alloc _).six _ _ _ _ _ _ _ (.inl (by simp))
      | ok y q3 =>
        rintro e w4 ⟨cs2, hM, rfl, hP4, hC4⟩
        obtain ⟨k2, s2, ka2, wa2, sa2, ra2, kn2, kc2, wn2, wc2, sn2, sc2, rn2, rc2, rfl⟩ := hM.Six
        have hal : Chg [] w4 (w4.alloc (.cells #[.int .i64 k2, .slice ka2 kn2 kc2, .string (Lx.strB s2), .slice wa2 wn2 wc2, .slice sa2 sn2 sc2, .slice ra2 rn2 rc2] 30)) := (Chg.refl [] w4).alloc _
        have HB5 := Lib.hid ((HB3.out.call hC4 hP4).kept0 hal)
        have HX5 := Lib.hid (Sn.up (hold0 (HB3.out.hold (Nat.le_succ _) HX3.out hC4) hal) (Nat.le_refl _) (Nat.le_trans hC4.size hal.size))
        have HY5 := Lib.hid (Sn.up (lo' := w.heap.size + 1) (hold0 hM hal) HLE3.out hal.size)
        have HLE5 := Lib.hid (Nat.le_trans HLE3.out (Nat.le_trans hC4.size hal.size))
        have hot5 := obj_alloc_old (hC4.obj hot3 (by simpa using HT.out)) (.cells #[.int .i64 k2, .slice ka2 kn2 kc2, .string (Lx.strB s2), .slice wa2 wn2 wc2, .slice sa2 sn2 sc2, .slice ra2 rn2 rc2] 30)
        have hoy5 := obj_alloc_new w4 (.cells #[.int .i64 k2, .slice ka2 kn2 kc2, .string (Lx.strB s2), .slice wa2 wn2 wc2, .slice sa2 sn2 sc2, .slice ra2 rn2 rc2] 30)
        have HT5 := Lib.hid (show w4.heap.size ≠ pb from by have := HB3.out.old.1; have := HLE3.out; have := hC4.size; omega)
        have HT6 := Lib.hid (show w.heap.size + 1 ≤ w4.heap.size from by have := HLE3.out; have := hC4.size; omega)
        clear hP4 hC4 hM hal hot3
        go_upto_region 7 with (fail)
        generalize w4.alloc (.cells #[.int .i64 k2, .slice ka2 kn2 kc2, .string (Lx.strB s2), .slice wa2 wn2 wc2, .slice sa2 sn2 sc2, .slice ra2 rn2 rc2] 30) = w5 at *
        generalize w4.heap.size = tb2 at *
        obtain ⟨t0, t1, t2, t3, t4, t5, tf⟩ := six_cells hot5
        obtain ⟨u0, u1, u2, u3, u4, u5, uf⟩ := six_cells hoy5
        go_upto_region 8 with (fail)
        have hal : Chg [] w5 ((w5.alloc (.cells #[.int .i64 k1, .slice ka1 kn1 kc1, .string (Lx.strB s1), .slice wa1 wn1 wc1, .slice sa1 sn1 sc1, .slice ra1 rn1 rc1, .int .i64 k2, .slice ka2 kn2 kc2, .string (Lx.strB s2), .slice wa2 wn2 wc2, .slice sa2 sn2 sc2, .slice ra2 rn2 rc2] 30)).alloc (.cells (nodeC 6 (.slice (some ⟨w5.heap.size, 0, none⟩) 2 2)) 30)) := ((Chg.refl [] w5).alloc _).alloc _
        have hsz : (w5.alloc (.cells #[.int .i64 k1, .slice ka1 kn1 kc1, .string (Lx.strB s1), .slice wa1 wn1 wc1, .slice sa1 sn1 sc1, .slice ra1 rn1 rc1, .int .i64 k2, .slice ka2 kn2 kc2, .string (Lx.strB s2), .slice wa2 wn2 wc2, .slice sa2 sn2 sc2, .slice ra2 rn2 rc2] 30)).heap.size = w5.heap.size + 1 := by simp
        have HB6 := Lib.hid (HB5.out.kept0 hal)
        have HX6 := Lib.hid (hold0 HX5.out hal)
        have HY6 := Lib.hid (hold0 HY5.out hal)
        have ho7 := obj_alloc_new (w5.alloc (.cells #[.int .i64 k1, .slice ka1 kn1 kc1, .string (Lx.strB s1), .slice wa1 wn1 wc1, .slice sa1 sn1 sc1, .slice ra1 rn1 rc1, .int .i64 k2, .slice ka2 kn2 kc2, .string (Lx.strB s2), .slice wa2 wn2 wc2, .slice sa2 sn2 sc2, .slice ra2 rn2 rc2] 30)) (.cells (nodeC 6 (.slice (some ⟨w5.heap.size, 0, none⟩) 2 2)) 30)
        rw [hsz] at ho7
        have HO7 := Lib.hid ho7
        have HKB := Lib.hid (obj_alloc_old (obj_alloc_new w5 (.cells #[.int .i64 k1, .slice ka1 kn1 kc1, .string (Lx.strB s1), .slice wa1 wn1 wc1, .slice sa1 sn1 sc1, .slice ra1 rn1 rc1, .int .i64 k2, .slice ka2 kn2 kc2, .string (Lx.strB s2), .slice wa2 wn2 wc2, .slice sa2 sn2 sc2, .slice ra2 rn2 rc2] 30)) (.cells (nodeC 6 (.slice (some ⟨w5.heap.size, 0, none⟩) 2 2)) 30))
        have HOT6 := Lib.hid (hal.obj hot5 (by simp))
        have HOY6 := Lib.hid (hal.obj hoy5 (by simp))
        have HT7 := Lib.hid (show w5.heap.size + 1 ≠ pb from by have := HB5.out.old.1; have := HLE5.out; omega)
        have HT8 := Lib.hid (show w5.heap.size ≠ pb from by have := HB5.out.old.1; have := HLE5.out; omega)
        have HT9 := Lib.hid (show w.heap.size + 1 ≤ w5.heap.size from HLE5.out)
        have HL6 := Lib.hid (show w5.heap.size + 1 < ((w5.alloc (.cells #[.int .i64 k1, .slice ka1 kn1 kc1, .string (Lx.strB s1), .slice wa1 wn1 wc1, .slice sa1 sn1 sc1, .slice ra1 rn1 rc1, .int .i64 k2, .slice ka2 kn2 kc2, .string (Lx.strB s2), .slice wa2 wn2 wc2, .slice sa2 sn2 sc2, .slice ra2 rn2 rc2] 30)).alloc (.cells (nodeC 6 (.slice (some ⟨w5.heap.size, 0, none⟩) 2 2)) 30)).heap.size from lt_of_obj ho7)
        clear hal hsz ho7 hot5 hoy5 t0 t1 t2 t3 t4 t5 tf u0 u1 u2 u3 u4 u5 uf HB0 HB2 HB3 HX2 HX3
        simp only [nodeC] at HO7 HKB HB6 HX6 HY6 HOT6 HOY6 HL6
        generalize ((w5.alloc (.cells #[.int .i64 k1, .slice ka1 kn1 kc1, .string (Lx.strB s1), .slice wa1 wn1 wc1, .slice sa1 sn1 sc1, .slice ra1 rn1 rc1, .int .i64 k2, .slice ka2 kn2 kc2, .string (Lx.strB s2), .slice wa2 wn2 wc2, .slice sa2 sn2 sc2, .slice ra2 rn2 rc2] 30)).alloc (.cells #[.int .i64 6, .slice (some ⟨w5.heap.size, 0, none⟩) 2 2, .string ⟨#[]⟩, .slice none 0 0, .slice none 0 0, .slice none 0 0] 30)) = w6 at *
        have IS := fun (x : Bool) (hx : Ps.isT ts q3 1 Ps.kwElse = x) => hx ▸ is_any pb a c ts vs q3 deep 0 1 Ps.kwElse _ HB6.out.ps
        cases hF : Ps.isT ts q3 1 Ps.kwElse with
        | true =>
          have hlt := isT_lt hF
          have IS1 := Lib.hid (IS _ hF)
          clear IS
          go_wp2_with fail
          refine IS1.out.mono ?_
          rintro e w7 ⟨rfl, n1, rfl⟩
          have hdr : Chg [] w6 (w6.drewN n1) := (Chg.refl [] w6).drewN n1
          have HB7 := Lib.hid (HB6.out.kept0 hdr)
          have HX7 := Lib.hid (hold0 HX6.out hdr)
          have HY7 := Lib.hid (hold0 HY6.out hdr)
          have HO7 := Lib.hid (hdr.obj HO7.out (by simp))
          have HOT7 := Lib.hid (hdr.obj HOT6.out (by simp))
          have HOY7 := Lib.hid (hdr.obj HOY6.out (by simp))
          have HL7 := Lib.hid (show w5.heap.size + 1 < (w6.drewN n1).heap.size from HL6.out)
          clear hdr HB6 HX6 HY6 HOT6 HOY6 HL6 HKB
          generalize w6.drewN n1 = w7 at *
          have x1 := HB7.out.ps.c1
          have hb0 : (0 : Int) ≤ (q3 : Int) := by omega
          have hb1 : (q3 : Int) ≤ 100000 := by have := HB7.out.ps.few; omega
          have f1 := HB7.out.ps.free 1
          go_wp2_with fail
          have hset : Chg [pb] w7 (w7.setCell ⟨pb, 1, none⟩ (.int .i64 ((q3 : Int) + 1))) := Chg.setP _ _ _ _
          have HB8 := Lib.hid (HB7.out.setAt ((q3 : Int) + 1) (by omega) (by omega))
          have HX8 := Lib.hid (HB7.out.hold (Nat.le_succ _) HX7.out hset)
          have HY8 := Lib.hid (HB7.out.hold (Nat.le_succ _) HY7.out hset)
          have HO8 := Lib.hid (hset.obj HO7.out (by have := HT7.out; simp; omega))
          have HOT8 := Lib.hid (hset.obj HOT7.out (by have := HT.out; simp; omega))
          have HOY8 := Lib.hid (hset.obj HOY7.out (by have := HT5.out; simp; omega))
          have HL8 := Lib.hid (show w5.heap.size + 1 < (w7.setCell ⟨pb, 1, none⟩ (.int .i64 ((q3 : Int) + 1))).heap.size from by have := HL7.out; have := hset.size; omega)
          clear hset x1 f1 HB7 HX7 HY7 HO7 HOT7 HOY7 HL7
          generalize w7.setCell ⟨pb, 1, none⟩ (.int .i64 ((q3 : Int) + 1)) = w8 at *
          refine (HLI.out true (q3 + 1) _ HB8.out.ps).mono ?_
          obtain ⟨H, hH⟩ : ∃ H, Ps.listP ts cmd true (q3 + 1) = H := ⟨_, rfl⟩
          rw [hH]
          cases H with
          | bad er q4 =>
            rintro e w9 ⟨cs3, ⟨k3, s3, ka3, wa3, sa3, ra3, kn3, kc3, wn3, wc3, sn3, sc3, rn3, rc3, rfl⟩, rfl, hP9, hC9⟩
            have HR := Lib.hid (branchP_4 hC hD hE hF hH)
            have HBD := Lib.hid (HB8.out.bad hC9 hP9)
            obtain ⟨r0, r1, r2, r3, r4, r5, rf⟩ := node_cells_alloc HBD.out.rs
            clear hP9 hC9 hC hD hE hF hH
            go_wp2_with fail
            refine bodyPost_ret (v := .tuple #[.agg (nodeC 0 (.slice none 0 0)), .bool false]) (by simp [results, Tryd.results79, go_sem, nodeC, r0, r1, r2, r3, r4, r5]) rfl ?_
            rw [HR.out]
            refine HBD.out.fin ?_
            exact ((Chg.refl _ _).alloc _).six _ _ _ _ _ _ _ (.inl (by simp))
          | ok z q4 =>
            rintro e w9 ⟨cs3, hZ, rfl, hP9, hC9⟩
            obtain ⟨k3, s3, ka3, wa3, sa3, ra3, kn3, kc3, wn3, wc3, sn3, sc3, rn3, rc3, rfl⟩ := hZ.Six
            have hal : Chg [] w9 (w9.alloc (.cells #[.int .i64 k3, .slice ka3 kn3 kc3, .string (Lx.strB s3), .slice wa3 wn3 wc3, .slice sa3 sn3 sc3, .slice ra3 rn3 rc3] 30)) := (Chg.refl [] w9).alloc _
            have HB10 := Lib.hid ((HB8.out.call hC9 hP9).kept0 hal)
            have HX10 := Lib.hid (hold0 (HB8.out.hold (Nat.le_succ _) HX8.out hC9) hal)
            have HY10 := Lib.hid (hold0 (HB8.out.hold (Nat.le_succ _) HY8.out hC9) hal)
            have HZ10 := Lib.hid (hold0 hZ hal)
            have ho10 := obj_alloc_old (hC9.obj HO8.out (by have := HT7.out; simp; omega)) (.cells #[.int .i64 k3, .slice ka3 kn3 kc3, .string (Lx.strB s3), .slice wa3 wn3 wc3, .slice sa3 sn3 sc3, .slice ra3 rn3 rc3] 30)
            have hot10 := obj_alloc_old (hC9.obj HOT8.out (by have := HT.out; simp; omega)) (.cells #[.int .i64 k3, .slice ka3 kn3 kc3, .string (Lx.strB s3), .slice wa3 wn3 wc3, .slice sa3 sn3 sc3, .slice ra3 rn3 rc3] 30)
            have hoy10 := obj_alloc_old (hC9.obj HOY8.out (by have := HT5.out; simp; omega)) (.cells #[.int .i64 k3, .slice ka3 kn3 kc3, .string (Lx.strB s3), .slice wa3 wn3 wc3, .slice sa3 sn3 sc3, .slice ra3 rn3 rc3] 30)
            have hoz10 := obj_alloc_new w9 (.cells #[.int .i64 k3, .slice ka3 kn3 kc3, .string (Lx.strB s3), .slice wa3 wn3 wc3, .slice sa3 sn3 sc3, .slice ra3 rn3 rc3] 30)
            have HS9 := Lib.hid (show w8.heap.size ≤ w9.heap.size ∧ w9.heap.size < (w9.alloc (.cells #[.int .i64 k3, .slice ka3 kn3 kc3, .string (Lx.strB s3), .slice wa3 wn3 wc3, .slice sa3 sn3 sc3, .slice ra3 rn3 rc3] 30)).heap.size from ⟨hC9.size, lt_of_obj hoz10⟩)
            clear hZ hP9 hC9 hal HB8 HX8 HY8 HO8 HOT8 HOY8
            go_upto_region 13 with (fail)
            generalize w9.alloc (.cells #[.int .i64 k3, .slice ka3 kn3 kc3, .string (Lx.strB s3), .slice wa3 wn3 wc3, .slice sa3 sn3 sc3, .slice ra3 rn3 rc3] 30) = w10 at *
            generalize w9.heap.size = tb3 at *
            obtain ⟨t0, t1, t2, t3, t4, t5, tf⟩ := six_cells hot10
            obtain ⟨u0, u1, u2, u3, u4, u5, uf⟩ := six_cells hoy10
            obtain ⟨v0, v1, v2, v3, v4, v5, vf⟩ := six_cells hoz10
            obtain ⟨z0, z1, z2, z3, z4, z5, zf⟩ := six_cells_alloc ho10
            go_upto_region 14 with (fail)
            have hW1 : Chg [] w10 (w10.alloc (.cells #[.int .i64 k1, .slice ka1 kn1 kc1, .string (Lx.strB s1), .slice wa1 wn1 wc1, .slice sa1 sn1 sc1, .slice ra1 rn1 rc1, .int .i64 k2, .slice ka2 kn2 kc2, .string (Lx.strB s2), .slice wa2 wn2 wc2, .slice sa2 sn2 sc2, .slice ra2 rn2 rc2, .int .i64 k3, .slice ka3 kn3 kc3, .string (Lx.strB s3), .slice wa3 wn3 wc3, .slice sa3 sn3 sc3, .slice ra3 rn3 rc3] 30)) := (Chg.refl [] w10).alloc _
            have hW2 : Chg [w5.heap.size + 1] (w10.alloc (.cells #[.int .i64 k1, .slice ka1 kn1 kc1, .string (Lx.strB s1), .slice wa1 wn1 wc1, .slice sa1 sn1 sc1, .slice ra1 rn1 rc1, .int .i64 k2, .slice ka2 kn2 kc2, .string (Lx.strB s2), .slice wa2 wn2 wc2, .slice sa2 sn2 sc2, .slice ra2 rn2 rc2, .int .i64 k3, .slice ka3 kn3 kc3, .string (Lx.strB s3), .slice wa3 wn3 wc3, .slice sa3 sn3 sc3, .slice ra3 rn3 rc3] 30)) ((w10.alloc (.cells #[.int .i64 k1, .slice ka1 kn1 kc1, .string (Lx.strB s1), .slice wa1 wn1 wc1, .slice sa1 sn1 sc1, .slice ra1 rn1 rc1, .int .i64 k2, .slice ka2 kn2 kc2, .string (Lx.strB s2), .slice wa2 wn2 wc2, .slice sa2 sn2 sc2, .slice ra2 rn2 rc2, .int .i64 k3, .slice ka3 kn3 kc3, .string (Lx.strB s3), .slice wa3 wn3 wc3, .slice sa3 sn3 sc3, .slice ra3 rn3 rc3] 30)).setCell ⟨w5.heap.size + 1, 1, none⟩ (.slice (some ⟨w10.heap.size, 0, none⟩) 3 3)) := (Chg.refl _ _).setCell _ _ (.inl (by simp))
            have hB1 := HB10.out.kept0 hW1
            have hsz2 := Nat.le_trans hW1.size hW2.size
            have HBW := Lib.hid (hB1.turn hW2 (by have := HT9.out; omega))
            have HO7 := Lib.hid (obj_setCell (obj_alloc_old ho10 (.cells #[.int .i64 k1, .slice ka1 kn1 kc1, .string (Lx.strB s1), .slice wa1 wn1 wc1, .slice sa1 sn1 sc1, .slice ra1 rn1 rc1, .int .i64 k2, .slice ka2 kn2 kc2, .string (Lx.strB s2), .slice wa2 wn2 wc2, .slice sa2 sn2 sc2, .slice ra2 rn2 rc2, .int .i64 k3, .slice ka3 kn3 kc3, .string (Lx.strB s3), .slice wa3 wn3 wc3, .slice sa3 sn3 sc3, .slice ra3 rn3 rc3] 30)) 1 (.slice (some ⟨w10.heap.size, 0, none⟩) 3 3))
            have HKB := Lib.hid (hW2.obj (obj_alloc_new w10 (.cells #[.int .i64 k1, .slice ka1 kn1 kc1, .string (Lx.strB s1), .slice wa1 wn1 wc1, .slice sa1 sn1 sc1, .slice ra1 rn1 rc1, .int .i64 k2, .slice ka2 kn2 kc2, .string (Lx.strB s2), .slice wa2 wn2 wc2, .slice sa2 sn2 sc2, .slice ra2 rn2 rc2, .int .i64 k3, .slice ka3 kn3 kc3, .string (Lx.strB s3), .slice wa3 wn3 wc3, .slice sa3 sn3 sc3, .slice ra3 rn3 rc3] 30)) (by have := HS9.out; have := HL8.out; simp; omega))
            have HXS := Lib.hid (NodesAt.three (Sn.up (lo' := w.heap.size + 1) (hB1.holdF (hold0 HX10.out hW1) hW2 (by have := HT9.out; omega) (.inr (by omega))) (Nat.le_refl _) (by have := HS9.out; have := HL8.out; omega)) (Sn.up (lo' := w.heap.size + 1) (hB1.holdF (hold0 HY10.out hW1) hW2 (by have := HT9.out; omega) (.inr (by omega))) (Nat.le_refl _) (by have := HS9.out; have := HL8.out; omega)) (Sn.up (lo' := w.heap.size + 1) (hi' := ((w10.alloc (.cells #[.int .i64 k1, .slice ka1 kn1 kc1, .string (Lx.strB s1), .slice wa1 wn1 wc1, .slice sa1 sn1 sc1, .slice ra1 rn1 rc1, .int .i64 k2, .slice ka2 kn2 kc2, .string (Lx.strB s2), .slice wa2 wn2 wc2, .slice sa2 sn2 sc2, .slice ra2 rn2 rc2, .int .i64 k3, .slice ka3 kn3 kc3, .string (Lx.strB s3), .slice wa3 wn3 wc3, .slice sa3 sn3 sc3, .slice ra3 rn3 rc3] 30)).setCell ⟨w5.heap.size + 1, 1, none⟩ (.slice (some ⟨w10.heap.size, 0, none⟩) 3 3)).heap.size) (hB1.holdF (hold0 HZ10.out hW1) hW2 (by have := HT9.out; omega) (.inl (by have := HL8.out; omega))) (by have := HT9.out; have := HL8.out; omega) (by have := HS9.out; omega)))
            have HT8 := Lib.hid (show w10.heap.size ≠ pb from by have := HB10.out.old.1; have := HT9.out; have := HS9.out; have := HL8.out; omega)
            have HT9 := Lib.hid (show w.heap.size + 1 ≤ w10.heap.size from by have := HT9.out; have := HS9.out; have := HL8.out; omega)
            clear hW1 hW2 hB1 hsz2 z0 z1 z2 z3 z4 z5 zf
            generalize (w10.alloc (.cells #[.int .i64 k1, .slice ka1 kn1 kc1, .string (Lx.strB s1), .slice wa1 wn1 wc1, .slice sa1 sn1 sc1, .slice ra1 rn1 rc1, .int .i64 k2, .slice ka2 kn2 kc2, .string (Lx.strB s2), .slice wa2 wn2 wc2, .slice sa2 sn2 sc2, .slice ra2 rn2 rc2, .int .i64 k3, .slice ka3 kn3 kc3, .string (Lx.strB s3), .slice wa3 wn3 wc3, .slice sa3 sn3 sc3, .slice ra3 rn3 rc3] 30)).setCell ⟨w5.heap.size + 1, 1, none⟩ (.slice (some ⟨w10.heap.size, 0, none⟩) 3 3) = w11 at *
            generalize w10.heap.size = kb at *
            obtain ⟨z0, z1, z2, z3, z4, z5, zf⟩ := six_cells HO7.out
            obtain ⟨G, hG⟩ : ∃ G, Ps.wantP ts q4 1 Ps.kwFi = G := ⟨_, rfl⟩
            have HWN := Lib.hid (fun (W : World) (h : PS W pb a c ts vs q4 deep 0) => want_any pb a c ts vs q4 deep 1 Ps.kwFi W h)
            rw [hG] at HWN
            cases G with
            | bad er q9 =>
              have HR := Lib.hid (branchP_5 hC hD hE hF hH hG)
              clear hC hD hE hF hG
              go_region_law ((first | (go_simp; refine (HWN.out _ (HBW.out.ps.chg0 (Chg.refl [] _).drew)).mono ?_; rintro e w9 ⟨rfl, hP5, hC5⟩; have u0 := hC5.cell z0 (by have := HT7.out; simp; omega); have u1 := hC5.cell z1 (by have := HT7.out; simp; omega); have u2 := hC5.cell z2 (by have := HT7.out; simp; omega); have u3 := hC5.cell z3 (by have := HT7.out; simp; omega); have u4 := hC5.cell z4 (by have := HT7.out; simp; omega); have u5 := hC5.cell z5 (by have := HT7.out; simp; omega); have HBD := Lib.hid (HBW.out.bad hC5.drew0 hP5); obtain ⟨y0, y1, y2, y3, y4, y5, yf⟩ := node_cells HBD.out.rs; clear hP5 hC5)))
              all_goals
                go_wp2
                refine bodyPost_ret (v := .tuple #[.agg (nodeC 6 (.slice (some ⟨kb, 0, none⟩) 3 3)), .bool false]) (by simp [results, Tryd.results79, go_sem, nodeC, y0, y1, y2, y3, y4, y5]) rfl ?_
                rw [HR.out]
                refine HBD.out.fin6 ⟨6, [], _, none, none, none, _, _, 0, 0, 0, 0, 0, 0, rfl⟩ ?_
                first | exact (Chg.refl _ _).six _ _ _ _ _ _ _ (.inl (by simp)) | exact ((Chg.refl _ _).six _ _ _ _ _ _ _ (.inl (by simp))).drew
            | ok u9 q9 =>
              have HR := Lib.hid (branchP_6 hC hD hE hF hH hG)
              clear hC hD hE hF hG
              go_region_law ((first | (go_simp; refine (HWN.out _ (HBW.out.ps.chg0 (Chg.refl [] _).drew)).mono ?_; rintro e w9 ⟨rfl, hP5, hC5⟩; have u0 := hC5.cell z0 (by have := HT7.out; simp; omega); have u1 := hC5.cell z1 (by have := HT7.out; simp; omega); have u2 := hC5.cell z2 (by have := HT7.out; simp; omega); have u3 := hC5.cell z3 (by have := HT7.out; simp; omega); have u4 := hC5.cell z4 (by have := HT7.out; simp; omega); have u5 := hC5.cell z5 (by have := HT7.out; simp; omega); have HB9 := Lib.hid (HBW.out.call hC5.drew0 hP5); have HC5 := Lib.hid hC5.drew0; obtain ⟨y0, y1, y2, y3, y4, y5, yf⟩ := node_cells HB9.out.rs; clear hP5 hC5)))
              all_goals
                go_wp2
                refine bodyPost_ret (v := .tuple #[.agg (nodeC 6 (.slice (some ⟨kb, 0, none⟩) 3 3)), .bool true]) (by simp [results, Tryd.results79, go_sem, nodeC, y0, y1, y2, y3, y4, y5]) rfl ?_
                rw [HR.out]
                have HKB9 := Lib.hid (HC5.out.obj HKB.out (by have := HT8.out; simp; omega))
                have HX9 := Lib.hid (NodesAt.mono (S' := Sn (.slice a ts.length c) vs (w.heap.size + 1) w9.heap.size) (fun j hj => hj.imp id (fun h => ⟨h.1, Nat.lt_of_lt_of_le h.2 HC5.out.size⟩)) _ _ (NodesAt.kept HC5.out (fun j hj hS => by
                  simp at hj; subst hj
                  rcases hS with h1 | h1
                  · exact HBW.out.ps.out h1
                  · have := HBW.out.old.1; omega) _ _ HXS.out))
                have hW := Chg.six (Chg.refl [w.heap.size] w9) w.heap.size (.int .i64 6) (.slice (some ⟨kb, 0, none⟩) 3 3) (.string ⟨#[]⟩) (.slice none 0 0) (.slice none 0 0) (.slice none 0 0) (.inl (by simp))
                first
                  | exact HB9.out.fin (ns := [x, y, z]) (m := 3) rfl (by decide) (by decide) HX9.out hW (by have := HT9.out; omega) (hW.obj HKB9.out (by have := HT9.out; simp; omega))
                  | exact HB9.out.fin (ns := [x, y, z]) (m := 3) rfl (by decide) (by decide) HX9.out hW.drew (by have := HT9.out; omega) (hW.obj HKB9.out (by have := HT9.out; simp; omega))
        | false =>
          have IS1 := Lib.hid (IS _ hF)
          clear IS
          go_wp2_with fail
          refine IS1.out.mono ?_
          rintro e w7 ⟨rfl, n1, rfl⟩
          have hdr : Chg [] w6 (w6.drewN n1) := (Chg.refl [] w6).drewN n1
          have HBW := Lib.hid (HB6.out.kept0 hdr)
          have HO7 := Lib.hid (hdr.obj HO7.out (by simp))
          have HKB := Lib.hid (hdr.obj HKB.out (by simp))
          have HXS := Lib.hid (NodesAt.two (Sn.up (hold0 HX6.out hdr) (Nat.le_refl _) (by have := HL6.out; have := hdr.size; omega)) (Sn.up (lo' := w.heap.size + 1) (hi' := (w6.drewN n1).heap.size) (hold0 HY6.out hdr) (Nat.le_refl _) (by have := HL6.out; have := hdr.size; omega)))
          clear hdr HB6 HX6 HY6 HOT6 HOY6
          generalize w6.drewN n1 = w7 at *
          go_upto_region 14 with (fail)
          generalize w5.heap.size = kb at *
          obtain ⟨z0, z1, z2, z3, z4, z5, zf⟩ := six_cells HO7.out
          obtain ⟨G, hG⟩ : ∃ G, Ps.wantP ts q3 1 Ps.kwFi = G := ⟨_, rfl⟩
          have HWN := Lib.hid (fun (W : World) (h : PS W pb a c ts vs q3 deep 0) => want_any pb a c ts vs q3 deep 1 Ps.kwFi W h)
          rw [hG] at HWN
          cases G with
          | bad er q9 =>
            have HR := Lib.hid (branchP_7 hC hD hE hF hG)
            clear hC hD hE hF hG
            go_region_law ((first | (go_simp; refine (HWN.out _ (HBW.out.ps.chg0 (Chg.refl [] _).drew)).mono ?_; rintro e w9 ⟨rfl, hP5, hC5⟩; have u0 := hC5.cell z0 (by have := HT7.out; simp; omega); have u1 := hC5.cell z1 (by have := HT7.out; simp; omega); have u2 := hC5.cell z2 (by have := HT7.out; simp; omega); have u3 := hC5.cell z3 (by have := HT7.out; simp; omega); have u4 := hC5.cell z4 (by have := HT7.out; simp; omega); have u5 := hC5.cell z5 (by have := HT7.out; simp; omega); have HBD := Lib.hid (HBW.out.bad hC5.drew0 hP5); obtain ⟨y0, y1, y2, y3, y4, y5, yf⟩ := node_cells HBD.out.rs; clear hP5 hC5)))
            all_goals
              go_wp2
              refine bodyPost_ret (v := .tuple #[.agg (nodeC 6 (.slice (some ⟨kb, 0, none⟩) 2 2)), .bool false]) (by simp [results, Tryd.results79, go_sem, nodeC, y0, y1, y2, y3, y4, y5]) rfl ?_
              rw [HR.out]
              refine HBD.out.fin6 ⟨6, [], _, none, none, none, _, _, 0, 0, 0, 0, 0, 0, rfl⟩ ?_
              first | exact (Chg.refl _ _).six _ _ _ _ _ _ _ (.inl (by simp)) | exact ((Chg.refl _ _).six _ _ _ _ _ _ _ (.inl (by simp))).drew
          | ok u9 q9 =>
            have HR := Lib.hid (branchP_8 hC hD hE hF hG)
            clear hC hD hE hF hG
            go_region_law ((first | (go_simp; refine (HWN.out _ (HBW.out.ps.chg0 (Chg.refl [] _).drew)).mono ?_; rintro e w9 ⟨rfl, hP5, hC5⟩; have u0 := hC5.cell z0 (by have := HT7.out; simp; omega); have u1 := hC5.cell z1 (by have := HT7.out; simp; omega); have u2 := hC5.cell z2 (by have := HT7.out; simp; omega); have u3 := hC5.cell z3 (by have := HT7.out; simp; omega); have u4 := hC5.cell z4 (by have := HT7.out; simp; omega); have u5 := hC5.cell z5 (by have := HT7.out; simp; omega); have HB9 := Lib.hid (HBW.out.call hC5.drew0 hP5); have HC5 := Lib.hid hC5.drew0; obtain ⟨y0, y1, y2, y3, y4, y5, yf⟩ := node_cells HB9.out.rs; clear hP5 hC5)))
            all_goals
              go_wp2
              refine bodyPost_ret (v := .tuple #[.agg (nodeC 6 (.slice (some ⟨kb, 0, none⟩) 2 2)), .bool true]) (by simp [results, Tryd.results79, go_sem, nodeC, y0, y1, y2, y3, y4, y5]) rfl ?_
              rw [HR.out]
              have HKB9 := Lib.hid (HC5.out.obj HKB.out (by have := HT8.out; simp; omega))
              have HX9 := Lib.hid (NodesAt.mono (S' := Sn (.slice a ts.length c) vs (w.heap.size + 1) w9.heap.size) (fun j hj => hj.imp id (fun h => ⟨h.1, Nat.lt_of_lt_of_le h.2 HC5.out.size⟩)) _ _ (NodesAt.kept HC5.out (fun j hj hS => by
                simp at hj; subst hj
                rcases hS with h1 | h1
                · exact HBW.out.ps.out h1
                · have := HBW.out.old.1; omega) _ _ HXS.out))
              have hW := Chg.six (Chg.refl [w.heap.size] w9) w.heap.size (.int .i64 6) (.slice (some ⟨kb, 0, none⟩) 2 2) (.string ⟨#[]⟩) (.slice none 0 0) (.slice none 0 0) (.slice none 0 0) (.inl (by simp))
              first
                | exact HB9.out.fin (ns := [x, y]) (m := 2) rfl (by decide) (by decide) HX9.out hW (by have := HT9.out; omega) (hW.obj HKB9.out (by have := HT9.out; simp; omega))
                | exact HB9.out.fin (ns := [x, y]) (m := 2) rfl (by decide) (by decide) HX9.out hW.drew (by have := HT9.out; omega) (hW.obj HKB9.out (by have := HT9.out; simp; omega))

end Go.Proofs.YtfgbbmnmblchiaaDoor
