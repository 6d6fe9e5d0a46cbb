/-
  (*Machine).Run, walked.
-/
import Derived.Test.YtocjdbenelikpaaRun
import Derived.Deep.LoopGhost
import Derived.WalkMore
import Derived.Deep.RegionHeld3
namespace Go.Proofs.Ytocjdbenelikpaa
open Go.RowKit
set_option linter.unusedVariables false
set_option linter.unusedSimpArgs false

/-- what a run leaves. -/
def RunPost (w : World) (mb cb co cc : Nat) (q : Nat × Int × Vm.M) : Ending → World → Prop := fun e w' =>
  e = .returned (.tuple #[.int .i64 (q.1 : Int), .int .i64 q.2.1]) ∧ MachAt w' mb cb co cc q.2.2 ∧ Chg [mb] w w'

theorem run_stopped {w x : World} {mb cb co cc : Nat} {m1 : Vm.M} (hm : MachAt x mb cb co cc m1) (hc : Chg [mb] w x) (u : Nat) (s : Int) :
    RunPost w mb cb co cc (u, s, { m1 with stopped := s }) (.returned (.tuple #[.int .i64 (u : Int), .int .i64 s])) (x.setCell ⟨mb, 1035, none⟩ (.int .i64 s)) := ⟨rfl, hm.setStopped s, hc.setCell _ _ (by simp)⟩

set_option maxHeartbeats 4000000 in
set_option maxRecDepth 100000 in
theorem run_any (w : World) (mb cb co cc : Nat) (m : Vm.M) (h : MachAt w mb cb co cc m) (hg : Vm.Good m) (hs : m.stopped = 0) (F : Nat) (hF : F < 9223372036854775808) :
    Calls Try.prog 14 #[.pointer (some ⟨mb, 0, none⟩), .int .i64 (F : Int)] w (RunPost w mb cb co cc (Vm.fin (Vm.go F m))) := by
  have cs := h.stopped
  rw [hs] at cs
  have H := Lib.hid h
  have HG := Lib.hid hg
  clear h hg
  go_enter Try.func14, Try.ntmps14
  go_wp2
  go_step3
  go_wp2_with fail
  refine (ops_any w).mono ?_
  rintro e w1 ⟨rfl, h1⟩
  have HC1 := Lib.hid h1
  clear h1 cs
  go_wp2_with (refine wpList_store_new _ rfl 75 _ _ rfl rfl _ fnCells rfl rfl (by kernel_rfl) (by kernel_rfl) (by kernel_rfl) ?_)
  go_step3
  go_wp2_with fail
  generalize hw2 : w1.alloc (.cells fnCells 75) = w2
  have HFN : Hid (FnsAt w2 w1.heap.size) := Lib.hid (by subst hw2; exact heap_alloc_new w1 _)
  have HC2 : Hid (Chg [] w w2) := Lib.hid (by subst hw2; exact HC1.out.alloc _)
  have HFB : Hid (w1.heap.size ≠ mb) := Lib.hid (by have h1 := lt_of_obj H.out.obj; have h2 := HC1.out.size; omega)
  generalize w1.heap.size = fb at *
  clear hw2 HC1
  have H2 := Lib.hid (H.out.kept0 HC2.out)
  go_loopg [4, 5] F (fun g vu vs wr => ∃ u : Nat, ∃ m1 : Vm.M, u + g = F ∧ vu = .int .i64 u ∧ vs = .int .i64 0 ∧ MachAt wr mb cb co cc m1 ∧ FnsAt wr fb ∧ Chg [mb] w wr ∧ Vm.Good m1 ∧ Hid (Vm.go F m = ((Vm.go g m1).1 + u, (Vm.go g m1).2)))
  case atStart => exact ⟨0, m, by omega, rfl, rfl, H2.out, HFN.out, HC2.out.mono (by simp), HG.out, rfl⟩
  case round =>
    obtain ⟨u, m1, hu, rfl, rfl, hm, hfn, hch, hgd, hgo⟩ := hrel
    clear H2 HFN HC2
    have HGD := Lib.hid hgd
    have HGO := Lib.hid hgo
    have HM := Lib.hid hm
    have HFN := Lib.hid hfn
    have HCH := Lib.hid hch
    clear hm hfn hch hgd hgo
    cases gk with
    | zero =>
      obtain rfl : u = F := by omega
      have e : Vm.fin (Vm.go u m) = (u, 1, m1) := by rw [HGO.out.out]; simp [Vm.go, Vm.fin]
      go_wp2
      try rw [Exit.noGoto_ret]
      go_ret2
      rw [e]
      exact ⟨rfl, HM.out, HCH.out⟩
    | succ g =>
      have hu2 : u < F := by omega
      have cpc := HM.out.pc
      have cn := HM.out.n
      have fst := HM.out.free 1035
      have cst := HM.out.stopped
      obtain ⟨p, hp⟩ : ∃ p : Nat, m1.pc = (p : Int) := ⟨m1.pc.toNat, by have := HGD.out.pc.1; omega⟩
      rw [hp] at cpc
      have hn1 := HM.out.n1
      have hpn : p ≤ m1.n := by have := HGD.out.pc.2; omega
      generalize hnn : m1.n = n at *
      by_cases hpc : n ≤ p
      · have e : Vm.fin (Vm.go F m) = (u, 4, { m1 with stopped := 4 }) := by
          rw [HGO.out.out]
          have : Vm.go (g + 1) m1 = (0, 4, m1) := by unfold Vm.go; rw [if_pos (by rw [hp, hnn]; omega)]
          rw [this]
          simp [Vm.fin]
        clear hp hnn
        go_wp2_with fail
        go_region
        all_goals
          go_wp2
          try rw [Exit.noGoto_ret]
          go_ret2
          rw [e]
          exact run_stopped HM.out.drew HCH.out.drew u 4
      · have hpn2 : p < n := by omega
        have hstep : Vm.go (g + 1) m1 = (if (Vm.step m1).1 = 4 then (0, 4, (Vm.step m1).2) else if (Vm.step m1).1 = 2 then (1, 2, (Vm.step m1).2) else
            if (Vm.step m1).1 = 0 then ((Vm.go g (Vm.next (Vm.step m1).2)).1 + 1, (Vm.go g (Vm.next (Vm.step m1).2)).2) else (1, (Vm.step m1).1, Vm.next (Vm.step m1).2)) := by
          conv => lhs; unfold Vm.go
          rw [if_neg (by rw [hp, hnn]; omega)]
        have hb := HGD.out.code p (by omega)
        have cb0 := HM.out.code (4 * p) (by omega)
        have cb1 := HM.out.code (4 * p + 1) (by omega)
        have cb2 := HM.out.code (4 * p + 2) (by omega)
        have cb3 := HM.out.code (4 * p + 3) (by omega)
        have csl := HM.out.slice
        have hcap := HM.out.cap
        have hst : Vm.step m1 = Vm.op (m1.code.getD (4 * p) 0).toNat (m1.code.getD (4 * p + 1) 0).toNat (m1.code.getD (4 * p + 2) 0).toNat (m1.code.getD (4 * p + 3) 0).toNat m1 := by
          unfold Vm.step Vm.at_; rw [hp]; rfl
        unfold byteV at cb0 cb1 cb2 cb3
        have hk := UInt8.toNat_lt (m1.code.getD (4 * p + 3) 0)
        generalize (m1.code.getD (4 * p) 0).toNat = c at *
        generalize (m1.code.getD (4 * p + 1) 0).toNat = x at *
        generalize (m1.code.getD (4 * p + 2) 0).toNat = y at *
        generalize (m1.code.getD (4 * p + 3) 0).toNat = kk at *
        obtain ⟨hb0, hb1, hb2, hb3⟩ := hb
        have cfn := HFN.out.cell hb0
        rw [hnn] at csl hcap
        have HST := Lib.hid hst
        have HSTEP := Lib.hid hstep
        have HP := Lib.hid hp
        have HNN := Lib.hid hnn
        have HB3 := Lib.hid hb3
        clear hst hstep hp hnn hb3
        have ip0 : (0 : Int) ≤ (p : Int) := by omega
        have ip1 : (p : Int) < (n : Int) := by omega
        have ip2 : (n : Int) ≤ 256 := by omega
        go_wp2_with fail
        go_region
        go_wp2_with fail
        go_region
        go_wp2_with fail
        have ic0 : (0 : Int) ≤ (c : Int) := by omega
        have ic1 : (c : Int) < 22 := by omega
        have ix0 : (0 : Int) ≤ (x : Int) := by omega
        have ix1 : (x : Int) < 8 := by omega
        have iy0 : (0 : Int) ≤ (y : Int) := by omega
        have iy1 : (y : Int) < 8 := by omega
        have ik0 : (0 : Int) ≤ (kk : Int) := by omega
        have ik1 : (kk : Int) < 256 := by omega
        have il0 : (0 : Int) < ((4 * n - 4 * p : Nat) : Int) := by omega
        have il1 : (1 : Int) < ((4 * n - 4 * p : Nat) : Int) := by omega
        have il2 : (2 : Int) < ((4 * n - 4 * p : Nat) : Int) := by omega
        have il3 : (3 : Int) < ((4 * n - 4 * p : Nat) : Int) := by omega
        have il4 : 0 < 4 * n - 4 * p := by omega
        have hcall := call_fn hb0
        have wx : IntKind.i64.wrap (x : Int) = (x : Int) := by rw [IntKind.wrap_i64]; omega
        have wy : IntKind.i64.wrap (y : Int) = (y : Int) := by rw [IntKind.wrap_i64]; omega
        have wk : IntKind.i64.wrap (kk : Int) = (kk : Int) := by rw [IntKind.wrap_i64]; omega
        generalize 4 * n - 4 * p = L at *
        rw [← Nat.add_assoc] at cb1 cb2 cb3
        have HNE : Hid (cb ∉ [mb] ∧ fb ∉ [mb]) := Lib.hid ⟨by simpa using HM.out.ne, by simpa using HFB.out⟩
        clear cpc cn fst cst csl
        go_region_held3 (fun w' => w'.cell? ⟨cb, co + 4 * p, none⟩ = some (.int .u8 (c : Int)) ∧ w'.cell? ⟨cb, co + 4 * p + 1, none⟩ = some (.int .u8 (x : Int)) ∧ w'.cell? ⟨cb, co + 4 * p + 2, none⟩ = some (.int .u8 (y : Int)) ∧ w'.cell? ⟨cb, co + 4 * p + 3, none⟩ = some (.int .u8 (kk : Int)) ∧ w'.cell? ⟨fb, c, none⟩ = some (.func (.func (fnOf c)) #[] #[]))
          (first | exact ⟨cb0, cb1, cb2, cb3, cfn⟩ | exact ⟨l0, l1, l2, l3, l4⟩)
          ((refine (do_any _ mb cb co cc m1 HM.out.drew.drew.drew c x y kk hb0 hb1 hb2 hk).mono ?_; rintro e w3 ⟨rfl, hm3, hc3⟩; have l0 := hc3.cell cb0 HNE.out.1; have l1 := hc3.cell cb1 HNE.out.1; have l2 := hc3.cell cb2 HNE.out.1; have l3 := hc3.cell cb3 HNE.out.1; have l4 := hc3.cell cfn HNE.out.2))
        have HM3 := Lib.hid hm3
        have HCW := Lib.hid hc3
        have HC3 := Lib.hid (HCH.out.drew.drew.drew.trans hc3 (by intro k hk; simp at hk; subst hk; simp))
        clear wx wy wk hm3 hc3 l0 l1 l2 l3 l4 cb0 cb1 cb2 cb3 cfn hcall il0 il1 il2 il3 il4
        have hs4 := Vm.op_stop c x y kk m1
        have hpc2 := Vm.op_pc c x y kk m1
        have hcd := Vm.op_code c x y kk m1
        rw [HST.out] at HSTEP
        generalize Vm.op c x y kk m1 = r at *
        obtain ⟨s, m2⟩ := r
        simp only at hs4 hpc2 hcd HM3 HSTEP
        obtain ⟨P, hP, hP1, hP2⟩ : ∃ P : Int, m2.pc = P ∧ -1 ≤ P ∧ P < n := by
          refine ⟨m2.pc, rfl, ?_⟩
          rcases hpc2 with h | ⟨h1, h2, h3, _⟩
          · rw [h, HP.out]; omega
          · have h4 := HB3.out ⟨h1, h2⟩; have h5 := HNN.out; rw [h3]; omega
        have c3 := HM3.out.pc
        have f3 := HM3.out.free 1034
        have f4 := HM3.out.free 1035
        have c4 := HM3.out.stopped
        rw [hP] at c3
        have HPP := Lib.hid hP
        have HCD := Lib.hid hcd
        clear hP hcd hpc2
        rcases hs4 with rfl | rfl | rfl | rfl
        · have e := HSTEP.out
          simp only [Int.reduceEq, if_false, if_true] at e
          have HE : Hid (Vm.go F m = ((Vm.go g (Vm.next m2)).1 + (u + 1), (Vm.go g (Vm.next m2)).2)) := Lib.hid (by rw [HGO.out.out, e]; simp only; rw [Nat.add_assoc, Nat.add_comm 1 u])
          clear e
          go_wp2
          go_roundg g
          case measure => omega
          case rel =>
            refine ⟨u + 1, Vm.next m2, by omega, by go_num, rfl, ?_, ?_, HC3.out.setCell _ _ (by simp), ?_, HE.out⟩
            · have := HM3.out.setPc (P + 1)
              unfold Vm.next
              rw [HPP.out]
              exact this
            · exact (HCW.out.setCell ⟨mb, 1034, none⟩ (.int .i64 (P + 1)) (by simp)).obj (w := wr.drew.drew.drew) HFN.out (by simpa using HFB.out)
            · obtain ⟨d1, d2, _⟩ := HCD.out
              refine ⟨fun i hi => ?_, ?_⟩
              · have := HGD.out.code i (by rw [← d2]; exact hi)
                unfold Vm.next
                simp only [d1, d2]
                exact this
              · unfold Vm.next
                simp only [HPP.out, d2, HNN.out]
                omega
        · have e2 : Vm.fin (Vm.go F m) = (u + 1, 2, { m2 with stopped := 2 }) := by
            rw [HGO.out.out, HSTEP.out]
            simp only [Int.reduceEq, if_false, if_true]
            simp [Vm.fin, Nat.add_comm]
          have hq := run_stopped HM3.out HC3.out (u + 1) 2
          rw [Int.natCast_add] at hq
          have HQ := Lib.hid hq
          have HE := Lib.hid e2
          clear e2 hq
          go_wp2
          try rw [Exit.noGoto_ret]
          go_ret2
          rw [HE.out]
          exact HQ.out
        · have e2 : Vm.fin (Vm.go F m) = (u + 1, 3, Vm.next m2) := by
            rw [HGO.out.out, HSTEP.out]
            simp only [Int.reduceEq, if_false, if_true]
            simp [Vm.fin, Nat.add_comm]
          have hq : RunPost w mb cb co cc (u + 1, 3, Vm.next m2) (.returned (.tuple #[.int .i64 ((u : Int) + 1), .int .i64 3])) (w3.setCell ⟨mb, 1034, none⟩ (.int .i64 (P + 1))) :=
            ⟨by simp, by have := HM3.out.setPc (P + 1); unfold Vm.next; rw [HPP.out]; exact this, HC3.out.setCell _ _ (by simp)⟩
          have HQ := Lib.hid hq
          have HE := Lib.hid e2
          clear e2 hq
          go_wp2
          try rw [Exit.noGoto_ret]
          go_ret2
          rw [HE.out]
          exact HQ.out
        · have e2 : Vm.fin (Vm.go F m) = (u, 4, { m2 with stopped := 4 }) := by
            rw [HGO.out.out, HSTEP.out]
            simp only [Int.reduceEq, if_false, if_true]
            simp [Vm.fin]
          have hq := run_stopped HM3.out HC3.out u 4
          have HQ := Lib.hid hq
          have HE := Lib.hid e2
          clear e2 hq
          go_wp2
          try rw [Exit.noGoto_ret]
          go_ret2
          rw [HE.out]
          exact HQ.out

end Go.Proofs.Ytocjdbenelikpaa
