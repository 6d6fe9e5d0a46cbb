/-
  VmCopies, walked.
-/
import Derived.Test.YtocjdbenelikpaaSteps
import Derived.Deep.QuietTactic
namespace Go.Proofs.Ytocjdbenelikpaa
open Go.RowKit
set_option linter.unusedVariables false
set_option linter.unusedSimpArgs false
set_option linter.unnecessarySimpa false

/-- Run, whether it has stopped or not. -/
theorem run_all (w : World) (mb cb co cc : Nat) (m : Vm.M) (h : MachAt w mb cb co cc m) (hg : Vm.Good m) (F : Nat) (hF : F < 9223372036854775808) :
    Calls Try.prog 14 #[.pointer (some ⟨mb, 0, none⟩), .int .i64 (F : Int)] w (RunPost w mb cb co cc (Vm.run m F)) := by
  unfold Vm.run
  by_cases hs : m.stopped = 0
  · rw [if_pos hs]
    exact run_any w mb cb co cc m h hg hs F hF
  · rw [if_neg hs]
    refine (run_still w mb cb co cc m h hs F).mono ?_
    rintro e w' ⟨rfl, hc⟩
    exact ⟨rfl, h.kept0 hc, hc.mono (by simp)⟩

theorem run_good {m : Vm.M} (hg : Vm.Good m) (F : Nat) : Vm.Good (Vm.run m F).2.2 := by
  unfold Vm.run
  split
  · exact Vm.fin_good (Vm.go_keep F m hg).1
  · exact hg

/-- VmCopies' two machines, its row of numbers and its bytes. -/
structure CopyAt (w wr : World) (mb cb co cc : Nat) (m : Vm.M) (g1 : Option Addr) (wb i : Nat) : Prop where
  ma : MachAt wr mb cb co cc m
  x : SrcAt wr g1 (((m.mem.drop 0).take 1024).map byteV)
  was : ∃ A : Array Value, wr.heap[wb]? = some (.cells A 48 (0, 0)) ∧ A.size = 8 ∧ ∀ j, j < i → A[j]? = some (.int .i64 (Vm.reg m j))
  chg : Chg [] w wr

theorem CopyAt.kept {w wr wr' : World} {mb cb co cc : Nat} {m : Vm.M} {g1 : Option Addr} {wb i : Nat} {F : List Nat} (h : CopyAt w wr mb cb co cc m g1 wb i) (hc : Chg F wr wr') (h1 : mb ∉ F) (h2 : cb ∉ F) (h3 : ∀ x, g1 = some x → x.block ∉ F) (h4 : wb ∉ F)
    (h5 : ∀ k ∈ F, w.heap.size ≤ k) : CopyAt w wr' mb cb co cc m g1 wb i := by
  obtain ⟨A, q1, q2, q3⟩ := h.was
  exact ⟨h.ma.kept hc h1 h2, h.x.kept hc h3, ⟨A, hc.obj q1 h4, q2, q3⟩, h.chg.trans hc (fun x hx => .inr (h5 x hx))⟩
theorem CopyAt.kept0 {w wr wr' : World} {mb cb co cc : Nat} {m : Vm.M} {g1 : Option Addr} {wb i : Nat} (h : CopyAt w wr mb cb co cc m g1 wb i) (hc : Chg [] wr wr') : CopyAt w wr' mb cb co cc m g1 wb i :=
  h.kept hc (by simp) (by simp) (by simp) (by simp) (by simp)
theorem CopyAt.store {w wr : World} {mb cb co cc : Nat} {m : Vm.M} {g1 : Option Addr} {wb i : Nat} (h : CopyAt w wr mb cb co cc m g1 wb i) (hi : i < 8) (h1 : mb ≠ wb) (h2 : cb ≠ wb) (h3 : ∀ x, g1 = some x → x.block ≠ wb) (h5 : w.heap.size ≤ wb) :
    CopyAt w (wr.setCell ⟨wb, i, none⟩ (.int .i64 (Vm.reg m i))) mb cb co cc m g1 wb (i + 1) := by
  obtain ⟨A, q1, q2, q3⟩ := h.was
  have hc : Chg [wb] wr (wr.setCell ⟨wb, i, none⟩ (.int .i64 (Vm.reg m i))) := (Chg.refl [wb] wr).setCell _ _ (by simp)
  refine ⟨h.ma.kept hc (by simpa using h1) (by simpa using h2), h.x.kept hc (fun x hx => by simpa using h3 x hx), ⟨_, obj_setCell q1 i _, by simpa using q2, fun j hj => ?_⟩, h.chg.trans hc (fun x hx => .inr (by simp at hx; omega))⟩
  by_cases hij : i = j
  · subst hij; simp [q2, hi]
  · rw [Array.getElem?_setIfInBounds_ne hij]; exact q3 j (by omega)

set_option maxHeartbeats 4000000 in
set_option maxRecDepth 100000 in
theorem copies_good (w : World) (a : Option Addr) (len cap : Nat) (bs : List UInt8) (h : Bytes w a len cap bs) (hv : validB bs = true) (f1 f2 : Int) :
    Calls Try.prog 10 #[.slice a len cap, .int .i64 f1, .int .i64 f2] w fun e w' => e = .returned (.bool true) ∧ Chg [] w w' := by
  obtain ⟨F1, hF1⟩ : ∃ F : Nat, f1 % 1024 = (F : Int) := ⟨(f1 % 1024).toNat, by omega⟩
  obtain ⟨F2, hF2⟩ : ∃ F : Nat, f2 % 1024 = (F : Int) := ⟨(f2 % 1024).toNat, by omega⟩
  have b1 : bits .and .i64 f1 1023 = (F1 : Int) := by rw [i64_and1023, hF1]
  have b2 : bits .and .i64 f2 1023 = (F2 : Int) := by rw [i64_and1023, hF2]
  have l1 : F1 < 1024 := by omega
  have l2 : F2 < 1024 := by omega
  have H := Lib.hid h
  have HV := Lib.hid hv
  clear h hv hF1 hF2
  go_enter Try.func10, Try.ntmps10
  go_wp2_with fail
  refine (new_good w a len cap bs H.out HV.out).mono ?_
  rintro e w1 ⟨mb, cb, co, cc, rfl, hm1, hg, hc1, hmb, hcb⟩
  have HM := Lib.hid hm1
  have HC := Lib.hid hc1
  have HG := Lib.hid hg
  clear hm1 hc1 hg
  go_wp2_with fail
  refine (run_all w1 mb cb co cc _ HM.out HG.out F1 (by omega)).mono ?_
  rintro e w2 ⟨rfl, hm2, hc2⟩
  have hg2 := run_good HG.out F1
  generalize (Vm.run (Vm.ofImage bs) F1).2.2 = m at *
  generalize (Vm.run (Vm.ofImage bs) F1).2.1 = s1
  generalize (Vm.run (Vm.ofImage bs) F1).1 = u1
  have HM2 := Lib.hid hm2
  have HC2 : Hid (Chg [] w w2) := Lib.hid (HC.out.trans hc2 (fun z hz => .inr (by simp at hz; omega)))
  have HG2 := Lib.hid hg2
  clear hm2 hc2 hg2 HM HC HG
  go_wp2_with fail
  refine (pc_any w2 mb cb co cc _ HM2.out).mono ?_
  rintro e w3 ⟨rfl, rfl⟩
  go_wp2_with fail
  refine (load_in w2 mb cb co cc _ HM2.out 0 1024 (by omega)).mono ?_
  rintro e w3 ⟨g1, rfl, hr1, hc3, -⟩
  have HM3 := Lib.hid (HM2.out.kept0 hc3)
  have HC3 := Lib.hid (HC2.out.then0 hc3)
  have hs1 := hr1.src
  have S1 := Lib.hid hs1
  clear hr1 hc3 hs1 HM2 HC2
  go_wp2_with fail
  go_loopg [13] 8 (fun g vi wr => ∃ i : Nat, i + g = 8 ∧ vi = .int .i64 i ∧ CopyAt w wr mb cb co cc m g1 w3.heap.size i)
  case atStart =>
    refine ⟨0, by omega, rfl, HM3.out.kept0 ((Chg.refl [] w3).alloc _), S1.out.kept0 ((Chg.refl [] w3).alloc _), ⟨_, heap_alloc_new w3 _, rfl, fun j hj => absurd hj (by omega)⟩, HC3.out.alloc _⟩
  case round =>
    obtain ⟨i, hi, rfl, ht⟩ := hrel
    have hmw : mb < w3.heap.size := lt_of_obj HM3.out.obj
    have hcw : cb < w3.heap.size := World.block_lt_of_cell? w3 _ (HM3.out.code 0 (by have := HM3.out.n1; omega))
    have hgw : ∀ x, g1 = some x → x.block < w3.heap.size := by
      obtain ⟨b, off, hb1, hb2⟩ := S1.out (by
        intro e
        have := congrArg List.length e
        have hml := HM3.out.m1k
        simp [hml] at this)
      intro x hx
      rw [hb1] at hx
      cases hx
      have hml := HM3.out.m1k
      have := World.block_lt_of_cell? w3 _ (hb2 0 _ (by rw [List.getElem?_map, List.getElem?_take, if_pos (by omega), List.getElem?_drop, List.getElem?_eq_getElem (by omega)]; rfl))
      exact this
    have hww := HC3.out.size
    generalize w3.heap.size = wb at *
    have HT := Lib.hid ht
    have HGW := Lib.hid hgw
    clear ht hgw HM3 S1 HC3
    cases gk with
    | succ g =>
      have hi8 : i < 8 := by omega
      have hi8' : (i : Int) < 8 := by omega
      have hi0 : (0 : Int) ≤ (i : Int) := by omega
      obtain ⟨A, hA, hsz, hAj⟩ := HT.out.was
      have hcell : wr.cell? ⟨wb, i, none⟩ = some (A[i]'(by omega)) := cell_of_obj hA (by rw [Array.getElem?_eq_getElem (by omega)])
      have hfree := free_of_obj hA i
      clear hA hAj
      go_wp2_with fail
      refine (reg_in wr mb cb co cc _ HT.out.ma i hi8).mono ?_
      rintro e w5 ⟨rfl, rfl⟩
      go_wp2
      all_goals
        go_roundg g
        case measure => omega
        case rel => exact ⟨i + 1, by omega, by go_num, HT.out.store hi8 (by omega) (by omega) (fun x hx => by have := HGW.out x hx; omega) hww⟩
    | zero =>
      obtain rfl : i = 8 := by omega
      go_wp2_with fail
      refine (copy_any wr mb cb co cc m HT.out.ma).mono ?_
      rintro e w4 ⟨mc, rfl, hm4, _, hc4, hmc⟩
      have hwr : wb < wr.heap.size := by obtain ⟨A, hA, _⟩ := HT.out.was; exact lt_of_obj hA
      have HT4 := Lib.hid (HT.out.kept0 hc4)
      have HM4 := Lib.hid hm4
      clear hm4 hc4 HT
      go_wp2_with fail
      refine (run_all w4 mc cb co cc _ HM4.out HG2.out F2 (by omega)).mono ?_
      rintro e w5 ⟨rfl, hm5, hc5⟩
      have HT5 := Lib.hid (HT4.out.kept hc5 (by simp; omega) (by simp; omega) (fun x hx => by have := HGW.out x hx; simp; omega) (by simp; omega) (fun k hk => by simp at hk; omega))
      generalize (Vm.run m F2).2.2 = m2 at *
      generalize (Vm.run m F2).2.1 = s2
      generalize (Vm.run m F2).1 = u2
      have HM5 := Lib.hid hm5
      clear hm5 hc5 HM4 HT4
      go_wp2_with fail
      refine (setReg_in w5 mc cb co cc _ HM5.out 3 (by omega) 77 (by decide)).mono ?_
      rintro e w6 ⟨rfl, hm6, hc6⟩
      have HT6 := Lib.hid (HT5.out.kept hc6 (by simp; omega) (by simp; omega) (fun x hx => by have := HGW.out x hx; simp; omega) (by simp; omega) (fun k hk => by simp at hk; omega))
      have hr3 : Vm.reg (Vm.setR m2 3 77) 3 = 77 := by
        have := HM5.out.r8
        simp [Vm.reg, Vm.setR, List.getD, this]
      have HM6 := Lib.hid hm6
      have hb3 : Bytes (w6.alloc (.cells #[.int .u8 1, .int .u8 2, .int .u8 3] 5)) (some ⟨w6.heap.size, 0, none⟩) 3 3 [1, 2, 3] :=
        ⟨rfl, by unfold maxLen; omega, fun _ => ⟨_, 0, rfl, fun j u hj => cells_of_take (k := 3) (heap_alloc_new w6 _) rfl (by rw [Nat.zero_add]; exact hj)⟩⟩
      have HB3 := Lib.hid hb3
      have HT7 := Lib.hid (HT6.out.kept0 ((Chg.refl [] w6).alloc (.cells #[.int .u8 1, .int .u8 2, .int .u8 3] 5)))
      have HM7 := Lib.hid (HM6.out.kept0 ((Chg.refl [] w6).alloc (.cells #[.int .u8 1, .int .u8 2, .int .u8 3] 5)))
      have hm6lt : mc < w6.heap.size := lt_of_obj HM6.out.obj
      clear hm6 hc6 HM5 HT5 hb3 HT6 HM6
      go_wp2_with fail
      refine (store_in _ mc cb co cc _ HM7.out 0 _ 3 3 _ HB3.out (by omega) (by omega) (fun x hx => by cases hx; show w6.heap.size ≠ mc; omega)).mono ?_
      rintro e w8 ⟨rfl, hm8, hc8⟩
      have HT8 := Lib.hid (HT7.out.kept hc8 (by simp; omega) (by simp; omega) (fun x hx => by have := HGW.out x hx; simp; omega) (by simp; omega) (fun k hk => by simp at hk; omega))
      have hr8 : Vm.reg (Vm.putM (Vm.setR m2 3 77) 0 [1, 2, 3]) 3 = 77 := hr3
      have HM8 := Lib.hid hm8
      generalize Vm.putM (Vm.setR m2 3 77) 0 [1, 2, 3] = m3 at *
      clear hm8 hc8 HT7 HM7 HB3 hr3
      go_wp2_with fail
      refine (load_in w8 mb cb co cc _ HT8.out.ma 0 1024 (by omega)).mono ?_
      rintro e w9 ⟨g2, rfl, hr9, hc9, -⟩
      have HT9 := Lib.hid (HT8.out.kept0 hc9)
      have HM9 := Lib.hid (HM8.out.kept0 hc9)
      have hs9 := hr9.src
      have S9 := Lib.hid hs9
      clear hr9 hc9 HT8 HM8 hs9
      go_wp2_with fail
      go_loopg [17] 8 (fun g vi wr => ∃ i : Nat, i + g = 8 ∧ vi = .int .i64 i ∧ CopyAt w wr mb cb co cc m g1 wb 8 ∧ MachAt wr mc cb co cc m3 ∧ SrcAt wr g2 (((m.mem.drop 0).take 1024).map byteV))
      case atStart => exact ⟨0, by omega, rfl, HT9.out, HM9.out, S9.out⟩
      case round =>
        obtain ⟨i, hi, rfl, ht, hm, hs⟩ := hrel
        clear HT9 HM9 S9
        have HT := Lib.hid ht
        have HM := Lib.hid hm
        have HS := Lib.hid hs
        clear ht hm hs
        cases gk with
        | succ g =>
          have hi8 : i < 8 := by omega
          have hi8' : (i : Int) < 8 := by omega
          have hi0 : (0 : Int) ≤ (i : Int) := by omega
          obtain ⟨A, hA, hsz, hAj⟩ := HT.out.was
          have hcell : wr.cell? ⟨wb, i, none⟩ = some (.int .i64 (Vm.reg m i)) := cell_of_obj hA (hAj i hi8)
          clear hA hAj
          go_wp2_with fail
          go_quiet ((go_at_call 15; refine Calls.quiet_of_same ((reg_in _ mb cb co cc _ (HT.out.ma.kept0 ((Chg.refl [] wr).drewN _)) i hi8).mono (fun e w' h => ⟨h.1, h.2.symm⟩))))
          go_wp2
          all_goals
            go_roundg g
            case measure => omega
            case rel => exact ⟨i + 1, by omega, by go_num, HT.out.kept0 ((Chg.refl [] wr).drewN _), HM.out.kept0 ((Chg.refl [] wr).drewN _), HS.out.kept0 ((Chg.refl [] wr).drewN _)⟩
        | zero =>
          obtain rfl : i = 8 := by omega
          go_wp2_with fail
          refine (pc_any wr mb cb co cc _ HT.out.ma).mono ?_
          rintro e w7 ⟨rfl, rfl⟩
          have hml : ((m.mem.drop 0).take 1024).length = 1024 := by have := HT.out.ma.m1k; simp [this]
          have k1 := conv_load wr g1 1024 1024 _ hml HT.out.x
          have k2 := conv_load wr g2 1024 1024 _ hml HS.out
          generalize (⟨((m.mem.drop 0).take 1024).toArray⟩ : ByteArray) = S at *
          go_wp2_with fail
          refine (reg_in wr mc cb co cc _ HM.out 3 (by omega)).mono ?_
          rintro e w7 ⟨rfl, rfl⟩
          rw [hr8]
          go_wp2_with (go_at_call 16; refine (awake_any _).mono ?_; rintro e w9 ⟨rfl, h9⟩)
          all_goals
            go_ret
            exact ⟨rfl, HT.out.chg.then0 h9⟩

set_option maxHeartbeats 4000000 in
set_option maxRecDepth 100000 in
theorem copies_bad (w : World) (a : Option Addr) (len cap : Nat) (bs : List UInt8) (h : Bytes w a len cap bs) (hv : validB bs = false) (f1 f2 : Int) :
    Calls Try.prog 10 #[.slice a len cap, .int .i64 f1, .int .i64 f2] w fun e w' => e = .returned (.bool true) ∧ Chg [] w w' := by
  have H := Lib.hid h
  have HV := Lib.hid hv
  clear h hv
  go_enter Try.func10, Try.ntmps10
  go_wp2_with fail
  refine (new_bad w a len cap bs H.out HV.out).mono ?_
  rintro e w1 ⟨rfl, hc1⟩
  have HC1 := Lib.hid hc1
  clear hc1
  go_wp2_with (go_at_call 16; refine (awake_any _).mono ?_; rintro e w9 ⟨rfl, h9⟩)
  all_goals
    go_ret
    exact ⟨rfl, HC1.out.then0 h9⟩

end Go.Proofs.Ytocjdbenelikpaa
