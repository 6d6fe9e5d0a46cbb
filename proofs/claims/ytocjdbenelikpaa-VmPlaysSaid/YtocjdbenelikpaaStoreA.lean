/-
  Store of whatever slice, walked.
-/
import Derived.Test.YtocjdbenelikpaaLoad
namespace Go.Proofs.Ytocjdbenelikpaa
open Go.RowKit
set_option linter.unusedVariables false
set_option linter.unusedSimpArgs false

set_option maxHeartbeats 4000000 in
theorem store_in2 (w : World) (mb cb co cc : Nat) (m : Vm.M) (h : MachAt w mb cb co cc m) (i : Nat) (a : Option Addr) (len cap : Nat) (ys : List UInt8) (hy : Bytes w a len cap ys) (hi : i + len ≤ 1024) (hne : i ≠ 1024) :
    Calls Try.prog 24 #[.pointer (some ⟨mb, 0, none⟩), .int .i64 i, .slice a len cap] w (StorePost w mb cb co cc m i ys) := by
  have H := Lib.hid h
  have HY := Lib.hid hy
  have hlen := hy.len
  clear h hy
  have hsl := fun W => slice_mem_l W mb i (by omega)
  have hsz : (Try.prog.info? 5).map (·.size) = some 1 := by kernel_rfl
  go_enter Try.func24, Try.ntmps24
  go_wp2_with fail
  refine (load_in w mb cb co cc m H.out i len hi).mono ?_
  rintro e w1 ⟨g, rfl, hr, hc, -⟩
  have HM1 := Lib.hid (H.out.kept0 hc)
  have HY1 := Lib.hid (HY.out.kept0 hc)
  have HC1 := Lib.hid hc
  clear hr hc HY
  generalize hCS : Vm.cells (.slice (some ⟨cb, co, none⟩) (4 * m.n) cc) m = CS
  have ho : w1.heap[mb]? = some (.cells CS.toList.toArray 71 (0, 0)) := by rw [← hCS]; exact HM1.out.obj
  have hfit : 10 + i + (ys.map byteV).length ≤ CS.toList.length := by
    rw [← hCS]; have := HM1.out.r8; have := HM1.out.m1k; simp [Vm.cells]; omega
  have hmin : (ys.map byteV).length = Nat.min len (1024 - i) := by
    have hm : ∀ a b : Nat, a ≤ b → a.min b = a := fun a b h => Nat.min_eq_left h
    rw [hm _ _ (by omega)]; simp [hlen]
  have hpos : 0 < (ys.map byteV).length → ∃ ad, a = some ad ∧ ∀ j v, (ys.map byteV)[j]? = some v → w1.cell? (ad.add j) = some v := by
    intro hp
    obtain ⟨b, off, h1, h2⟩ := HY1.out.src (by intro e; rw [e] at hp; simp at hp)
    exact ⟨_, h1, fun j v hj => by rw [Addr.add_off]; exact h2 j v hj⟩
  have HO := Lib.hid ho
  have HF := Lib.hid hfit
  have HP := Lib.hid hpos
  have HE := Lib.hid hCS
  clear ho hfit hpos hCS
  go_wp2_with (refine wpList_copy_chg rfl _ _ 26 26 rfl 5 Try.underlying26 hsz (some ⟨mb, 10 + i, none⟩) a (1024 - i) (1024 - i) len cap rfl rfl mb (10 + i) _ 71 HO.out (ys.map byteV) hmin (fun hp => ⟨rfl, HP.out hp⟩) HF.out (bytes_one _) ?_)
  intro w3 ho3 hc3
  have HO3 := Lib.hid ho3
  have HC3 := Lib.hid hc3
  clear ho3 hc3
  go_wp2
  go_ret
  refine ⟨rfl, MachAt.putM w1 mb cb co cc m HM1.out i ys (by omega) ?_ HC3.out, (HC1.out.mono (by simp)).trans HC3.out (by simp)⟩
  rw [HE.out]; exact HO3.out

theorem store_ok (w : World) (mb cb co cc : Nat) (m : Vm.M) (h : MachAt w mb cb co cc m) (i : Nat) (a : Option Addr) (len cap : Nat) (ys : List UInt8) (hy : Bytes w a len cap ys) (hi : i + len ≤ 1024) :
    Calls Try.prog 24 #[.pointer (some ⟨mb, 0, none⟩), .int .i64 i, .slice a len cap] w (StorePost w mb cb co cc m i ys) := by
  by_cases hne : i = 1024
  · subst hne
    have h0 : len = 0 := by omega
    subst h0
    have hys : ys = [] := List.eq_nil_of_length_eq_zero hy.len
    subst hys
    exact store_end w mb cb co cc m h a cap hy
  · exact store_in2 w mb cb co cc m h i a len cap ys hy hi hne

end Go.Proofs.Ytocjdbenelikpaa
