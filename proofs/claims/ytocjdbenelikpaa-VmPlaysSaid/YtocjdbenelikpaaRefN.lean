/-
  The document's New, the law's own same, and what is left of Run: walked.
-/
import Derived.Test.YtocjdbenelikpaaRefW
import Derived.Test.YtocjdbenelikpaaRefL
import Derived.Test.YtocjdbenelikpaaCopies
import Derived.Test.YtocjdbenelikpaaMemory
import Derived.Deep.OwnRows
namespace Go.Proofs.Ytocjdbenelikpaa
open Go.RowKit
set_option linter.unusedVariables false
set_option linter.unusedSimpArgs false

theorem ref_new_bad (w : World) (bs : List UInt8) (hb : bs.length ≤ 9223372036854775807) (hv : validB bs = false) :
    Calls Try.prog 25 #[.string (strB bs)] w fun e w' => e = .returned (.tuple #[.pointer none, .bool false]) ∧ Chg [] w w' := by
  go_enter Try.func25, Try.ntmps25
  go_wp2_with fail
  refine (valid_ref w bs hb).mono ?_
  rw [hv]
  rintro e w1 ⟨rfl, h1⟩
  go_wp2
  go_ret2
  exact ⟨rfl, h1⟩

set_option maxHeartbeats 4000000 in
set_option maxRecDepth 100000 in
theorem ref_new_good (w : World) (bs : List UInt8) (hb : bs.length ≤ 9223372036854775807) (hv : validB bs = true) :
    Calls Try.prog 25 #[.string (strB bs)] w fun e w' => ∃ rb, e = .returned (.tuple #[.pointer (some ⟨rb, 0, none⟩), .bool true]) ∧ RefAt w' rb (Vm.ofImage bs) ∧ Chg [] w w' ∧ w.heap.size ≤ rb := by
  have hs : sizesOk bs = true := by unfold validB at hv; simp at hv; exact hv.1
  have hz : lz bs = true := by unfold sizesOk at hs; simp at hs; exact hs.1
  have hnd : 1 ≤ headN bs 2 ∧ headN bs 2 ≤ 256 ∧ headN bs 4 ≤ 512 ∧ bs.length = 6 + 4 * headN bs 2 + headN bs 4 := by unfold sizesOk at hs; simp at hs; exact hs.2
  have HS := Lib.hid hs
  have HZ := Lib.hid hz
  have hsz := strB_size bs
  clear hs hz
  go_enter Try.func25, Try.ntmps25
  go_wp2_with fail
  refine (valid_ref w bs hb).mono ?_
  rw [hv]
  rintro e w1 ⟨rfl, h1⟩
  have H1 := Lib.hid h1
  clear h1
  go_wp2_with fail
  refine (counts_ref w1 bs hb).mono ?_
  unfold SizesPost
  rw [HS.out, HZ.out]
  simp only [if_true]
  obtain ⟨n, hn⟩ : ∃ n, headN bs 2 = n := ⟨_, rfl⟩
  rw [hn] at hnd
  rw [hn]
  obtain ⟨D, hD⟩ : ∃ D, headN bs 4 = D := ⟨_, rfl⟩
  rw [hD] at hnd
  rw [hD]
  rintro e w2 ⟨rfl, h2⟩
  have H2 := Lib.hid (H1.out.then0 h2)
  clear h2 H1
  have x1 : (strB bs).extract 6 (6 + 4 * n) = strB ((bs.drop 6).take (4 * n)) := by rw [strB_extract, show 6 + 4 * n - 6 = 4 * n from by omega]
  have x2 : (strB bs).extract (6 + 4 * n) (6 + 4 * n + D) = strB (bs.drop (6 + 4 * n)) := by rw [strB_extract, List.take_of_length_le (by simp; omega)]
  have q1 : (6 : Int) ≤ 6 + 4 * (n : Int) := by omega
  have q2 : (6 : Int) + 4 * (n : Int) ≤ (bs.length : Int) := by omega
  have q3 : (6 : Int) + 4 * (n : Int) ≤ ((strB bs).size : Int) := by omega
  have q4 : ((6 : Int) + 4 * (n : Int)).toNat = 6 + 4 * n := by omega
  have q5 : IntKind.i64.wrap (4 * (n : Int)) = 4 * (n : Int) := by rw [IntKind.wrap_i64]; omega
  have q6 : IntKind.i64.wrap (6 + 4 * (n : Int)) = 6 + 4 * (n : Int) := by rw [IntKind.wrap_i64]; omega
  have q0 : (0 : Int) ≤ 6 + 4 * (n : Int) := by omega
  have W1 : IntKind.i64.wrap (1024 - (D : Int)) = ((1024 - D : Nat) : Int) := by rw [IntKind.wrap_i64]; omega
  have W2 : (1024 : Int) - (D : Int) = ((1024 - D : Nat) : Int) := by omega
  have hmk := run_make_row' (P := Try.prog) 26 5 (.int .u8 0) 1 Try.underlying26 Try.infoByte rfl .i64 .i64 (1024 - D) (by omega) (by omega)
  have hzz : ∀ W : World, W.heap[w2.heap.size]? = some (.cells (madeCells #[.int .u8 0] (1024 - D)) 5 (0, 0)) → SrcAt W (some ⟨w2.heap.size, 0, none⟩) ((List.replicate (1024 - D) (0 : UInt8)).map byteV) := by
    intro W hW _
    have e1 : (madeCells #[(.int .u8 0 : Value)] (1024 - D)).toList.take (1024 - D) = (List.replicate (1024 - D) (0 : UInt8)).map byteV := by
      rw [toList_madeCells_one, List.take_of_length_le (by simp), List.map_replicate]; rfl
    exact ⟨_, 0, rfl, fun j u hj => cells_of_take hW e1 (by rw [Nat.zero_add]; exact hj)⟩
  have kD := conv_load (w2.alloc (.cells (madeCells #[.int .u8 0] (1024 - D)) 5)).drew (some ⟨w2.heap.size, 0, none⟩) (1024 - D) (1024 - D) _ (by simp) (hzz _ (heap_alloc_new w2 _))
  rw [show (⟨(List.replicate (1024 - D) (0 : UInt8)).toArray⟩ : ByteArray) = strB (List.replicate (1024 - D) 0) from rfl] at kD
  have a1 := strB_append (bs.drop (6 + 4 * n)) (List.replicate (1024 - D) 0)
  have s1 : (strB (bs.drop (6 + 4 * n))).size = D := by rw [strB_size]; simp; omega
  have s2 : (strB (List.replicate (1024 - D) (0 : UInt8))).size = 1024 - D := by rw [strB_size]; simp
  clear hzz
  go_wp2_with fail
  go_region
  all_goals
    go_wp2
    go_ret2
    have hmem : (Vm.ofImage bs).mem = bs.drop (6 + 4 * n) ++ List.replicate (1024 - D) 0 := by
      unfold Vm.ofImage
      dsimp only
      rw [hn, show bs.length - (6 + 4 * n) = D from by omega]
    have hcode : (Vm.ofImage bs).code = (bs.drop 6).take (4 * n) := by unfold Vm.ofImage; dsimp only; rw [hn]
    have hnn : (Vm.ofImage bs).n = n := hn
    have hcells : refCells (Vm.ofImage bs) = #[.string (strB ((bs.drop 6).take (4 * n))), .int .i64 n, .int .i64 0, .int .i64 0, .int .i64 0, .int .i64 0, .int .i64 0, .int .i64 0, .int .i64 0, .int .i64 0,
        .string (strB (bs.drop (6 + 4 * n) ++ List.replicate (1024 - D) 0)), .int .i64 0, .int .i64 0] := by
      unfold refCells
      rw [hmem, hcode, hnn]
      rfl
    refine ⟨w2.heap.size + 1, rfl, ⟨?_, ?_, ?_, rfl, ?_, ?_⟩, ?_, ?_⟩
    · rw [hcells]
      have := heap_alloc_new (w2.alloc (.cells (madeCells #[.int .u8 0] (1024 - D)) 5)) (.cells #[.string (strB ((bs.drop 6).take (4 * n))), .int .i64 n, .int .i64 0, .int .i64 0, .int .i64 0, .int .i64 0, .int .i64 0, .int .i64 0, .int .i64 0, .int .i64 0,
        .string (strB (bs.drop (6 + 4 * n) ++ List.replicate (1024 - D) 0)), .int .i64 0, .int .i64 0] 58)
      have e : (w2.alloc (.cells (madeCells #[.int .u8 0] (1024 - D)) 5)).heap.size = w2.heap.size + 1 := by simp
      rw [e] at this
      exact this
    · rw [hcode, hnn]; simp; omega
    · rw [hnn]; omega
    · rw [hmem]; simp; omega
    · intro i hi
      have : Vm.reg (Vm.ofImage bs) i = 0 := by
        unfold Vm.reg Vm.ofImage
        dsimp only
        rw [List.getD_eq_getElem?_getD, List.getElem?_replicate]
        split <;> rfl
      rw [this]; rfl
    · exact ((H2.out.alloc _).alloc _).drew
    · have := H2.out.size; omega

/-- 'same': both machines stand at the same place. -/
theorem same_any (w : World) (mb cb co cc rb : Nat) (m : Vm.M) (hm : MachAt w mb cb co cc m) (hr : RefAt w rb m) :
    Calls Try.prog 32 #[.pointer (some ⟨mb, 0, none⟩), .pointer (some ⟨rb, 0, none⟩)] w fun e w' => e = .returned (.bool true) ∧ Chg [] w w' := by
  have HM := Lib.hid hm
  have HR := Lib.hid hr
  clear hm hr
  go_enter Try.func32, Try.ntmps32
  go_wp2_with fail
  go_loopg [5] 8 (fun g vi wr => ∃ i : Nat, i + g = 8 ∧ vi = .int .i64 i ∧ MachAt wr mb cb co cc m ∧ RefAt wr rb m ∧ Chg [] w wr)
  case atStart => exact ⟨0, by omega, rfl, HM.out, HR.out, Chg.refl _ _⟩
  case round =>
    obtain ⟨i, hi, rfl, hm, hr, hc⟩ := hrel
    clear HM HR
    have HM := Lib.hid hm
    have HR := Lib.hid hr
    have HC := Lib.hid hc
    clear hm hr hc
    cases gk with
    | succ g =>
      have hi8 : i < 8 := by omega
      have hi8' : (i : Int) < 8 := by omega
      have hi0 : (0 : Int) ≤ (i : Int) := by omega
      have hcell := HR.out.reg hi8
      go_wp2_with fail
      go_quiet ((go_at_call 15; refine Calls.quiet_of_same ((reg_in _ mb cb co cc _ (HM.out.kept0 ((Chg.refl [] wr).drewN _)) i hi8).mono (fun e w' h => ⟨h.1, h.2.symm⟩))))
      go_wp2
      all_goals
        go_roundg g
        case measure => omega
        case rel => exact ⟨i + 1, by omega, by go_num, HM.out.kept0 ((Chg.refl [] wr).drewN _), HR.out.kept0 ((Chg.refl [] wr).drewN _), HC.out.drewN _⟩
    | zero =>
      obtain rfl : i = 8 := by omega
      go_wp2_with fail
      refine (load_in wr mb cb co cc _ HM.out 0 1024 (by omega)).mono ?_
      rintro e w5 ⟨g1, rfl, hr1, hc1, -⟩
      have HM5 := Lib.hid (HM.out.kept0 hc1)
      have HR5 := Lib.hid (HR.out.kept0 hc1)
      have HC5 := Lib.hid (HC.out.then0 hc1)
      have e0 : (m.mem.drop 0).take 1024 = m.mem := by rw [List.drop_zero, List.take_of_length_le (by have := HM.out.m1k; omega)]
      rw [e0] at hr1
      have S5 := Lib.hid hr1.src
      have cmem := HR5.out.mem
      have cpc := HR5.out.pc
      have hml := HM5.out.m1k
      clear hr1 hc1 HM HR HC
      have k1 : ∀ n, (convert 26 9 (.slice g1 1024 1024)).run Try.prog (w5.drewN n) = .ok (.string (strB m.mem)) (w5.drewN n) := fun n => conv_load (w5.drewN n) g1 1024 1024 m.mem hml (S5.out.kept0 ((Chg.refl [] w5).drewN n))
      go_wp2_with fail
      go_quiet ((go_at_call 17; refine Calls.quiet_of_same ((pc_any _ mb cb co cc _ (HM5.out.kept0 ((Chg.refl [] w5).drewN _))).mono (fun e w' h => ⟨h.1, h.2.symm⟩))))
      go_wp2
      all_goals
        go_ret
        exact ⟨rfl, HC5.out.drewN _⟩

end Go.Proofs.Ytocjdbenelikpaa
