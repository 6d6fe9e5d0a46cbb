/-
  VmMemory, walked.
-/
import Derived.Test.YtocjdbenelikpaaMemoryP
import Derived.Test.YtocjdbenelikpaaSteps
import Derived.Test.YtocjdbenelikpaaCounts
import Derived.Deep.OwnRows
namespace Go.Proofs.Ytocjdbenelikpaa
open Go.RowKit
set_option linter.unusedVariables false
set_option linter.unusedSimpArgs false
set_option linter.unnecessarySimpa false

set_option maxHeartbeats 4000000 in
set_option maxRecDepth 100000 in
theorem memory_any (w : World) (a : Option Addr) (len cap : Nat) (d : List UInt8) (h : Bytes w a len cap d) (at_ v : Int) (hat : (Lit.int .i64 at_).wf = true) (hv : (Lit.int .i64 v).wf = true) :
    Calls Try.prog 9 #[.slice a len cap, .int .i64 at_, .int .i64 v] w fun e w' => e = .returned (.bool true) ∧ Chg [] w w' := by
  have hlen := h.len
  have hcap := h.cap
  have hcm : cap ≤ 9223372036854775807 := by have h1 := h.cap.2; unfold maxLen at h1; omega
  by_cases hbig : 512 < len
  · have hb2 : (512 : Int) < (len : Int) := by omega
    clear h
    go_enter Try.func9, Try.ntmps9
    go_wp2_with (go_at_call 16; refine (awake_any _).mono ?_; rintro e w9 ⟨rfl, h9⟩)
    all_goals
      go_ret
      exact ⟨rfl, h9⟩
  · have hd : d.length ≤ 512 := by omega
    have hb2 : (len : Int) ≤ 512 := by omega
    have hbs : Bytes (w.alloc (.cells #[.int .u8 20, .int .u8 1, .int .u8 2, .int .u8 0, .int .u8 19, .int .u8 3, .int .u8 2, .int .u8 0, .int .u8 0, .int .u8 0, .int .u8 0, .int .u8 0] 5)) (some ⟨w.heap.size, 0, none⟩) 12 12 MemP.code :=
      ⟨rfl, by unfold maxLen; omega, fun _ => ⟨_, 0, rfl, fun j u hj => cells_of_take (k := 12) (heap_alloc_new w _) rfl (by rw [Nat.zero_add]; exact hj)⟩⟩
    have hdw : Bytes (w.alloc (.cells #[.int .u8 20, .int .u8 1, .int .u8 2, .int .u8 0, .int .u8 19, .int .u8 3, .int .u8 2, .int .u8 0, .int .u8 0, .int .u8 0, .int .u8 0, .int .u8 0] 5)) a len cap d := h.kept0 ((Chg.refl [] w).alloc _)
    have HB := Lib.hid hbs
    have HD := Lib.hid hdw
    have H := Lib.hid h
    clear hbs hdw h hbig
    go_enter Try.func9, Try.ntmps9
    go_wp2_with fail
    refine (build_any _ _ 12 12 _ HB.out a len cap d HD.out (by omega) (by omega)).mono ?_
    rintro e w1 ⟨a1, len1, cap1, rfl, hb1, hc1⟩
    have HB1 : Hid (Bytes w1 a1 len1 cap1 (MemP.img d)) := Lib.hid hb1
    have HC1 := Lib.hid (((Chg.refl [] w).alloc _).then0 hc1)
    clear hb1 hc1 HB HD
    go_wp2_with fail
    refine (new_good w1 a1 len1 cap1 _ HB1.out (MemP.img_valid d hd)).mono ?_
    rintro e w2 ⟨mb, cb, co, cc, rfl, hm, hg, hc, hmb, -⟩
    have HM := Lib.hid hm
    have HC2 := Lib.hid (HC1.out.then0 hc)
    have HMB : Hid (w.heap.size ≤ mb) := Lib.hid (by have := HC1.out.size; omega)
    have HG := Lib.hid hg
    clear hm hc hmb HB1 HC1 hg
    go_wp2_with fail
    refine (load_in w2 mb cb co cc _ HM.out 0 1024 (by omega)).mono ?_
    rintro e w3 ⟨g, rfl, hr, hc3, hgb⟩
    rw [MemP.start_mem d hd] at hr
    have e0 : ((MemP.mem0 d).drop 0).take 1024 = MemP.mem0 d := by
      rw [List.drop_zero, List.take_of_length_le]
      simp [MemP.mem0]; omega
    rw [e0] at hr
    obtain ⟨gb, cap3, cur3, hv3, hg3, hcap3, hcm3, hcs3, hcur3⟩ : ∃ g' cap cur, (.slice g 1024 1024 : Value) = .slice (some ⟨g', 0, none⟩) 1024 cap ∧ w3.heap[g']? = some (.cells cur 5 (0, 0)) ∧ 1024 ≤ cap ∧ cap ≤ maxLen ∧ cap * 1 ≤ cur.size ∧ cur.toList.take (1024 * 1) = (MemP.mem0 d).map byteV := by
      rcases hr.2 with ⟨h0, _⟩ | hq
      · omega
      · exact hq
    cases hv3
    have hgw : w2.heap.size ≤ gb := hgb gb (by simp [rowBlock])
    have hmlt := lt_of_obj HM.out.obj
    have hclt := World.block_lt_of_cell? w2 _ (HM.out.code 0 (by have := HM.out.n1; omega))
    have hsz2 := HC2.out.size
    have HM3 := Lib.hid (HM.out.kept0 hc3)
    have HC3 := Lib.hid (HC2.out.then0 hc3)
    have HR3 := Lib.hid hg3
    have HU3 := Lib.hid hcur3
    clear hr hc3 hgb hg3 hcur3 HM HC2
    have hd3 : SrcAt w3 a (d.map byteV) := (H.out.kept0 HC3.out).src
    have hx3 : SrcAt w3 (some ⟨gb, 0, none⟩) ((MemP.mem0 d).map byteV) := fun _ => ⟨gb, 0, rfl, fun j u hj => cells_of_take HR3.out HU3.out (by rw [Nat.zero_add]; exact hj)⟩
    have hxa : SrcAt w3 (some ⟨gb, 0, none⟩) (d.map byteV) := by
      intro _
      refine ⟨gb, 0, rfl, fun j u hj => cells_of_take HR3.out HU3.out ?_⟩
      unfold MemP.mem0
      rw [List.map_append, Nat.zero_add, List.getElem?_append_left (List.getElem?_eq_some_iff.1 hj).1]
      exact hj
    have hxb : SrcAt w3 (some ⟨gb, len, none⟩) ((List.replicate (1024 - len) (0 : UInt8)).map byteV) := by
      intro _
      refine ⟨gb, len, rfl, fun j u hj => ?_⟩
      refine cells_of_take HR3.out HU3.out ?_
      unfold MemP.mem0
      rw [List.map_append, List.getElem?_append_right (by simp; omega)]
      simp only [List.length_map, hlen]
      rw [show len + j - len = j from by omega]
      exact hj
    have HD3 := Lib.hid hd3
    have HXA := Lib.hid hxa
    have HXB := Lib.hid hxb
    have kA := conv_load w3.drew (some ⟨gb, 0, none⟩) len 1024 d hlen (HXA.out.kept0 (Chg.refl [] w3).drew)
    have kB := conv_load w3.drew a len cap d hlen (HD3.out.kept0 (Chg.refl [] w3).drew)
    have kC := conv_load w3.drew (some ⟨gb, len, none⟩) (1024 - len) (1024 - len) _ (by simp) (HXB.out.kept0 (Chg.refl [] w3).drew)
    have W1 : IntKind.i64.wrap (1024 - (len : Int)) = ((1024 - len : Nat) : Int) := by rw [IntKind.wrap_i64]; omega
    have W2 : (1024 : Int) - (len : Int) = ((1024 - len : Nat) : Int) := by omega
    have hmk := run_make_row' (P := Try.prog) 26 5 (.int .u8 0) 1 Try.underlying26 Try.infoByte rfl .i64 .i64 (1024 - len) (by omega) (by omega)
    have kC2 := conv_load (w3.alloc (.cells (madeCells #[.int .u8 0] (1024 - len)) 5)).drew (some ⟨gb, len, none⟩) (1024 - len) (1024 - len) _ (by simp) (HXB.out.kept0 ((Chg.refl [] w3).alloc _).drew)
    have hz : SrcAt (w3.alloc (.cells (madeCells #[.int .u8 0] (1024 - len)) 5)).drew (some ⟨w3.heap.size, 0, none⟩) ((List.replicate (1024 - len) (0 : UInt8)).map byteV) := by
      intro _
      have e1 : (madeCells #[(.int .u8 0 : Value)] (1024 - len)).toList.take (1024 - len) = (List.replicate (1024 - len) (0 : UInt8)).map byteV := by
        rw [toList_madeCells_one, List.take_of_length_le (by simp), List.map_replicate]; rfl
      exact ⟨_, 0, rfl, fun j u hj => cells_of_take (heap_alloc_new w3 _) e1 (by rw [Nat.zero_add]; exact hj)⟩
    have kD2 := conv_load (w3.alloc (.cells (madeCells #[.int .u8 0] (1024 - len)) 5)).drew (some ⟨w3.heap.size, 0, none⟩) (1024 - len) (1024 - len) _ (by simp) hz
    go_wp2_with fail
    clear hz
    go_region
    clear kA kB kC kC2 kD2 hmk hxa hxb hx3 hd3 HXA HXB HD3 W1 W2
    generalize hw4 : (w3.alloc (.cells (madeCells #[.int .u8 0] (1024 - len)) 5)).drew = w4
    have hc4 : Chg [] w3 w4 := by subst hw4; exact ((Chg.refl [] w3).alloc _).drew
    have HM4 := Lib.hid (HM3.out.kept0 hc4)
    have HR4 := Lib.hid (hc4.obj HR3.out (by simp))
    have HC4 := Lib.hid (HC3.out.then0 hc4)
    have hsz4 : w3.heap.size ≤ w4.heap.size := hc4.size
    have hgb3 : gb < w3.heap.size := lt_of_obj HR3.out
    clear hw4 hc4 HM3 HR3 HC3
    go_wp2_with fail
    refine (setReg_in w4 mb cb co cc _ HM4.out 1 (by omega) v hv).mono ?_
    rintro e w5 ⟨rfl, hm5, hc5⟩
    have HM5 := Lib.hid hm5
    have HR5 := Lib.hid (hc5.obj HR4.out (by simp; omega))
    have HC5 : Hid (Chg [] w w5) := Lib.hid (HC4.out.trans hc5 (fun z hz => .inr (by have := HMB.out; simp at hz; omega)))
    have hsz5 := hc5.size
    clear hm5 hc5 HM4 HR4 HC4
    go_wp2_with fail
    refine (setReg_in w5 mb cb co cc _ HM5.out 2 (by omega) at_ hat).mono ?_
    rintro e w6 ⟨rfl, hm6, hc6⟩
    rw [MemP.img_start d hd] at hm6
    have hg6 : Vm.Good (MemP.Mm (MemP.mem0 d) [0, v, at_, 0, 0, 0, 0, 0] 0) := by
      rw [← MemP.img_start d hd]
      exact ⟨HG.out.code, HG.out.pc⟩
    have HG6 := Lib.hid hg6
    have HM6 := Lib.hid hm6
    have HR6 := Lib.hid (hc6.obj HR5.out (by simp; omega))
    have HC6 : Hid (Chg [] w w6) := Lib.hid (HC5.out.trans hc6 (fun z hz => .inr (by have := HMB.out; simp at hz; omega)))
    have hsz6 := hc6.size
    have hml : (MemP.mem0 d).length = 1024 := by unfold MemP.mem0; simp; omega
    clear hm6 hc6 HM5 HR5 HC5 hg6 HG
    generalize MemP.mem0 d = mem at *
    go_wp2_with fail
    by_cases hin : 0 ≤ at_ ∧ at_ < 1024
    · obtain ⟨i, rfl⟩ : ∃ i : Nat, at_ = (i : Int) := ⟨at_.toNat, by omega⟩
      have hi : i < 1024 := by omega
      have hi1 : (i : Int) < 1024 := by omega
      have hi0 : (0 : Int) ≤ (i : Int) := by omega
      refine (run_from w6 mb cb co cc _ HM6.out HG6.out rfl 9 (by omega) _ _ _ (MemP.run_in mem hml v i hi)).mono ?_
      rintro e w7 ⟨rfl, hm7, hc7⟩
      have HM7 := Lib.hid hm7
      have HR7 := Lib.hid (hc7.obj HR6.out (by simp; omega))
      have HC7 : Hid (Chg [] w w7) := Lib.hid (HC6.out.trans hc7 (fun z hz => .inr (by have := HMB.out; simp at hz; omega)))
      have hsz7 := hc7.size
      clear hm7 hc7 HM6 HR6 HC6 HG6 hin
      go_wp2_with fail
      refine (load_in w7 mb cb co cc _ HM7.out 0 1024 (by omega)).mono ?_
      rintro e w8 ⟨g2, rfl, hr8, hc8, hg8⟩
      have HM8 := Lib.hid (HM7.out.kept0 hc8)
      have HR8 := Lib.hid (hc8.obj HR7.out (by simp))
      have HC8 := Lib.hid (HC7.out.then0 hc8)
      have hs8 := hr8.src
      have hg2 : ∀ x, g2 = some x → x.block ≠ gb := by
        intro x hx
        subst hx
        have := hg8 x.block (by simp [rowBlock])
        omega
      have hB : byteV (Vm.byteOf v) = .int .u8 (v % 256) := by
        have := MemP.byteOf_wrap v
        rw [IntKind.wrap_u8] at this
        unfold byteV; rw [this]
      have hcs : i < cur3.size := by omega
      have hcell : w8.cell? ⟨gb, i, none⟩ = some (cur3[i]) := cell_of_obj HR8.out (by rw [Array.getElem?_eq_getElem hcs])
      have hfree := free_of_obj HR8.out i
      have hob := obj_setCell HR8.out i (.int .u8 (v % 256))
      have hch : Chg [gb] w8 (w8.setCell ⟨gb, i, none⟩ (.int .u8 (v % 256))) := (Chg.refl [gb] w8).setCell _ _ (by simp)
      have hx9 : SrcAt (w8.setCell ⟨gb, i, none⟩ (.int .u8 (v % 256))) (some ⟨gb, 0, none⟩) ((mem.set i (Vm.byteOf v)).map byteV) := by
        intro _
        refine ⟨gb, 0, rfl, fun j u hj => cells_of_take (k := 1024) hob ?_ (by rw [Nat.zero_add]; exact hj)⟩
        rw [Array.toList_setIfInBounds, List.take_set, show (1024 : Nat) = 1024 * 1 from rfl, HU3.out, List.map_set, hB]
      have hy9 := hs8.kept hch (fun x hx => by simpa using hg2 x hx)
      have k1 := conv_load _ (some ⟨gb, 0, none⟩) 1024 1024 _ (by simp [hml]) hx9
      have k2 := conv_load _ g2 1024 1024 _ (by simp [MemP.Mm, hml]) hy9
      have e9 : ((MemP.Mm (mem.set i (Vm.byteOf v)) [0, v, i, ((Vm.byteOf v).toNat : Int), 0, 0, 0, 0] 2).mem.drop 0).take 1024 = mem.set i (Vm.byteOf v) := by
        show ((mem.set i (Vm.byteOf v)).drop 0).take 1024 = _
        rw [List.drop_zero, List.take_of_length_le (by simp [hml])]
      rw [show ({ MemP.Mm (mem.set i (Vm.byteOf v)) [0, v, i, ((Vm.byteOf v).toNat : Int), 0, 0, 0, 0] 2 with stopped := 2 } : Vm.M).mem = (MemP.Mm (mem.set i (Vm.byteOf v)) [0, v, i, ((Vm.byteOf v).toNat : Int), 0, 0, 0, 0] 2).mem from rfl, e9] at k2
      have HM9 := Lib.hid (HM8.out.kept hch (by simp; omega) (by simp; omega))
      have HC9 : Hid (Chg [] w (w8.setCell ⟨gb, i, none⟩ (.int .u8 (v % 256)))) := Lib.hid (HC8.out.trans hch (fun z hz => .inr (by simp at hz; omega)))
      have hr3 : Vm.reg { MemP.Mm (mem.set i (Vm.byteOf v)) [0, v, i, ((Vm.byteOf v).toNat : Int), 0, 0, 0, 0] 2 with stopped := 2 } 3 = v % 256 := by
        show ((Vm.byteOf v).toNat : Int) = _
        rw [MemP.byteOf_wrap, IntKind.wrap_u8]
      generalize (⟨(mem.set i (Vm.byteOf v)).toArray⟩ : ByteArray) = S at *
      clear hx9 hy9 hob hch hr8 hc8 hg8 hs8 hB HM7 HR7 HC7 HM8 HC8
      go_wp2_with fail
      refine (reg_in _ mb cb co cc _ HM9.out 3 (by omega)).mono ?_
      rintro e w10 ⟨rfl, rfl⟩
      rw [hr3]
      have hv1 : 0 ≤ v % 256 := by omega
      have hv2 : v % 256 < 256 := by omega
      go_wp2_with (go_at_call 16; refine (awake_any _).mono ?_; rintro e w9 ⟨rfl, h9⟩)
      all_goals
        go_ret
        exact ⟨rfl, HC9.out.then0 h9⟩
    · refine (run_from w6 mb cb co cc _ HM6.out HG6.out rfl 9 (by omega) _ _ _ (MemP.run_out mem v at_ hin)).mono ?_
      rintro e w7 ⟨rfl, hm7, hc7⟩
      have HM7 := Lib.hid hm7
      have HR7 := Lib.hid (hc7.obj HR6.out (by simp; omega))
      have HC7 : Hid (Chg [] w w7) := Lib.hid (HC6.out.trans hc7 (fun z hz => .inr (by have := HMB.out; simp at hz; omega)))
      clear hm7 hc7 HM6 HR6 HC6 HG6
      go_wp2_with fail
      refine (load_in w7 mb cb co cc _ HM7.out 0 1024 (by omega)).mono ?_
      rintro e w8 ⟨g2, rfl, hr8, hc8, -⟩
      have HM8 := Lib.hid (HM7.out.kept0 hc8)
      have HR8 := Lib.hid (hc8.obj HR7.out (by simp))
      have HC8 := Lib.hid (HC7.out.then0 hc8)
      have hx8 : SrcAt w8 (some ⟨gb, 0, none⟩) (mem.map byteV) := fun _ => ⟨gb, 0, rfl, fun j u hj => cells_of_take HR8.out HU3.out (by rw [Nat.zero_add]; exact hj)⟩
      have k1 := conv_load w8 (some ⟨gb, 0, none⟩) 1024 1024 _ hml hx8
      have k2 := conv_load w8 g2 1024 1024 _ (by simp [MemP.Mm, hml]) hr8.src
      have e9 : (({ MemP.Mm mem [0, v, at_, 0, 0, 0, 0, 0] 0 with stopped := 4 } : Vm.M).mem.drop 0).take 1024 = mem := by
        show (mem.drop 0).take 1024 = _
        rw [List.drop_zero, List.take_of_length_le (by omega)]
      rw [e9] at k2
      generalize (⟨mem.toArray⟩ : ByteArray) = S at *
      clear hx8 hr8 hc8 HM7 HR7 HC7
      by_cases h0 : at_ < 0
      · clear hin
        go_wp2_with fail
        refine (pc_any w8 mb cb co cc _ HM8.out).mono ?_
        rintro e w10 ⟨rfl, rfl⟩
        rw [show ({ MemP.Mm mem [0, v, at_, 0, 0, 0, 0, 0] 0 with stopped := 4 } : Vm.M).pc = 0 from rfl]
        go_wp2_with (go_at_call 16; refine (awake_any _).mono ?_; rintro e w9 ⟨rfl, h9⟩)
        all_goals
          go_ret
          exact ⟨rfl, HC8.out.then0 h9⟩
      · have h1 : 1024 ≤ at_ := by omega
        clear hin
        go_wp2_with fail
        refine (pc_any w8 mb cb co cc _ HM8.out).mono ?_
        rintro e w10 ⟨rfl, rfl⟩
        rw [show ({ MemP.Mm mem [0, v, at_, 0, 0, 0, 0, 0] 0 with stopped := 4 } : Vm.M).pc = 0 from rfl]
        go_wp2_with (go_at_call 16; refine (awake_any _).mono ?_; rintro e w9 ⟨rfl, h9⟩)
        all_goals
          go_ret
          exact ⟨rfl, HC8.out.then0 h9⟩

end Go.Proofs.Ytocjdbenelikpaa
