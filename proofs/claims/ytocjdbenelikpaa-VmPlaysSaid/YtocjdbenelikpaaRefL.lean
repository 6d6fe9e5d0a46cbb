/-
  The document's Load, Store, Jump, Copy, walked.
-/
import Derived.Test.YtocjdbenelikpaaRefM
namespace Go.Proofs.Ytocjdbenelikpaa
open Go.RowKit
set_option linter.unusedVariables false
set_option linter.unusedSimpArgs false

section
variable (w : World) (rb : Nat) (m : Vm.M)

theorem ref_load_in (h : RefAt w rb m) (i k : Nat) (hi : i + k ≤ 1024) :
    Calls Try.prog 27 #[.pointer (some ⟨rb, 0, none⟩), .int .i64 i, .int .i64 k] w fun e w' => e = .returned (.tuple #[.string (strB ((m.mem.drop i).take k)), .bool true]) ∧ w = w' := by
  have hc := h.mem
  have hsz : (strB m.mem).size = 1024 := by rw [strB_size, h.m1k]
  have hx : (strB m.mem).extract i (i + k) = strB ((m.mem.drop i).take k) := by rw [strB_extract, show i + k - i = k from by omega]
  have i0 : (0 : Int) ≤ (i : Int) := by omega
  have k0 : (0 : Int) ≤ (k : Int) := by omega
  have i1 : (i : Int) ≤ 1024 := by omega
  have k2 : (k : Int) ≤ 1024 - (i : Int) := by omega
  have k3 : (i : Int) + (k : Int) ≤ 1024 := by omega
  have k4 : (i : Int) ≤ (i : Int) + (k : Int) := by omega
  have k5 : ((i : Int) + (k : Int)).toNat = i + k := by omega
  clear h
  go_enter Try.func27, Try.ntmps27
  go_wp2
  go_ret2
  exact ⟨rfl, rfl⟩

theorem ref_load_out (i k : Int) (hi : i < 0 ∨ k < 0 ∨ 1024 < i ∨ 1024 - i < k) :
    Calls Try.prog 27 #[.pointer (some ⟨rb, 0, none⟩), .int .i64 i, .int .i64 k] w fun e w' => e = .returned (.tuple #[.string (strB []), .bool false]) ∧ w = w' := by
  by_cases h1 : i < 0
  · clear hi
    go_enter Try.func27, Try.ntmps27
    go_wp2
    go_ret2
    exact ⟨rfl, rfl⟩
  · by_cases h2 : k < 0
    · clear hi
      go_enter Try.func27, Try.ntmps27
      go_wp2
      go_ret2
      exact ⟨rfl, rfl⟩
    · by_cases h3 : 1024 < i
      · clear hi
        go_enter Try.func27, Try.ntmps27
        go_wp2
        go_ret2
        exact ⟨rfl, rfl⟩
      · have h4 : 1024 - i < k := by omega
        clear hi
        go_enter Try.func27, Try.ntmps27
        go_wp2
        go_ret2
        exact ⟨rfl, rfl⟩

theorem strB_append (a b : List UInt8) : strB a ++ strB b = strB (a ++ b) := by
  unfold strB
  apply ByteArray.ext
  simp

set_option maxHeartbeats 1000000 in
theorem ref_store_in (h : RefAt w rb m) (i : Nat) (ys : List UInt8) (hi : i + ys.length ≤ 1024) :
    Calls Try.prog 28 #[.pointer (some ⟨rb, 0, none⟩), .int .i64 i, .string (strB ys)] w fun e w' => e = .returned (.bool true) ∧ RefAt w' rb (Vm.putM m i ys) ∧ Chg [rb] w w' := by
  have hc := h.mem
  have hf := h.free 10
  have hsz : (strB m.mem).size = 1024 := by rw [strB_size, h.m1k]
  have hys : (strB ys).size = ys.length := strB_size ys
  obtain ⟨L, hL⟩ : ∃ L, ys.length = L := ⟨_, rfl⟩
  rw [hL] at hys hi
  have x1 : (strB m.mem).extract 0 i = strB (m.mem.take i) := by rw [strB_extract]; simp
  have x2 : (strB m.mem).extract (i + L) 1024 = strB (m.mem.drop (i + L)) := by
    rw [strB_extract, List.take_of_length_le (by simp [h.m1k])]
  have i0 : (0 : Int) ≤ (i : Int) := by omega
  have i1 : (i : Int) ≤ 1024 := by omega
  have k2 : (L : Int) ≤ 1024 - (i : Int) := by omega
  have k3 : (i : Int) + (L : Int) ≤ 1024 := by omega
  have k4 : (0 : Int) ≤ (i : Int) + (L : Int) := by omega
  have k5 : ((i : Int) + (L : Int)).toNat = i + L := by omega
  have a1 := strB_append (m.mem.take i) ys
  have a2 := strB_append (m.mem.take i ++ ys) (m.mem.drop (i + L))
  have s1 : (strB (m.mem.take i)).size = i := by rw [strB_size]; simp [h.m1k]; omega
  have s2 : (strB (m.mem.take i ++ ys)).size = i + L := by rw [strB_size]; simp [h.m1k, hL]; omega
  have s3 : (strB (m.mem.drop (i + L))).size = 1024 - (i + L) := by rw [strB_size]; simp [h.m1k]
  have hw : IntKind.i64.wrap ((i : Int) + (L : Int)) = (i : Int) + (L : Int) := by rw [IntKind.wrap_i64]; omega
  have H := Lib.hid h
  clear h
  go_enter Try.func28, Try.ntmps28
  go_wp2_with fail
  go_region
  all_goals
    go_wp2
    go_ret
    have hl : (m.mem.take i ++ (ys ++ m.mem.drop (i + L))).length = 1024 := by have := H.out.m1k; simp [this, hL]; omega
    have e : Vm.putM m i ys = { m with mem := m.mem.take i ++ (ys ++ m.mem.drop (i + L)) } := by unfold Vm.putM; rw [hL]
    rw [e]
    exact ⟨rfl, (H.out.setMem _ hl).drew, ((Chg.refl [rb] w).setCell _ _ (by simp)).drew⟩

theorem ref_store_out (i : Int) (ys : List UInt8) (hi : i < 0 ∨ 1024 < i ∨ 1024 - i < (ys.length : Int)) :
    Calls Try.prog 28 #[.pointer (some ⟨rb, 0, none⟩), .int .i64 i, .string (strB ys)] w fun e w' => e = .returned (.bool false) ∧ w = w' := by
  have hys : (strB ys).size = ys.length := strB_size ys
  obtain ⟨L, hL⟩ : ∃ L, ys.length = L := ⟨_, rfl⟩
  rw [hL] at hys hi
  by_cases h1 : i < 0
  · clear hi
    go_enter Try.func28, Try.ntmps28
    go_wp2
    go_ret
    exact ⟨rfl, rfl⟩
  · by_cases h3 : 1024 < i
    · clear hi
      go_enter Try.func28, Try.ntmps28
      go_wp2
      go_ret
      exact ⟨rfl, rfl⟩
    · have h4 : 1024 - i < (L : Int) := by omega
      clear hi
      go_enter Try.func28, Try.ntmps28
      go_wp2
      go_ret
      exact ⟨rfl, rfl⟩

theorem ref_jump_in (h : RefAt w rb m) (i : Nat) (hi : i < m.n) :
    Calls Try.prog 30 #[.pointer (some ⟨rb, 0, none⟩), .int .i64 i] w fun e w' => e = .returned (.bool true) ∧ RefAt w' rb { m with pc := i, stopped := 0 } ∧ Chg [rb] w w' := by
  have cn := h.n
  have c1 := h.pc
  have c2 := h.stopped
  have f1 := h.free 11
  have f2 := h.free 12
  have hq : RefAt ((w.setCell ⟨rb, 11, none⟩ (.int .i64 i)).setCell ⟨rb, 12, none⟩ (.int .i64 0)) rb { m with pc := i, stopped := 0 } := (h.setPc i).setStopped 0
  generalize m.n = n at *
  have HQ := Lib.hid hq
  clear h hq
  have i0 : (0 : Int) ≤ (i : Int) := by omega
  have i1 : (i : Int) < (n : Int) := by omega
  go_enter Try.func30, Try.ntmps30
  go_wp2
  go_ret
  exact ⟨rfl, HQ.out, ((Chg.refl [rb] w).setCell _ _ (by simp)).setCell _ _ (by simp)⟩

theorem ref_jump_out (h : RefAt w rb m) (i : Int) (hi : i < 0 ∨ (m.n : Int) ≤ i) :
    Calls Try.prog 30 #[.pointer (some ⟨rb, 0, none⟩), .int .i64 i] w fun e w' => e = .returned (.bool false) ∧ w = w' := by
  have cn := h.n
  clear h
  generalize m.n = n at *
  by_cases h0 : i < 0
  · clear hi
    go_enter Try.func30, Try.ntmps30
    go_wp2
    go_ret
    exact ⟨rfl, rfl⟩
  · have h1 : (n : Int) ≤ i := by omega
    clear hi
    go_enter Try.func30, Try.ntmps30
    go_wp2
    go_ret
    exact ⟨rfl, rfl⟩

theorem Try.refSize : (Try.prog.info? 58).map (·.size) = some 13 := by kernel_rfl

set_option maxHeartbeats 1000000 in
theorem ref_copy (h : RefAt w rb m) :
    Calls Try.prog 31 #[.pointer (some ⟨rb, 0, none⟩)] w fun e w' => ∃ rb', e = .returned (.pointer (some ⟨rb', 0, none⟩)) ∧ RefAt w' rb' m ∧ Chg [] w w' ∧ w.heap.size ≤ rb' := by
  have H := Lib.hid h
  have ho := h.obj
  have hsz : (refCells m).size = 13 := by simp [refCells, h.r8]
  have h1 : (refCells m).all (·.oneCell') = true := by
    unfold refCells
    rw [List.all_toArray, List.all_eq_true]
    intro x hx
    simp only [List.mem_cons, List.mem_append, List.mem_map, List.not_mem_nil, or_false] at hx
    rcases hx with rfl | rfl | ⟨_, _, rfl⟩ | rfl | rfl | rfl
    all_goals rfl
  generalize hCS : refCells m = CS at *
  have HO := Lib.hid ho
  have HE := Lib.hid hCS
  have hi : (Try.prog.info? 58).map (·.size) = some CS.size := by rw [hsz]; exact Try.refSize
  clear h ho hCS
  go_enter Try.func31, Try.ntmps31
  go_wp2_with (first
    | (refine wpList_load_row rfl 58 _ rfl rb rfl 58 CS (0, 0) _ HO.out Try.underlying58 rfl hi ?_)
    | (refine wpList_store_new _ rfl 58 _ _ rfl rfl _ CS rfl rfl hi (by rw [hsz]; kernel_rfl) h1 ?_))
  go_ret
  have hq : (w.alloc (.cells CS 58)).heap[w.heap.size]? = some (.cells CS 58 (0, 0)) := heap_alloc_new w _
  have h0 := H.out
  exact ⟨w.heap.size, rfl, ⟨by rw [HE.out]; exact hq, h0.len, h0.n1, h0.r8, h0.m1k, h0.wf⟩, (Chg.refl [] w).alloc _, Nat.le_refl _⟩
end

end Go.Proofs.Ytocjdbenelikpaa
