/-
  Load, Store, Copy, walked.
-/
import Derived.Test.YtocjdbenelikpaaNew
import Derived.Test.YtocjdbenelikpaaGet
import Derived.Test.YtocjdbenelikpaaRow2
import Derived.Test.YtocjdbenelikpaaBuild
namespace Go.Proofs.Ytocjdbenelikpaa
open Go.RowKit
set_option linter.unusedVariables false
set_option linter.unusedSimpArgs false

theorem MachAt.srcMem {w : World} {mb cb co cc : Nat} {m : Vm.M} (h : MachAt w mb cb co cc m) (i k : Nat) (hi : i + k ≤ 1024) : SrcAt w (some ⟨mb, 10 + i, none⟩) (((m.mem.drop i).take k).map byteV) := by
  intro _
  refine ⟨mb, 10 + i, rfl, fun j u hj => ?_⟩
  rw [List.getElem?_map, List.getElem?_take] at hj
  split at hj
  · rw [List.getElem?_drop] at hj
    have := h.byte (i := i + j) (by omega)
    rw [Nat.add_assoc, this]
    cases hq : m.mem[i + j]? with
    | none => rw [hq] at hj; cases hj
    | some x => rw [hq] at hj; simp at hj; rw [← hj]; simp [List.getD, hq]
  · cases hj

theorem Try.arr1k : Try.prog.arrayLen 69 = 1024 := by kernel_rfl
theorem Try.elem1k : Try.prog.elem 69 = 5 := by kernel_rfl
theorem Try.und1k : Try.prog.underlying 69 = some (.array (Try.prog.arrayLen 69) (Try.prog.elem 69)) := by kernel_rfl
theorem Try.size8 (w : World) : (sizeOf 5).run Try.prog w = .ok 1 w := by
  obtain ⟨i0, hi, hz0, hz1, hz2⟩ := info_parts Try.infoByte
  simp [sizeOf, typeInfo, hi, hz1]

theorem slice_mem_lh (w : World) (mb i k : Nat) (hi : i + k ≤ 1024) (hne : i ≠ 1024) :
    (Instr.sliceAt 69 (.pointer (some ⟨mb, 10, none⟩)) (some (.int .i64 (i : Int))) (some (.int .i64 ((i : Int) + (k : Int)))) none).run Try.prog w = .ok (.slice (some ⟨mb, 10 + i, none⟩) k (1024 - i)) w := by
  rw [run_sliceAt_array_lh w _ ⟨mb, 10, none⟩ Try.und1k .i64 .i64 _ _ (by omega) (by omega) (by rw [Try.arr1k]; omega), Try.elem1k, Try.size8, Try.arr1k]
  have e1 : ((i : Int)).toNat = i := by omega
  have e2 : ((i : Int) + (k : Int)).toNat = i + k := by omega
  simp [slicedAt, e1, e2, Result.andThen, Addr.add_off, Ne.symm hne]

theorem slice_mem_l (w : World) (mb i : Nat) (hi : i < 1024) :
    (Instr.sliceAt 69 (.pointer (some ⟨mb, 10, none⟩)) (some (.int .i64 (i : Int))) none none).run Try.prog w = .ok (.slice (some ⟨mb, 10 + i, none⟩) (1024 - i) (1024 - i)) w := by
  rw [run_sliceAt_array_l w _ ⟨mb, 10, none⟩ Try.und1k .i64 _ (by omega) (by rw [Try.arr1k]; omega), Try.elem1k, Try.size8, Try.arr1k]
  have e1 : ((i : Int)).toNat = i := by omega
  have hne : ¬ 1024 = i := by omega
  simp [slicedAt, e1, Result.andThen, Addr.add_off, hne]

/-- what Load answers within its bounds. -/
def LoadPost (w : World) (m : Vm.M) (i k : Nat) : Ending → World → Prop := fun e w' =>
  ∃ g, e = .returned (.tuple #[.slice g k k, .bool true]) ∧ Row w' 5 1 (.slice g k k) k (((m.mem.drop i).take k).map byteV) ∧ Chg [] w w' ∧ ∀ b ∈ rowBlock (.slice g k k), w.heap.size ≤ b

/-- copy, with what it leaves as a change of one block. -/
theorem wpList_copy_chg {P : Program} {w : World} {ops : Array Oper} {rest : List Oper} {o : Oper} {a : Act} {Q : Exit → Act → World → Prop} (hgd : o.guard = none) (d s : Operand) (dT sT : TypeId)
    (ho : o.op = .call { callee := .builtin .copy, args := #[d, s], argTypes := #[dT, sT] }) (elem : TypeId) (hu : P.underlying dT = some (.slice elem)) (hsz : (P.info? elem).map (·.size) = some 1)
    (dp sp : Option Addr) (dLen dCap sLen sCap : Nat) (hd : a.eval d = .slice dp dLen dCap) (hs : a.eval s = .slice sp sLen sCap)
    (g off : Nat) (cur : List Value) (t : TypeId) (hg : w.heap[g]? = some (.cells cur.toArray t (0, 0))) (cs : List Value) (hn : cs.length = Nat.min sLen dLen)
    (hpos : 0 < cs.length → dp = some ⟨g, off, none⟩ ∧ ∃ ad, sp = some ad ∧ ∀ j v, cs[j]? = some v → w.cell? (ad.add j) = some v)
    (hfit : off + cs.length ≤ cur.length) (h1 : ∀ v ∈ cs, v.oneCell' = true)
    (h : ∀ w', w'.heap[g]? = some (.cells (splice cur off cs).toArray t (0, 0)) → Chg [g] w w' → wpList P ops Q rest (a.put o.dst (goInt cs.length)) w') :
    wpList P ops Q (o :: rest) a w := by
  by_cases h0 : cs.length = 0
  · obtain rfl : cs = [] := List.eq_nil_of_length_eq_zero h0
    refine wpList_copy_nothing hgd d s dT sT ho elem hu hsz dp sp dLen dCap sLen sCap hd hs (by simpa using hn.symm) ?_
    exact h w (by simpa [splice] using hg) (Chg.refl _ _)
  · obtain ⟨rfl, ad, rfl, hsrc⟩ := hpos (by omega)
    refine wpList_copy_own hgd d s dT sT ho elem hu hsz g off dLen dCap ad sLen sCap hd hs cur.toArray t hg cs hn hsrc (by simpa using hfit) h1 ?_
    exact h _ (by simpa [splice] using setRow_heap w g _ _ t _ hg) ((Chg.refl [g] w).setRow _ _ (by simp))

section
variable (w : World) (mb cb co cc : Nat) (m : Vm.M)

set_option maxHeartbeats 1000000 in
theorem load_in (h : MachAt w mb cb co cc m) (i k : Nat) (hi : i + k ≤ 1024) :
    Calls Try.prog 22 #[.pointer (some ⟨mb, 0, none⟩), .int .i64 i, .int .i64 k] w (LoadPost w m i k) := by
  have H := Lib.hid h
  have hml := h.m1k
  clear h
  have i0 : (0 : Int) ≤ (i : Int) := by omega
  have k0 : (0 : Int) ≤ (k : Int) := by omega
  have k1 : (k : Int) ≤ 1024 := by omega
  have k2 : (i : Int) ≤ 1024 - (k : Int) := by omega
  have k3 : (i : Int) + (k : Int) ≤ 1024 := by omega
  have hl : (((m.mem.drop i).take k).map byteV).length = k := by simp; omega
  have HL := Lib.hid hl
  by_cases h0 : i = 1024
  · have hk : k = 0 := by omega
    subst h0; subst hk
    go_enter Try.func22, Try.ntmps22
    go_wp2_with fail
    refine (clone_bytes _ 0 0 (((m.mem.drop 1024).take 0).map byteV) w HL.out (by simp) (by simp [SrcAt]) (bytes_one _) (by omega)).mono ?_
    rintro e w1 ⟨v, rfl, hr, hc, hb⟩
    obtain ⟨a, cap, rfl, hcap⟩ := hr.shape
    have HR := Lib.hid hr.clip
    have HC := Lib.hid hc
    have HB : Hid (∀ b ∈ rowBlock (.slice a 0 0), w.heap.size ≤ b) := Lib.hid (fun b hb' => hb b (rowBlock_clip a 0 0 cap (by omega) b hb'))
    clear hr hc hb HL hl
    go_wp2_with fail
    refine (clip_bytes a 0 cap w1 hcap.1 hcap.2).mono ?_
    rintro e w2 ⟨rfl, rfl⟩
    go_wp2
    go_ret2
    exact ⟨a, rfl, HR.out, HC.out, HB.out⟩
  · have hsl := fun W => slice_mem_lh W mb i k hi h0
    go_enter Try.func22, Try.ntmps22
    go_wp2_with fail
    refine (clone_bytes _ k (1024 - i) (((m.mem.drop i).take k).map byteV) w HL.out (by simp) (H.out.srcMem i k hi) (bytes_one _) (by omega)).mono ?_
    rintro e w1 ⟨v, rfl, hr, hc, hb⟩
    obtain ⟨a, cap, rfl, hcap⟩ := hr.shape
    have HR := Lib.hid hr.clip
    have HC := Lib.hid hc
    have HB : Hid (∀ b ∈ rowBlock (.slice a k k), w.heap.size ≤ b) := Lib.hid (fun b hb' => hb b (rowBlock_clip a k k cap (by omega) b hb'))
    clear hr hc hb HL hl
    go_wp2_with fail
    refine (clip_bytes a k cap w1 hcap.1 hcap.2).mono ?_
    rintro e w2 ⟨rfl, rfl⟩
    go_wp2
    go_ret2
    exact ⟨a, rfl, HR.out, HC.out, HB.out⟩

set_option maxHeartbeats 1000000 in
theorem load_out (i k : Int) (hi : i < 0 ∨ k < 0 ∨ 1024 < k ∨ 1024 - k < i) (hb : -9223372036854775808 ≤ k ∧ k ≤ 9223372036854775807) :
    Calls Try.prog 22 #[.pointer (some ⟨mb, 0, none⟩), .int .i64 i, .int .i64 k] w fun e w' => e = .returned (.tuple #[.slice none 0 0, .bool false]) ∧ w = w' := by
  by_cases h1 : i < 0
  · clear hi
    go_enter Try.func22, Try.ntmps22
    go_wp2
    go_ret2
    exact ⟨rfl, rfl⟩
  · by_cases h2 : k < 0
    · clear hi
      go_enter Try.func22, Try.ntmps22
      go_wp2
      go_ret2
      exact ⟨rfl, rfl⟩
    · by_cases h3 : 1024 < k
      · clear hi
        go_enter Try.func22, Try.ntmps22
        go_wp2
        go_ret2
        exact ⟨rfl, rfl⟩
      · have h4 : 1024 - k < i := by omega
        clear hi
        go_enter Try.func22, Try.ntmps22
        go_wp2
        go_ret2
        exact ⟨rfl, rfl⟩

/-- bytes stored within its bounds. -/
def StorePost (w : World) (mb cb co cc : Nat) (m : Vm.M) (i : Nat) (ys : List UInt8) : Ending → World → Prop := fun e w' =>
  e = .returned (.bool true) ∧ MachAt w' mb cb co cc (Vm.putM m i ys) ∧ Chg [mb] w w'

theorem MachAt.putM {w' : World} (h : MachAt w mb cb co cc m) (i : Nat) (ys : List UInt8) (hb : i + ys.length ≤ 1024) (ho : w'.heap[mb]? = some (.cells (splice (Vm.cells (.slice (some ⟨cb, co, none⟩) (4 * m.n) cc) m).toList (10 + i) (ys.map byteV)).toArray 71 (0, 0))) (hc : Chg [mb] w w') :
    MachAt w' mb cb co cc (Vm.putM m i ys) := by
  rw [cells_putM _ _ h.r8 h.m1k _ _ hb] at ho
  exact ⟨ho, fun j hj => hc.cell (h.code j hj) (by simpa using h.ne), h.len, h.cap, h.n1, h.r8, by simp [Vm.putM, h.m1k]; omega, h.wf, h.ne⟩

set_option maxHeartbeats 4000000 in
theorem store_in (h : MachAt w mb cb co cc m) (i : Nat) (a : Option Addr) (len cap : Nat) (ys : List UInt8) (hy : Bytes w a len cap ys) (hi : i + len ≤ 1024) (hne : i ≠ 1024) (hmb : ∀ x, a = some x → x.block ≠ mb) :
    Calls Try.prog 24 #[.pointer (some ⟨mb, 0, none⟩), .int .i64 i, .slice a len cap] w (StorePost w mb cb co cc m i ys) := by
  have H := Lib.hid h
  have HY := Lib.hid hy
  have hlen := hy.len
  clear h hy
  have hsl := fun W => slice_mem_l W mb i (by omega)
  have hsz : (Try.prog.info? 5).map (·.size) = some 1 := by kernel_rfl
  go_enter Try.func24, Try.ntmps24
  go_wp2_with fail
  refine (load_in w mb cb co cc m H.out i len hi).mono ?_
  rintro e w1 ⟨g, rfl, hr, hc, -⟩
  have HM1 := Lib.hid (H.out.kept0 hc)
  have HY1 := Lib.hid (HY.out.kept0 hc)
  have HC1 := Lib.hid hc
  clear hr hc HY
  generalize hCS : Vm.cells (.slice (some ⟨cb, co, none⟩) (4 * m.n) cc) m = CS
  have ho : w1.heap[mb]? = some (.cells CS.toList.toArray 71 (0, 0)) := by rw [← hCS]; exact HM1.out.obj
  have hfit : 10 + i + (ys.map byteV).length ≤ CS.toList.length := by
    rw [← hCS]; have := HM1.out.r8; have := HM1.out.m1k; simp [Vm.cells]; omega
  have hmin : (ys.map byteV).length = Nat.min len (1024 - i) := by
    have hm : ∀ a b : Nat, a ≤ b → a.min b = a := fun a b h => Nat.min_eq_left h
    rw [hm _ _ (by omega)]; simp [hlen]
  have hpos : 0 < (ys.map byteV).length → ∃ ad, a = some ad ∧ ∀ j v, (ys.map byteV)[j]? = some v → w1.cell? (ad.add j) = some v := by
    intro hp
    obtain ⟨b, off, h1, h2⟩ := HY1.out.src (by intro e; rw [e] at hp; simp at hp)
    exact ⟨_, h1, fun j v hj => by rw [Addr.add_off]; exact h2 j v hj⟩
  have HO := Lib.hid ho
  have HF := Lib.hid hfit
  have HP := Lib.hid hpos
  have HE := Lib.hid hCS
  clear ho hfit hpos hCS
  go_wp2_with (refine wpList_copy_chg rfl _ _ 26 26 rfl 5 Try.underlying26 hsz (some ⟨mb, 10 + i, none⟩) a (1024 - i) (1024 - i) len cap rfl rfl mb (10 + i) _ 71 HO.out (ys.map byteV) hmin (fun hp => ⟨rfl, HP.out hp⟩) HF.out (bytes_one _) ?_)
  intro w3 ho3 hc3
  have HO3 := Lib.hid ho3
  have HC3 := Lib.hid hc3
  clear ho3 hc3
  go_wp2
  go_ret
  refine ⟨rfl, MachAt.putM w1 mb cb co cc m HM1.out i ys (by omega) ?_ HC3.out, (HC1.out.mono (by simp)).trans HC3.out (by simp)⟩
  rw [HE.out]; exact HO3.out

theorem putM_nil (h1k : m.mem.length = 1024) (i : Nat) : Vm.putM m i [] = m := by
  unfold Vm.putM
  simp

set_option maxHeartbeats 4000000 in
theorem store_end (h : MachAt w mb cb co cc m) (a : Option Addr) (cap : Nat) (hy : Bytes w a 0 cap []) :
    Calls Try.prog 24 #[.pointer (some ⟨mb, 0, none⟩), .int .i64 1024, .slice a 0 cap] w (StorePost w mb cb co cc m 1024 []) := by
  have H := Lib.hid h
  have HY := Lib.hid hy
  have hm1 := h.m1k
  clear h hy
  have hsz : (Try.prog.info? 5).map (·.size) = some 1 := by kernel_rfl
  go_enter Try.func24, Try.ntmps24
  go_wp2_with fail
  refine (load_in w mb cb co cc m H.out 1024 0 (by omega)).mono ?_
  rintro e w1 ⟨g, rfl, hr, hc, -⟩
  have HM1 := Lib.hid (H.out.kept0 hc)
  have HC1 := Lib.hid hc
  clear hr hc HY
  go_wp2_with (refine wpList_copy_nothing rfl _ _ 26 26 rfl 5 Try.underlying26 hsz (some ⟨mb, 10, none⟩) a 0 0 0 cap rfl rfl rfl ?_)
  go_wp2
  go_ret
  refine ⟨rfl, ?_, HC1.out.mono (by simp)⟩
  rw [putM_nil _ hm1]; exact HM1.out

theorem store_out (i : Int) (a : Option Addr) (len cap : Nat) (hi : i < 0 ∨ 1024 < len ∨ 1024 - (len : Int) < i) (hl : len ≤ 9223372036854775807) :
    Calls Try.prog 24 #[.pointer (some ⟨mb, 0, none⟩), .int .i64 i, .slice a len cap] w fun e w' => e = .returned (.bool false) ∧ w = w' := by
  have HO := Lib.hid hi
  clear hi
  go_enter Try.func24, Try.ntmps24
  go_wp2_with fail
  refine (load_out w mb i len (by have := HO.out; omega) (by omega)).mono ?_
  rintro e w1 ⟨rfl, rfl⟩
  go_wp2
  go_ret
  exact ⟨rfl, rfl⟩

theorem Try.machSize : (Try.prog.info? 71).map (·.size) = some 1036 := by kernel_rfl

theorem cells_size (cv : Value) (h8 : m.r.length = 8) (h1k : m.mem.length = 1024) : (Vm.cells cv m).size = 1036 := by
  simp [Vm.cells, h8, h1k]
theorem cells_one (cv : Value) (hv : cv.oneCell' = true) : (Vm.cells cv m).all (·.oneCell') = true := by
  unfold Vm.cells
  rw [List.all_toArray, List.all_eq_true]
  intro x hx
  simp only [List.mem_cons, List.mem_append, List.mem_map, List.not_mem_nil, or_false] at hx
  rcases hx with rfl | rfl | ⟨_, _, rfl⟩ | ⟨_, _, rfl⟩ | rfl | rfl
  · exact hv
  all_goals rfl

set_option maxHeartbeats 4000000 in
set_option maxRecDepth 100000 in
theorem copy_any (h : MachAt w mb cb co cc m) :
    Calls Try.prog 23 #[.pointer (some ⟨mb, 0, none⟩)] w fun e w' => ∃ mb', e = .returned (.pointer (some ⟨mb', 0, none⟩)) ∧ MachAt w' mb' cb co cc m ∧ MachAt w' mb cb co cc m ∧ Chg [] w w' ∧ w.heap.size ≤ mb' := by
  have H := Lib.hid h
  have ho := h.obj
  have hsz := cells_size m (.slice (some ⟨cb, co, none⟩) (4 * m.n) cc) h.r8 h.m1k
  have h1 := cells_one m (.slice (some ⟨cb, co, none⟩) (4 * m.n) cc) rfl
  generalize hCS : Vm.cells (.slice (some ⟨cb, co, none⟩) (4 * m.n) cc) m = CS at *
  have HO := Lib.hid ho
  have HE := Lib.hid hCS
  have hi : (Try.prog.info? 71).map (·.size) = some CS.size := by rw [hsz]; exact Try.machSize
  clear h ho hCS
  go_enter Try.func23, Try.ntmps23
  go_wp2_with (first
    | (refine wpList_load_row rfl 71 _ rfl mb rfl 71 CS (0, 0) _ HO.out Try.underlying71 rfl hi ?_)
    | (refine wpList_store_new _ rfl 71 _ _ rfl rfl _ CS rfl rfl hi (by rw [hsz]; kernel_rfl) h1 ?_))
  go_ret
  have hq : (w.alloc (.cells CS 71)).heap[w.heap.size]? = some (.cells CS 71 (0, 0)) := heap_alloc_new w _
  have h0 := H.out
  have hc : Chg [] w (w.alloc (.cells CS 71)) := (Chg.refl [] w).alloc _
  have hlt : cb < w.heap.size := by
    have := World.block_lt_of_cell? w _ (h0.code 0 (by have := h0.n1; omega))
    exact this
  refine ⟨w.heap.size, rfl, ⟨by rw [HE.out]; exact hq, fun j hj => hc.cell (h0.code j hj) (by simp), h0.len, h0.cap, h0.n1, h0.r8, h0.m1k, h0.wf, by omega⟩, h0.kept0 hc, hc, Nat.le_refl _⟩
end

end Go.Proofs.Ytocjdbenelikpaa
