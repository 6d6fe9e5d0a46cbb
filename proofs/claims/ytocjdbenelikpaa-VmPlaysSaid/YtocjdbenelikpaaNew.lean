/-
  New, walked.
-/
import Derived.Test.YtocjdbenelikpaaValid
import Derived.Test.YtocjdbenelikpaaClone
import Derived.Laws.CopyOwn
namespace Go.Proofs.Ytocjdbenelikpaa
open Go.RowKit
set_option linter.unusedVariables false

/-- an image's machine. -/
def Vm.ofImage (b : List UInt8) : Vm.M :=
  { code := (b.drop 6).take (4 * headN b 2), n := headN b 2, r := List.replicate 8 0,
    mem := b.drop (6 + 4 * headN b 2) ++ List.replicate (1024 - (b.length - (6 + 4 * headN b 2))) 0, pc := 0, stopped := 0 }

/-- bytes laid into its memory. -/
def Vm.putM (m : Vm.M) (at_ : Nat) (ys : List UInt8) : Vm.M := { m with mem := m.mem.take at_ ++ (ys ++ m.mem.drop (at_ + ys.length)) }

theorem cells_putM (cv : Value) (m : Vm.M) (h8 : m.r.length = 8) (h1k : m.mem.length = 1024) (at_ : Nat) (ys : List UInt8) (hb : at_ + ys.length ≤ 1024) :
    splice (Vm.cells cv m).toList (10 + at_) (ys.map byteV) = (Vm.cells cv (Vm.putM m at_ ys)).toList := by
  unfold splice Vm.cells Vm.putM
  simp only [List.length_map]
  have e1 : 10 + at_ = (8 + at_) + 1 + 1 := by omega
  have e2 : 10 + at_ + ys.length = (8 + (at_ + ys.length)) + 1 + 1 := by omega
  rw [e2, e1]
  simp only [List.take_succ_cons, List.drop_succ_cons, List.cons_append]
  congr 2
  have e3 : (List.map (Value.int .i64) m.r).length = 8 := by simpa using h8
  have e4 : (List.map byteV m.mem).length = 1024 := by simpa using h1k
  rw [List.take_append, List.drop_append, e3, List.take_of_length_le (by omega), List.drop_of_length_le (by omega), show 8 + at_ - 8 = at_ from by omega, show 8 + (at_ + ys.length) - 8 = at_ + ys.length from by omega,
    List.take_append_of_le_length (by omega), List.drop_append_of_le_length (by omega)]
  simp [List.map_take, List.map_drop]

/-- the machine as it is made. -/
def Vm.fresh (code : List UInt8) (n : Nat) : Vm.M := { code := code, n := n, r := List.replicate 8 0, mem := List.replicate 1024 0, pc := 0, stopped := 0 }

theorem zeroCells_fresh : Try.zeroCells71 = Vm.cells (.slice none 0 0) (Vm.fresh [] 0) := by kernel_rfl

theorem fresh_cells (cv : Value) (code : List UInt8) (n : Nat) : ((Try.zeroCells71.setIfInBounds 0 cv).setIfInBounds 1 (.int .i64 n)) = Vm.cells cv (Vm.fresh code n) := by
  rw [zeroCells_fresh]
  unfold Vm.cells Vm.fresh
  simp only [List.setIfInBounds_toArray, List.set_cons_zero, List.set_cons_succ]

theorem ofImage_put (b : List UInt8) (hD : b.length - (6 + 4 * headN b 2) ≤ 1024) : Vm.putM (Vm.fresh ((b.drop 6).take (4 * headN b 2)) (headN b 2)) 0 (b.drop (6 + 4 * headN b 2)) = Vm.ofImage b := by
  unfold Vm.putM Vm.fresh Vm.ofImage
  simp only [List.take_zero, List.nil_append, Nat.zero_add, List.drop_replicate, List.length_drop]

theorem Bytes.sub {w : World} {b off len cap : Nat} {bs : List UInt8} (h : Bytes w (some ⟨b, off, none⟩) len cap bs) (i k : Nat) (hi : i + k ≤ len) : SrcAt w (some ⟨b, off + i, none⟩) (((bs.drop i).take k).map byteV) := by
  intro _
  refine ⟨b, off + i, rfl, fun j u hj => ?_⟩
  rw [List.getElem?_map, List.getElem?_take] at hj
  split at hj
  · rename_i hlt
    rw [List.getElem?_drop] at hj
    have := h.cell (i := i + j) (by omega)
    rw [Nat.add_assoc, this]
    cases hq : bs[i + j]? with
    | none => rw [hq] at hj; cases hj
    | some x => rw [hq] at hj; simp at hj; rw [← hj]; simp [List.getD, hq]
  · cases hj

theorem Addr.add_off (g o j : Nat) : (⟨g, o, none⟩ : Addr).add j = ⟨g, o + j, none⟩ := by
  unfold Addr.add
  split <;> simp_all

theorem Bytes.tail {w : World} {b off len cap : Nat} {bs : List UInt8} (h : Bytes w (some ⟨b, off, none⟩) len cap bs) (i : Nat) : ∀ j v, ((bs.drop i).map byteV)[j]? = some v → w.cell? ((⟨b, off + i, none⟩ : Addr).add j) = some v := by
  intro j v hj
  rw [List.getElem?_map, List.getElem?_drop] at hj
  cases hq : bs[i + j]? with
  | none => rw [hq] at hj; cases hj
  | some x =>
    rw [hq] at hj
    simp at hj
    have hl : i + j < len := by rw [← h.len]; exact (List.getElem?_eq_some_iff.1 hq).1
    rw [Addr.add_off, Nat.add_assoc, h.cell hl, ← hj]
    simp [List.getD, hq]

theorem bytesV_one (xs : List UInt8) : ∀ u ∈ xs.map byteV, u.oneCell' = true := by
  intro u hu
  obtain ⟨x, _, rfl⟩ := List.mem_map.1 hu
  rfl

theorem getD_sub (bs : List UInt8) (i k j : Nat) (hj : j < k) : ((bs.drop i).take k).getD j 0 = bs.getD (i + j) 0 := by
  simp [List.getD, hj, List.getElem?_drop]

/-- a good image's instructions are just. -/
theorem ofImage_good (b : List UInt8) (hv : validB b = true) : Vm.Good (Vm.ofImage b) := by
  unfold validB okFrom at hv
  simp only [Bool.and_eq_true, List.drop_zero, List.all_eq_true, List.mem_range] at hv
  refine ⟨fun i hi => ?_, by simp [Vm.ofImage]⟩
  have hi' : i < headN b 2 := hi
  have h := hv.2 i hi'
  show (((b.drop 6).take (4 * headN b 2)).getD (4 * i) 0).toNat < 22 ∧ _
  unfold Vm.ofImage
  dsimp only
  rw [getD_sub _ _ _ _ (by omega), getD_sub _ _ _ _ (by omega), getD_sub _ _ _ _ (by omega), getD_sub _ _ _ _ (by omega)]
  unfold okAt instrOk byteAt at h
  rw [show 6 + 4 * i + 1 = 6 + (4 * i + 1) from by omega, show 6 + 4 * i + 2 = 6 + (4 * i + 2) from by omega, show 6 + 4 * i + 3 = 6 + (4 * i + 3) from by omega] at h
  generalize (b.getD (6 + 4 * i) 0).toNat = c at *
  generalize (b.getD (6 + (4 * i + 1)) 0).toNat = x at *
  generalize (b.getD (6 + (4 * i + 2)) 0).toNat = y at *
  generalize (b.getD (6 + (4 * i + 3)) 0).toNat = k at *
  simp only [Bool.and_eq_true, decide_eq_true_eq, Bool.not_eq_true', Bool.or_eq_false_iff, decide_eq_false_iff_not, Bool.and_eq_false_imp] at h
  obtain ⟨h1, ⟨⟨_, h2⟩, h3⟩, h4⟩ := h
  refine ⟨h1, by omega, by omega, fun hc => ?_⟩
  have hj : (fld c).2.2.2 = true := by
    obtain ⟨q1, q2⟩ := hc
    match c, q1, q2 with
    | 16, _, _ => rfl
    | 17, _, _ => rfl
    | 18, _, _ => rfl
    | c + 19, _, h => exact absurd h (by omega)
  have := h4 hj
  omega

/-- what New leaves. -/
def NewPost (w : World) (bs : List UInt8) : Ending → World → Prop := fun e w' =>
  if validB bs then ∃ mb cb co cc, e = .returned (.tuple #[.pointer (some ⟨mb, 0, none⟩), .int .i64 0]) ∧ MachAt w' mb cb co cc (Vm.ofImage bs) ∧ Vm.Good (Vm.ofImage bs) ∧ Chg [] w w' ∧ w.heap.size ≤ mb ∧ w.heap.size ≤ cb
  else e = .returned (.tuple #[.pointer none, .int .i64 3]) ∧ Chg [] w w'

set_option maxHeartbeats 1000000 in
set_option maxRecDepth 100000 in
theorem new_any (w : World) (a : Option Addr) (len cap : Nat) (bs : List UInt8) (h : Bytes w a len cap bs) :
    Calls Try.prog 12 #[.slice a len cap] w (NewPost w bs) := by
  cases hv : validB bs with
  | false =>
    have H := Lib.hid h
    have HV := Lib.hid hv
    clear h hv
    go_enter Try.func12, Try.ntmps12
    go_wp2_with fail
    refine (valid_any w a len cap bs H.out).mono ?_
    rw [HV.out]
    rintro e w1 ⟨rfl, h1⟩
    have H1 := Lib.hid h1
    clear h1
    go_wp2
    go_ret2
    unfold NewPost
    rw [HV.out]
    exact ⟨rfl, H1.out⟩
  | true =>
    have hs : sizesOk bs = true := by unfold validB at hv; simp at hv; exact hv.1
    have hz : lz bs = true := by unfold sizesOk at hs; simp at hs; exact hs.1
    have hnd : 1 ≤ headN bs 2 ∧ headN bs 2 ≤ 256 ∧ headN bs 4 ≤ 512 ∧ bs.length = 6 + 4 * headN bs 2 + headN bs 4 := by unfold sizesOk at hs; simp at hs; exact hs.2
    have hlen := h.len
    obtain ⟨b, off, rfl⟩ := h.some_ (by omega)
    have hcap := h.cap.1
    have hcm : cap ≤ 9223372036854775807 := by have h1 := h.cap.2; unfold maxLen at h1; omega
    have H := Lib.hid h
    have HS := Lib.hid hs
    have HZ := Lib.hid hz
    have HV := Lib.hid hv
    clear h hv hs hz
    go_enter Try.func12, Try.ntmps12
    go_wp2_with fail
    refine (valid_any w _ len cap bs H.out).mono ?_
    rw [HV.out]
    rintro e w1 ⟨rfl, h1⟩
    have H1 := Lib.hid h1
    clear h1
    go_wp2_with fail
    refine (sizes_any w1 _ len cap bs (H.out.kept0 H1.out)).mono ?_
    unfold SizesPost
    rw [HS.out, HZ.out]
    simp only [if_true]
    obtain ⟨n, hn⟩ : ∃ n, headN bs 2 = n := ⟨_, rfl⟩
    rw [hn] at hnd
    rw [hn]
    generalize headN bs 4 = D at *
    rintro e w2 ⟨rfl, h2⟩
    have H2 := Lib.hid (H1.out.then0 h2)
    clear h2 H1
    go_wp2_with fail
    have HB2 := Lib.hid (H.out.kept0 H2.out)
    refine (clone_bytes (some ⟨b, off + 6, none⟩) (4 * n) (cap - 6) (((bs.drop 6).take (4 * n)).map byteV) w2 (by simp; omega) (by simp) (HB2.out.sub 6 (4 * n) (by omega)) (bytesV_one _) (by omega)).mono ?_
    rintro e w3 ⟨v, rfl, hr, hc, hb⟩
    obtain ⟨g, cap3, cur3, rfl, hg3, hcap3, hcm3, -, hcur3⟩ : ∃ g cap cur, v = .slice (some ⟨g, 0, none⟩) (4 * n) cap ∧ w3.heap[g]? = some (.cells cur 5 (0, 0)) ∧ 4 * n ≤ cap ∧ cap ≤ maxLen ∧ cap * 1 ≤ cur.size ∧ cur.toList.take (4 * n * 1) = ((bs.drop 6).take (4 * n)).map byteV := by
      rcases hr.2 with ⟨h0, _⟩ | hq
      · omega
      · exact hq
    have hgb : w2.heap.size ≤ g := hb g (by simp [rowBlock]; omega)
    have H3 := Lib.hid (H2.out.then0 hc)
    have HG := Lib.hid hg3
    have HK := Lib.hid hcur3
    have HB3 := Lib.hid (HB2.out.kept0 hc)
    have hx2 : w.heap.size ≤ w2.heap.size := H2.out.size
    clear hr hc hb HB2 H2 hg3 hcur3
    have hx : w.heap.size ≤ w3.heap.size := H3.out.size
    go_wp2_with fail
    rw [fresh_cells (.slice (some ⟨g, 0, none⟩) (4 * n) cap3) ((bs.drop 6).take (4 * n)) n]
    have hcl : ((bs.drop (6 + 4 * n)).map byteV).length = D := by simp; omega
    have hfit : 10 + ((bs.drop (6 + 4 * n)).map byteV).length ≤ (Vm.cells (.slice (some ⟨g, 0, none⟩) (4 * n) cap3) (Vm.fresh ((bs.drop 6).take (4 * n)) n)).toList.length := by
      rw [hcl]; simp [Vm.cells, Vm.fresh]; omega
    generalize hCS : Vm.cells (.slice (some ⟨g, 0, none⟩) (4 * n) cap3) (Vm.fresh ((bs.drop 6).take (4 * n)) n) = CS at *
    have HE := Lib.hid hCS
    clear hCS
    generalize hw4 : w3.alloc (.cells CS 71) = w4
    have hobj : w4.heap[w3.heap.size]? = some (.cells CS.toList.toArray 71 (0, 0)) := by subst hw4; exact heap_alloc_new w3 _
    have hb4 : Chg [] w3 w4 := by subst hw4; exact (Chg.refl [] w3).alloc _
    have HO := Lib.hid hobj
    have H4 := Lib.hid hb4
    have hg3 : g < w3.heap.size := lt_of_obj HG.out
    generalize hmb : w3.heap.size = mb at *
    have hsz : (Try.prog.info? 5).map (·.size) = some 1 := by kernel_rfl
    have HF := Lib.hid hfit
    have HS4 := Lib.hid (fun j v hj => H4.out.drew.cell (HB3.out.tail (6 + 4 * n) j v hj) (by simp))
    clear hobj hb4 hfit hw4
    have hl2 : 6 + 4 * (n : Int) ≤ (len : Int) := by omega
    have hl1 : 0 ≤ 6 + 4 * (n : Int) := by omega
    have W1 : IntKind.i64.wrap (4 * (n : Int)) = 4 * (n : Int) := by rw [IntKind.wrap_i64]; omega
    have W2 : IntKind.i64.wrap (6 + 4 * (n : Int)) = 6 + 4 * (n : Int) := by rw [IntKind.wrap_i64]; omega
    have W3 : (6 + 4 * (n : Int)).toNat = 6 + 4 * n := by omega
    have hmin : ((bs.drop (6 + 4 * n)).map byteV).length = Nat.min (len - (6 + 4 * n)) 1024 := by
      rw [hcl]
      have hm : ∀ a b : Nat, a ≤ b → a.min b = a := fun a b h => Nat.min_eq_left h
      rw [hm _ _ (by omega)]; omega
    have hfin : ∀ w5, w5.heap[mb]? = some (.cells (splice CS.toList 10 ((bs.drop (6 + 4 * n)).map byteV)).toArray 71 (0, 0)) → Below mb w3 w5 → NewPost w bs (.returned (.tuple #[.pointer (some ⟨mb, 0, none⟩), .int .i64 0])) w5 := by
      intro w5 ho hb
      unfold NewPost
      rw [HV.out, if_pos rfl]
      have hc5 : Chg [] w3 w5 := Chg.ofBelow (by rw [hmb]; exact hb)
      have hput := ofImage_put bs (by rw [hn]; omega)
      rw [hn] at hput
      refine ⟨mb, g, 0, cap3, rfl, ⟨?_, fun i hi => ?_, ?_, ?_, ?_, ?_, ?_, ?_, by omega⟩, ofImage_good bs HV.out, H3.out.then0 hc5, hmb ▸ H3.out.size, by omega⟩
      · rw [← HE.out, show (10 : Nat) = 10 + 0 from rfl, cells_putM _ _ (by simp [Vm.fresh]) (by simp [Vm.fresh]) _ _ (by simp; omega), hput] at ho
        rw [ho]
        simp [Vm.ofImage, hn]
      · have hi' : i < 4 * n := by simpa [Vm.ofImage, hn] using hi
        rw [Nat.zero_add]
        refine hc5.cell (cells_of_take HG.out HK.out ?_) (by simp)
        have hl : i < ((bs.drop 6).take (4 * n)).length := by simp; omega
        show _ = some (byteV (((bs.drop 6).take (4 * headN bs 2)).getD i 0))
        rw [hn, List.getElem?_map]
        simp only [List.getD, List.getElem?_eq_getElem hl, Option.map_some, Option.getD_some]
      · simp [Vm.ofImage, hn]; omega
      · simp [Vm.ofImage, hn]; unfold maxLen at hcm3; omega
      · simp [Vm.ofImage, hn]; omega
      · simp [Vm.ofImage]
      · simp [Vm.ofImage, hn]; omega
      · intro i hi
        have : Vm.reg (Vm.ofImage bs) i = 0 := by
          unfold Vm.reg Vm.ofImage
          dsimp only
          rw [List.getD_eq_getElem?_getD, List.getElem?_replicate]
          split <;> rfl
        rw [this]; rfl
    have HFIN := Lib.hid hfin
    clear hfin
    by_cases hc6 : cap = 6 + 4 * n
    · have hD0 : D = 0 := by omega
      go_region_law (refine step_copy_splice (by rfl) _ _ 26 26 (by rfl) 5 Try.underlying26 hsz (some ⟨mb, 10, none⟩) (some ⟨b, off, none⟩) 1024 1024 (len - (6 + 4 * n)) (cap - (6 + 4 * n)) (by go_simp) (by go_simp) mb 10 _ 71 HO.out ((bs.drop (6 + 4 * n)).map byteV) hmin (fun hp => absurd hp (by rw [hcl]; omega)) HF.out (bytesV_one _) mb w3 (hmb ▸ H4.out.drew.below) (Nat.le_refl _) ?_; intro w5 hg5 hb5)
      all_goals
        go_wp2
        go_ret2
        exact HFIN.out _ hg5.out hb5
    · go_region_law (refine step_copy_splice (by rfl) _ _ 26 26 (by rfl) 5 Try.underlying26 hsz (some ⟨mb, 10, none⟩) (some ⟨b, off + (6 + 4 * n), none⟩) 1024 1024 (len - (6 + 4 * n)) (cap - (6 + 4 * n)) (by go_simp) (by go_simp) mb 10 _ 71 HO.out ((bs.drop (6 + 4 * n)).map byteV) hmin (fun hp => ⟨by rfl, _, by rfl, fun j v hj => HS4.out j v hj⟩) HF.out (bytesV_one _) mb w3 (hmb ▸ H4.out.drew.below) (Nat.le_refl _) ?_; intro w5 hg5 hb5)
      all_goals
        go_wp2
        go_ret2
        exact HFIN.out _ hg5.out hb5

end Go.Proofs.Ytocjdbenelikpaa
