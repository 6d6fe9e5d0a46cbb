/-
  What an image is: Valid, walked.
-/
import Derived.Test.YtocjdbenelikpaaValidB
import Derived.Deep.LoopGhost
import Derived.Deep.Light
namespace Go.Proofs.Ytocjdbenelikpaa
open Go.RowKit
set_option linter.unusedVariables false

set_option maxHeartbeats 4000000 in
set_option maxRecDepth 100000 in
theorem valid_any (w : World) (a : Option Addr) (len cap : Nat) (bs : List UInt8) (h : Bytes w a len cap bs) :
    Calls Try.prog 18 #[.slice a len cap] w fun e w' => e = .returned (.bool (validB bs)) ∧ Chg [] w w' := by
  cases hs : sizesOk bs with
  | false =>
    have hv : validB bs = false := by unfold validB; rw [hs]; rfl
    rw [hv]
    have H := Lib.hid h
    have HS := Lib.hid hs
    clear h hv hs
    go_enter Try.func18, Try.ntmps18
    go_wp2_with fail
    refine (sizes_any w a len cap bs H.out).mono ?_
    unfold SizesPost
    rw [HS.out]
    rintro e w1 ⟨rfl, h1⟩
    have H1 := Lib.hid h1
    clear h1
    go_wp2
    all_goals
      go_ret
      exact ⟨rfl, H1.out⟩
  | true =>
    have hz : lz bs = true := by unfold sizesOk at hs; simp at hs; exact hs.1
    have hnd : 1 ≤ headN bs 2 ∧ headN bs 2 ≤ 256 ∧ headN bs 4 ≤ 512 ∧ bs.length = 6 + 4 * headN bs 2 + headN bs 4 := by unfold sizesOk at hs; simp at hs; exact hs.2
    have hv : validB bs = okFrom bs (headN bs 2) 0 := by unfold validB; rw [hs]; rfl
    have hlen := h.len
    obtain ⟨b, off, rfl⟩ := h.some_ (by omega)
    have hcap := h.cap.1
    have hcm : cap ≤ 9223372036854775807 := by have h1 := h.cap.2; unfold maxLen at h1; omega
    have H := Lib.hid h
    have HS := Lib.hid hs
    have HZ := Lib.hid hz
    have HV := Lib.hid hv
    clear h hv hs hz
    go_enter Try.func18, Try.ntmps18
    go_wp2_with fail
    refine (sizes_any w _ len cap bs H.out).mono ?_
    unfold SizesPost
    rw [HS.out, HZ.out]
    simp only [if_true]
    generalize headN bs 2 = n at *
    generalize headN bs 4 = D at *
    rintro e w1 ⟨rfl, h1⟩
    have H1 := Lib.hid h1
    clear h1
    go_wp2_with fail
    refine (table_any w1).mono ?_
    rintro e w2 ⟨rfl, h2⟩
    have H2 := Lib.hid (H1.out.then0 h2)
    clear h2 H1
    go_wp2_with (refine wpList_store_new _ rfl 79 _ _ rfl rfl _ tabCells rfl rfl (by kernel_rfl) (by kernel_rfl) (by kernel_rfl) ?_)
    generalize hw3 : w2.alloc (.cells tabCells 79) = w3
    have HT : Hid (TabAt w3 w2.heap.size) := Lib.hid (by subst hw3; exact heap_alloc_new w2 _)
    have HC : Hid (Chg [] w w3) := Lib.hid (by subst hw3; exact H2.out.alloc _)
    generalize w2.heap.size = tb at *
    clear hw3 H2
    go_wp2_with fail
    go_loopg [20] n (fun g vi wr => ∃ i : Nat, i + g = n ∧ vi = .int .i64 i ∧ TabAt wr tb ∧ Chg [] w wr ∧ Hid (validB bs = okFrom bs n i))
    case atStart => exact ⟨0, by omega, rfl, HT.out, HC.out, HV.out⟩
    case round =>
      obtain ⟨i, hi, rfl, ht, hc, hv⟩ := hrel
      clear HT HC HV
      have HTB := Lib.hid ht
      have HC := Lib.hid hc
      clear ht hc
      cases gk with
      | zero =>
        obtain rfl : i = n := by omega
        have hv2 : validB bs = true := by rw [hv.out, okFrom_end _ _ _ (Nat.le_refl _)]
        have HV := Lib.hid hv2
        clear hv hv2
        go_wp2
        go_ret
        exact ⟨by rw [HV.out]; rfl, HC.out⟩
      | succ g =>
        have hin : i < n := by omega
        have HB := Lib.hid (H.out.kept0 HC.out)
        have k0 := HB.out.cell (i := 6 + 4 * i) (by omega)
        have k1 : wr.cell? ⟨b, off + (6 + 4 * i) + 1, none⟩ = _ := HB.out.cell (i := 6 + 4 * i + 1) (by omega)
        have k2 : wr.cell? ⟨b, off + (6 + 4 * i) + 2, none⟩ = _ := HB.out.cell (i := 6 + 4 * i + 2) (by omega)
        have k3 : wr.cell? ⟨b, off + (6 + 4 * i) + 3, none⟩ = _ := HB.out.cell (i := 6 + 4 * i + 3) (by omega)
        have l0 := UInt8.toNat_lt (bs.getD (6 + 4 * i) 0)
        have l1 := UInt8.toNat_lt (bs.getD (6 + 4 * i + 1) 0)
        have l2 := UInt8.toNat_lt (bs.getD (6 + 4 * i + 2) 0)
        have l3 := UInt8.toNat_lt (bs.getD (6 + 4 * i + 3) 0)
        have hst := okFrom_step bs n i hin
        unfold byteV at k0 k1 k2 k3
        unfold okAt byteAt at hst
        generalize (bs.getD (6 + 4 * i) 0).toNat = c at *
        generalize (bs.getD (6 + 4 * i + 1) 0).toNat = x at *
        generalize (bs.getD (6 + 4 * i + 2) 0).toNat = y at *
        generalize (bs.getD (6 + 4 * i + 3) 0).toNat = k at *
        have HST := Lib.hid hst
        clear hst
        have ii : (i : Int) < (n : Int) := by omega
        have hi2 : 4 * i + 10 ≤ cap := by omega
        have hi3 : n ≤ 256 := hnd.2.1
        have e4 : 6 + 4 * i + 4 - (6 + 4 * i) = 4 := by omega
        have HV := Lib.hid hv
        clear hv hlen
        by_cases hc22 : c < 22
        · obtain ⟨t0, t1, t2, t3⟩ := HTB.out.cells hc22
          have hok : instrOk n c x y k = !((!(fld c).1 && x != 0) || (!(fld c).2.1 && y != 0) || (!(fld c).2.2.1 && k != 0) || decide (8 ≤ x) || decide (8 ≤ y) || ((fld c).2.2.2 && decide (n ≤ k))) := by
            unfold instrOk; simp [hc22]
          have HOK := Lib.hid hok
          clear hok
          have ic1 : (c : Int) < 22 := by omega
          generalize hf0 : (fld c).1 = f0 at *
          generalize (fld c).2.1 = f1 at *
          generalize (fld c).2.2.1 = f2 at *
          generalize (fld c).2.2.2 = f3 at *
          clear hf0
          have m1 := fun o => ((Chg.refl [] wr).alloc o).cell k1 (by simp)
          have m2 := fun o => ((Chg.refl [] wr).alloc o).cell k2 (by simp)
          have m3 := fun o => ((Chg.refl [] wr).alloc o).cell k3 (by simp)
          go_wp2
          all_goals try
            (go_ret
             have hbad : instrOk n c x y k = false := by
               rw [HOK.out]
               clear HOK HST HV HTB HB HC H HS HZ m1 m2 m3 k0 k1 k2 k3 t0 t1 t2 t3
               first | grind (splits := 40) | (simp_all <;> omega)
             have hv2 : validB bs = false := by rw [HV.out.out, HST.out, hbad, Bool.false_and]
             exact ⟨by rw [hv2]; rfl, HC.out.alloc _⟩)
          all_goals
            go_roundg g
            case measure => omega
            case rel =>
              go_light
              have hgood : instrOk n c x y k = true := by
                rw [HOK.out]
                clear HOK HST HV HTB HB HC H HS HZ m1 m2 m3 k0 k1 k2 k3 t0 t1 t2 t3
                first | grind (splits := 40) | (simp_all <;> omega)
              exact ⟨i + 1, by omega, by go_num, obj_alloc_old HTB.out _, HC.out.alloc _, Lib.hid (by rw [HV.out.out, HST.out, hgood, Bool.true_and])⟩
        · have hbad : validB bs = false := by
            rw [HV.out.out, HST.out]; unfold instrOk; simp [hc22]
          have HBAD := Lib.hid hbad
          clear hbad
          go_wp2
          go_ret
          exact ⟨by rw [HBAD.out]; rfl, HC.out⟩

end Go.Proofs.Ytocjdbenelikpaa
