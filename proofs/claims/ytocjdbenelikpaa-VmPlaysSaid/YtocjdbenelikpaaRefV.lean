/-
  The document's counts, form and Valid, walked.
-/
import Derived.Test.YtocjdbenelikpaaValidB
import Derived.Deep.LoopGhost
namespace Go.Proofs.Ytocjdbenelikpaa
open Go.RowKit
set_option linter.unusedVariables false
set_option linter.unusedSimpArgs false

/-- the string of these bytes. -/
def strB (bs : List UInt8) : ByteArray := ⟨bs.toArray⟩

theorem strB_size (bs : List UInt8) : (strB bs).size = bs.length := by simp [strB, ByteArray.size]
theorem strB_get (bs : List UInt8) (i : Nat) (h : i < (strB bs).size) : ((strB bs)[i]'h).toNat = (bs.getD i 0).toNat := by
  have hl : i < bs.length := by rw [← strB_size]; exact h
  have : (strB bs)[i]'h = bs[i]'hl := by
    unfold strB
    rfl
  rw [this]
  simp [List.getD, List.getElem?_eq_getElem hl]
theorem strB_extract (bs : List UInt8) (i j : Nat) : (strB bs).extract i j = strB ((bs.drop i).take (j - i)) := by
  unfold strB
  apply ByteArray.ext
  simp

theorem strB_toList (bs : List UInt8) : (strB bs).toList = bs := by
  rw [Lib.toList_data]; simp [strB]

theorem lz_take (bs : List UInt8) (h6 : 6 ≤ bs.length) : (bs.take 2 == [76, 90]) = lz bs := by
  unfold lz
  match bs, h6 with
  | [], h => simp at h
  | [_], h => simp at h
  | x :: y :: r, h => simp; intro _; exact fun _ => by simpa using h

set_option maxHeartbeats 2000000 in
theorem counts_ref (w : World) (bs : List UInt8) (hb : bs.length ≤ 9223372036854775807) :
    Calls Try.prog 37 #[.string (strB bs)] w (SizesPost w bs) := by
  have hsz := strB_size bs
  by_cases h6 : bs.length < 6
  · have e : lz bs = false := by unfold lz; simp; omega
    have e2 : sizesOk bs = false := by unfold sizesOk; rw [e]; rfl
    have HE := Lib.hid (And.intro e e2)
    have h6i : ((strB bs).size : Int) < 6 := by omega
    clear e e2


    go_enter Try.func37, Try.ntmps37
    go_wp2
    go_ret3
    unfold SizesPost
    rw [HE.out.1, HE.out.2]
    exact ⟨rfl, Chg.refl _ _⟩
  · have h6' : 6 ≤ bs.length := by omega
    have h6i : (6 : Int) ≤ ((strB bs).size : Int) := by omega
    have hz : (((strB bs).extract 0 2).toList == [76, 90]) = lz bs := by rw [strB_extract, strB_toList, List.drop_zero]; exact lz_take bs h6'
    have hg := fun i h => strB_get bs i h
    have hn : headN bs 2 = (bs.getD 2 0).toNat * 256 + (bs.getD 3 0).toNat := rfl
    have hd : headN bs 4 = (bs.getD 4 0).toNat * 256 + (bs.getD 5 0).toNat := rfl
    have b2 := UInt8.toNat_lt (bs.getD 2 0)
    have b3 := UInt8.toNat_lt (bs.getD 3 0)
    have b4 := UInt8.toNat_lt (bs.getD 4 0)
    have b5 := UInt8.toNat_lt (bs.getD 5 0)
    have g2 := hg 2 (by omega)
    have g3 := hg 3 (by omega)
    have g4 := hg 4 (by omega)
    have g5 := hg 5 (by omega)
    have l2 : (2 : Int) < ((strB bs).size : Int) := by omega
    have l3 : (3 : Int) < ((strB bs).size : Int) := by omega
    have l4 : (4 : Int) < ((strB bs).size : Int) := by omega
    have l5 : (5 : Int) < ((strB bs).size : Int) := by omega
    have hok : sizesOk bs = (lz bs && decide (1 ≤ headN bs 2 ∧ headN bs 2 ≤ 256 ∧ headN bs 4 ≤ 512 ∧ (strB bs).size = 6 + 4 * headN bs 2 + headN bs 4)) := by
      unfold sizesOk; rw [hsz]
    have hbig : (strB bs).size ≤ 9223372036854775807 := by omega
    unfold SizesPost
    rw [hok]
    clear hg hok


    generalize (bs.getD 2 0).toNat = x2 at *
    generalize (bs.getD 3 0).toNat = x3 at *
    generalize (bs.getD 4 0).toNat = x4 at *
    generalize (bs.getD 5 0).toNat = x5 at *
    have o1 := or_bytes x2 x3 b2 b3
    have o2 := or_bytes x4 x5 b4 b5
    rw [← hn] at o1
    rw [← hd] at o2
    have hN : headN bs 2 ≤ 65535 := by omega
    have hD : headN bs 4 ≤ 65535 := by omega
    clear hn hd
    generalize headN bs 2 = N at *
    generalize headN bs 4 = D at *
    have w2 : IntKind.i64.wrap (x2 : Int) = (x2 : Int) := by rw [IntKind.wrap_i64]; omega
    have w3 : IntKind.i64.wrap (x3 : Int) = (x3 : Int) := by rw [IntKind.wrap_i64]; omega
    have w4 : IntKind.i64.wrap (x4 : Int) = (x4 : Int) := by rw [IntKind.wrap_i64]; omega
    have w5 : IntKind.i64.wrap (x5 : Int) = (x5 : Int) := by rw [IntKind.wrap_i64]; omega
    have m2 : IntKind.i64.wrap ((x2 : Int) * 256) = (x2 : Int) * 256 := by rw [IntKind.wrap_i64]; omega
    have m4 : IntKind.i64.wrap ((x4 : Int) * 256) = (x4 : Int) * 256 := by rw [IntKind.wrap_i64]; omega
    cases hl : lz bs with
    | false =>
      rw [hl] at hz
      go_enter Try.func37, Try.ntmps37
      go_wp2
      go_ret3
      exact ⟨rfl, Chg.refl _ _⟩
    | true =>
      rw [hl] at hz
      go_enter Try.func37, Try.ntmps37
      go_wp2_with fail
      go_region
      go_wp2_with fail
      go_region
      by_cases h1 : 1 ≤ N
      · by_cases h2 : N ≤ 256
        · by_cases h3 : D ≤ 512
          · by_cases h4 : bs.length = 6 + 4 * N + D
            · have hb : ((bs.length : Int) == 6 + 4 * (N : Int) + (D : Int)) = true := by simp; omega
              have HD := Lib.hid (decide_eq_true (p := 1 ≤ N ∧ N ≤ 256 ∧ D ≤ 512 ∧ (strB bs).size = 6 + 4 * N + D) ⟨h1, h2, h3, hsz.trans h4⟩)
              have H4 := Lib.hid h4
              clear h4 g2 g3 g4 g5
              go_wp2
              go_ret3
              refine ⟨?_, (Chg.refl [] w).drew.drew⟩
              first | (rw [HD.out]; rfl) | (simp; exact H4.out)
            · have hb : ((bs.length : Int) == 6 + 4 * (N : Int) + (D : Int)) = false := by simp; omega
              have HD := Lib.hid (decide_eq_false (p := 1 ≤ N ∧ N ≤ 256 ∧ D ≤ 512 ∧ (strB bs).size = 6 + 4 * N + D) (fun h => h4 (hsz.symm.trans h.2.2.2)))
              have H4 := Lib.hid h4
              clear h4 g2 g3 g4 g5
              go_wp2
              go_ret3
              refine ⟨?_, (Chg.refl [] w).drew.drew⟩
              first | (rw [HD.out]; rfl) | (simp; exact H4.out)
          · have HD := Lib.hid (decide_eq_false (p := 1 ≤ N ∧ N ≤ 256 ∧ D ≤ 512 ∧ (strB bs).size = 6 + 4 * N + D) (fun h => h3 h.2.2.1))
            go_wp2
            go_ret3
            refine ⟨?_, (Chg.refl [] w).drew.drew⟩
            first | (rw [HD.out]; rfl) | rfl | simp
        · have HD := Lib.hid (decide_eq_false (p := 1 ≤ N ∧ N ≤ 256 ∧ D ≤ 512 ∧ (strB bs).size = 6 + 4 * N + D) (fun h => h2 h.2.1))
          go_wp2
          go_ret3
          refine ⟨?_, (Chg.refl [] w).drew.drew⟩
          first | (rw [HD.out]; rfl) | rfl | simp
      · have HD := Lib.hid (decide_eq_false (p := 1 ≤ N ∧ N ≤ 256 ∧ D ≤ 512 ∧ (strB bs).size = 6 + 4 * N + D) (fun h => h1 h.1))
        go_wp2
        go_ret3
        refine ⟨?_, (Chg.refl [] w).drew.drew⟩
        first | (rw [HD.out]; rfl) | rfl | simp

def formF (c : Nat) : Bool × Bool × Bool × Bool := if c < 22 then fld c else (true, true, false, false)

set_option maxHeartbeats 2000000 in
theorem form_ref (w : World) (c : Nat) (hc : c < 256) :
    Calls Try.prog 38 #[.int .u8 c] w fun e w' => e = .returned (.tuple #[.agg #[.bool (formF c).1, .bool (formF c).2.1, .bool (formF c).2.2.1, .bool (formF c).2.2.2], .bool (decide (c < 22))]) ∧ Chg [] w w' := by
  have hkey : ∀ (W : World) (g : Nat) (cs : Array Value), W.heap[g]? = some (.cells cs 83 (0, 0)) → cs.size = 4 → ∀ (b : Bool) (tmps : Array Value), tmps.getD 2 undef = .pointer (some ⟨g, 0, none⟩) → tmps.getD 3 undef = .bool b →
      (results Try.f38 tmps).run Try.prog W = .ok (.tuple #[.agg cs, .bool b]) W := by
    intro W g cs hg hsz b tmps h1 h2
    have hsize : (Try.prog.info? 83).map (·.size) = some 4 := by kernel_rfl
    rw [results_cell_tmp rfl, h1, h2, asAddr]
    simp [run_loadVar_row W g 83 83 cs (0, 0) _ hg Try.underlying83 rfl (by rw [hsz]; exact hsize), Result.andThen]
  have HK := Lib.hid hkey
  clear hkey
  by_cases h22 : c < 22
  · match c, h22 with
    | 0, _ | 1, _ | 2, _ | 3, _ | 4, _ | 5, _ | 6, _ | 7, _ | 8, _ | 9, _ | 10, _ | 11, _ | 12, _ | 13, _ | 14, _ | 15, _ | 16, _ | 17, _ | 18, _ | 19, _ | 20, _ | 21, _ =>
      go_enter Try.func38, Try.ntmps38
      go_wp2
      refine bodyPost_ret (HK.out _ w.heap.size _ (heap_alloc_new w _) rfl true _ rfl rfl) rfl ⟨rfl, (Chg.refl [] w).alloc _⟩
    | c + 22, h => exact absurd h (by omega)
  · have hi : (22 : Int) ≤ (c : Int) := by omega
    have e1 : formF c = (true, true, false, false) := by unfold formF; rw [if_neg h22]
    have e2 : decide (c < 22) = false := by simp; omega
    rw [e1, e2]
    go_enter Try.func38, Try.ntmps38
    go_wp2
    refine bodyPost_ret (HK.out _ w.heap.size _ (heap_alloc_new w _) rfl false _ rfl ?_) rfl ⟨rfl, (Chg.refl [] w).alloc _⟩
    show Value.bool (decide ((c : Int) ≤ 20)) = Value.bool false
    rw [decide_eq_false (by omega)]

end Go.Proofs.Ytocjdbenelikpaa
